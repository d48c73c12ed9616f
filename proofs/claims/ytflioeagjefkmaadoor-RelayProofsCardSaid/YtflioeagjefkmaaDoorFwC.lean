/- A frame for walks: what lies in memory, and the operations that read, write and make it. Conditions: none; it speaks of any program. -/
import Derived.Test.YtflioeagjefkmaaDoorFwB
import Derived.Laws.AppendOwn
import Derived.Laws.CopyRow
import Derived.Lib.SlBytesConst
set_option linter.all false
namespace Go.Fw
open Go.RowKit

theorem beq_ne' {d i : Nat} (e : ¬ d = i) : Nat.beq d i = false := beq_ne e

/-- A block's cells. -/
def Row (w : World) (b : Nat) (l : List Value) (t : TypeId) (fr : Nat × Nat) : Prop := w.heap[b]? = some (.cells l.toArray t fr)

theorem Row.lt {w : World} {b : Nat} {l : List Value} {t : TypeId} {fr : Nat × Nat} (h : Row w b l t fr) : b < w.heap.size := (Array.getElem?_eq_some_iff.1 h).1
theorem Row.cell {w : World} {b : Nat} {l : List Value} {t : TypeId} {fr : Nat × Nat} (h : Row w b l t fr) (o : Nat) : w.cell? ⟨b, o, none⟩ = l[o]? := by
  have h' : w.heap[b]? = some (.cells l.toArray t fr) := h
  simp [World.cell?, h']
theorem Row.keep {w w' : World} {b : Nat} {l : List Value} {t : TypeId} {fr : Nat × Nat} (h : Row w b l t fr) {B : Nat} (hb : Below B w w') (hlt : b < B) : Row w' b l t fr := (hb.block b hlt).trans h
theorem Row.keepA {w w' : World} {b : Nat} {l : List Value} {t : TypeId} {fr : Nat × Nat} (h : Row w b l t fr) (hb : Below w.heap.size w w') : Row w' b l t fr := h.keep hb h.lt
theorem Row.keepG {w w' : World} {b : Nat} {l : List Value} {t : TypeId} {fr : Nat × Nat} (h : Row w b l t fr) {r : Option Nat} (hg : w.grownBy w' r) (hne : some b ≠ r) : Row w' b l t fr := (hg.block b h.lt hne).trans h

/-- One new block. -/
structure Al (w w' : World) (b : Nat) (o : Obj) : Prop where
  eq : w' = w.alloc o
  num : b = w.heap.size

namespace Al
variable {w w' : World} {b : Nat} {o : Obj}
theorem below (h : Al w w' b o) : Below w.heap.size w w' := by rw [h.eq]; exact (Below.refl _ _).alloc (Nat.le_refl _) _
theorem at_ (h : Al w w' b o) : w'.heap[b]? = some o := by rw [h.eq, h.num]; exact heap_alloc_new _ _
theorem size (h : Al w w' b o) : w'.heap.size = b + 1 := by rw [h.eq, h.num]; simp
theorem row {l : List Value} {t : TypeId} {fr : Nat × Nat} (h : Al w w' b (.cells l.toArray t fr)) : Row w' b l t fr := h.at_
end Al

theorem drewBelow (w : World) (B : Nat) : Below B w w.drew := (Below.refl _ _).drew

/-- What a slice of m elements of sz cells reads as; its block is one of F's. -/
def Rd (F : Nat → Prop) (w : World) (sz : Nat) (v : Value) (m : Nat) (xs : List Value) : Prop :=
  ∃ a c, v = .slice a m c ∧ xs.length = m * sz ∧ m ≤ c ∧ c ≤ maxLen ∧ (a = none → c = 0) ∧
    (xs ≠ [] → ∃ b off, a = some ⟨b, off, none⟩ ∧ F b ∧ ∀ j u, xs[j]? = some u → w.cell? ⟨b, off + j, none⟩ = some u)

/-- The blocks of F that were there are as they were. -/
def Same (F : Nat → Prop) (w w' : World) : Prop := ∀ k, F k → k < w.heap.size → w'.heap[k]? = w.heap[k]?

theorem Same.ofBelow {w w' : World} (h : Below w.heap.size w w') (F : Nat → Prop) : Same F w w' := fun k _ hk => h.block k hk
theorem Same.ofBelow' {w w' : World} {B : Nat} (h : Below B w w') : Same (· < B) w w' := fun k hk _ => h.block k hk
theorem Same.ofGrown {w w' : World} {r : Option Nat} (h : w.grownBy w' r) {F : Nat → Prop} (hF : ∀ k, F k → some k ≠ r) : Same F w w' := fun k hk hlt => h.block k hlt (hF k hk)
theorem Same.refl (F : Nat → Prop) (w : World) : Same F w w := fun _ _ _ => rfl
theorem Same.trans {F : Nat → Prop} {w w' w'' : World} (h : Same F w w') (hs : w.heap.size ≤ w'.heap.size) (k : Same F w' w'') : Same F w w'' := fun i hi hlt => (k i hi (by omega)).trans (h i hi hlt)
theorem Same.sub {F G : Nat → Prop} {w w' : World} (h : Same F w w') (hs : ∀ k, G k → F k) : Same G w w' := fun k hk hlt => h k (hs k hk) hlt

theorem lt_of_cell {w : World} {b o : Nat} {v : Value} (h : w.cell? ⟨b, o, none⟩ = some v) : b < w.heap.size := World.block_lt_of_cell? w _ h

theorem Rd.keep {F : Nat → Prop} {w w' : World} {sz : Nat} {v : Value} {m : Nat} {xs : List Value} (h : Rd F w sz v m xs) (hs : Same F w w') : Rd F w' sz v m xs := by
  obtain ⟨a, c, hv, hl, hm, hc, hn, hx⟩ := h
  refine ⟨a, c, hv, hl, hm, hc, hn, fun hne => ?_⟩
  obtain ⟨b, off, ha, hF, hcell⟩ := hx hne
  refine ⟨b, off, ha, hF, fun j u hu => ?_⟩
  have h1 := hcell j u hu
  rw [World.cell?_of_block (w := w) (w' := w') (hs b hF (lt_of_cell h1))]
  exact h1
theorem Rd.sub {F G : Nat → Prop} {w : World} {sz : Nat} {v : Value} {m : Nat} {xs : List Value} (h : Rd F w sz v m xs) (hs : ∀ k, F k → G k) : Rd G w sz v m xs := by
  obtain ⟨a, c, hv, hl, hm, hc, hn, hx⟩ := h
  exact ⟨a, c, hv, hl, hm, hc, hn, fun hne => let ⟨b, off, ha, hF, hcell⟩ := hx hne; ⟨b, off, ha, hs _ hF, hcell⟩⟩

theorem Rd.ofOwn {w : World} {B : Nat} {e : TypeId} {sz : Nat} {v : Value} {n : Nat} {xs : List Value} (h : w.ownsRow B e sz v n xs) {F : Nat → Prop} (hF : ∀ k, v.ownBlock = some k → F k) : Rd F w sz v n xs := by
  have hc := fun g hg => h.cells (g := g) hg
  obtain ⟨h1, h2⟩ := h
  rcases h2 with ⟨rfl, rfl⟩ | ⟨g, cap, cur, rfl, hb, hg, hn, hm, hcs, ht⟩
  · refine ⟨none, 0, rfl, h1, by omega, by simp [maxLen], fun _ => rfl, fun hne => ?_⟩
    have : xs = [] := List.eq_nil_of_length_eq_zero (by omega)
    exact absurd this hne
  · refine ⟨_, cap, rfl, h1, hn, hm, (fun h => by cases h), fun _ => ⟨g, 0, rfl, hF g rfl, fun j u hu => ?_⟩⟩
    have := hc g rfl j u hu
    have hadd : (⟨g, 0, none⟩ : Addr).add j = ⟨g, j, none⟩ := by unfold Addr.add; split <;> simp_all
    rw [hadd] at this
    simpa using this

/-- bytes -/
def vb (b : UInt8) : Value := .int .u8 (b.toNat : Int)
def By (F : Nat → Prop) (w : World) (v : Value) (l : List UInt8) : Prop := Rd F w 1 v l.length (l.map vb)
theorem By.keep {F : Nat → Prop} {w w' : World} {v : Value} {l : List UInt8} (h : By F w v l) (hs : Same F w w') : By F w' v l := Rd.keep h hs
theorem By.sub {F G : Nat → Prop} {w : World} {v : Value} {l : List UInt8} (h : By F w v l) (hs : ∀ k, F k → G k) : By G w v l := Rd.sub h hs
theorem vb_oneCell (b : UInt8) : (vb b).oneCell' = true := rfl
theorem vb_all (l : List UInt8) : ∀ u ∈ l.map vb, u.oneCell' = true := by
  intro u hu
  obtain ⟨b, _, rfl⟩ := List.mem_map.1 hu
  rfl

section
variable {P : Program} {ops : Array Oper} {n : Nat} {L : Sl} {rest : List Oper} {w : World} {N : Sl → World → Prop}
variable {d : Nat} {ty : TypeId} {ps : String} {af : Array Edge} {g : Option (Nat × Bool)}

/-- new variables -/
theorem TL.alloc {e : TypeId} {sz by_ : Nat} {z : Value} [he : Inf P e sz by_ z] (hg : gd ops L g = some true) (hd : Nat.blt d n = true)
    (k : ∀ b w', Al w w' b (.cells z.cells e) → TL P ops n ((d, .pointer (some ⟨b, 0, none⟩)) :: L) rest w' N) : TL P ops n L (⟨some d, .alloc e, ty, ps, af, g⟩ :: rest) w N := by
  obtain ⟨i, hi, hs, hby, hz⟩ := he.out
  refine TL.val (.pointer (some ⟨w.heap.size, 0, none⟩)) (w.alloc (.cells z.cells e)) hg hd (fun a ha => ?_) (k _ _ ⟨rfl, rfl⟩)
  simp [execOp, Instr.alloc, zeroValue, typeInfo, hi, hz, newVar, newRow]
theorem TL.box {e : TypeId} {x : Operand} {v : Value} (hg : gd ops L g = some true) (hd : Nat.blt d n = true) (hx : opv L x = some v)
    (k : ∀ b w', Al w w' b (.cells v.cells e) → TL P ops n ((d, .pointer (some ⟨b, 0, none⟩)) :: L) rest w' N) : TL P ops n L (⟨some d, .box e x, ty, ps, af, g⟩ :: rest) w N := by
  refine TL.val (.pointer (some ⟨w.heap.size, 0, none⟩)) (w.alloc (.cells v.cells e)) hg hd (fun a ha => ?_) (k _ _ ⟨rfl, rfl⟩)
  simp [execOp, Instr.box, newVar, newRow, ha.eval hx]

/-- Is it a struct or an array? -/
def aggB : TypeDesc → Bool
  | .struct _ | .array _ _ => true
  | _ => false
theorem run_isAgg {t : TypeId} {td : TypeDesc} (h : P.underlying t = some td) : (isAgg t).run P w = .ok (aggB td) w := by
  unfold isAgg
  rw [Sem.run_bind, run_underlying h w]
  cases td <;> simp [aggB]

class Ag (P : Program) (t : TypeId) (b : outParam Bool) : Prop where
  out : (P.underlying t).map aggB = some b
theorem Ag.get {t : TypeId} {b : Bool} (h : Ag P t b) : ∃ td, P.underlying t = some td ∧ aggB td = b := by
  have := h.out
  cases hu : P.underlying t with
  | none => simp [hu] at this
  | some td => simp [hu] at this; exact ⟨td, rfl, this⟩

theorem Ev.load1 {t : TypeId} [ht : Ag P t false] {x : Operand} {b o : Nat} {v : Value}  (hx : opv L x = some (.pointer (some ⟨b, o, none⟩)))
    (hc : w.cell? ⟨b, o, none⟩ = some v) : Ev P n L ⟨some d, .load t x, ty, ps, af, g⟩ (v) w := by
  obtain ⟨td, hu, hs⟩ := ht.get
  intro a ha
  simp [execOp, Instr.loadAt, Instr.sureAddr, ha.eval hx, loadVar, run_isAgg hu, hs, load, Sem.run, hc]
theorem TL.load1 {t : TypeId} [ht : Ag P t false] {x : Operand} {b o : Nat} {v : Value} (hg : gd ops L g = some true) (hd : Nat.blt d n = true) (hx : opv L x = some (.pointer (some ⟨b, o, none⟩)))
    (hc : w.cell? ⟨b, o, none⟩ = some v) (k : TL P ops n ((d, v) :: L) rest w N) : TL P ops n L (⟨some d, .load t x, ty, ps, af, g⟩ :: rest) w N :=
  TL.ev hg hd (Ev.load1 hx hc) k
theorem TL.loadR {t : TypeId} [ht : Ag P t false] {x : Operand} {b o : Nat} {v : Value} {l : List Value} {e : TypeId} {fr : Nat × Nat} (hg : gd ops L g = some true) (hd : Nat.blt d n = true) (hx : opv L x = some (.pointer (some ⟨b, o, none⟩)))
    (hr : Row w b l e fr) (hv : l[o]? = some v) (k : TL P ops n ((d, v) :: L) rest w N) : TL P ops n L (⟨some d, .load t x, ty, ps, af, g⟩ :: rest) w N :=
  TL.load1 hg hd hx (by rw [hr.cell, hv]) k
theorem Ev.loadA {t : TypeId} [ht : Ag P t true] {sz by_ : Nat} {z : Value} [hi : Inf P t sz by_ z] {x : Operand} {b o : Nat} {xs : List Value}  (hx : opv L x = some (.pointer (some ⟨b, o, none⟩)))
    (hl : xs.length = sz) (hc : ∀ j u, xs[j]? = some u → w.cell? ⟨b, o + j, none⟩ = some u) : Ev P n L ⟨some d, .load t x, ty, ps, af, g⟩ (.agg xs.toArray) w := by
  obtain ⟨td, hu, hs⟩ := ht.get
  intro a ha
  obtain ⟨i, hi, hsz, _, _⟩ := hi.out
  have hload : (loadCells ⟨b, o, none⟩ xs.length).run P w = .ok xs.toArray w := run_loadCells_list (P := P) w _ xs fun j u hu => by
    have hadd : (⟨b, o, none⟩ : Addr).add j = ⟨b, o + j, none⟩ := by unfold Addr.add; split <;> simp_all
    rw [hadd]; exact hc j u hu
  have hsz' : i.size = xs.length := by rw [hsz, hl]
  simp [execOp, Instr.loadAt, Instr.sureAddr, ha.eval hx, loadVar, run_isAgg hu, hs, sizeOf, typeInfo, hi, hsz', hload]
theorem TL.loadA {t : TypeId} [ht : Ag P t true] {sz by_ : Nat} {z : Value} [hi : Inf P t sz by_ z] {x : Operand} {b o : Nat} {xs : List Value} (hg : gd ops L g = some true) (hd : Nat.blt d n = true) (hx : opv L x = some (.pointer (some ⟨b, o, none⟩)))
    (hl : xs.length = sz) (hc : ∀ j u, xs[j]? = some u → w.cell? ⟨b, o + j, none⟩ = some u) (k : TL P ops n ((d, .agg xs.toArray) :: L) rest w N) : TL P ops n L (⟨some d, .load t x, ty, ps, af, g⟩ :: rest) w N :=
  TL.ev hg hd (Ev.loadA hx hl hc) k
theorem TL.loadRA {t : TypeId} [ht : Ag P t true] {sz by_ : Nat} {z : Value} [hi : Inf P t sz by_ z] {x : Operand} {b o : Nat} {A xs C : List Value} {e : TypeId} {fr : Nat × Nat} (hg : gd ops L g = some true) (hd : Nat.blt d n = true) (hx : opv L x = some (.pointer (some ⟨b, o, none⟩)))
    (hr : Row w b (A ++ xs ++ C) e fr) (hA : A.length = o) (hl : xs.length = sz) (k : TL P ops n ((d, .agg xs.toArray) :: L) rest w N) : TL P ops n L (⟨some d, .load t x, ty, ps, af, g⟩ :: rest) w N := by
  refine TL.loadA (xs := xs) hg hd hx hl (fun j u hu => ?_) k
  rw [hr.cell]
  have hj : j < xs.length := (List.getElem?_eq_some_iff.1 hu).1
  rw [List.append_assoc, List.getElem?_append_right (by omega), ← hA, Nat.add_sub_cancel_left, List.getElem?_append_left hj]
  exact hu

/-- a store into a block of one's own -/
theorem run_storeList {b o : Nat} {A old xs C : List Value} {e : TypeId} (hr : Row w b (A ++ old ++ C) e (0, 0)) (hA : A.length = o) (hl : old.length = xs.length) (h1 : ∀ u ∈ xs, u.oneCell' = true) :
    ∃ w', (storeCells ⟨b, o, none⟩ xs).run P w = .ok () w' ∧ w.grownBy w' (some b) ∧ Row w' b (A ++ xs ++ C) e (0, 0) ∧ w'.heap.size = w.heap.size := by
  have hr' : w.heap[b]? = some (.cells (A ++ old ++ C).toArray e (0, 0)) := hr
  have hst := run_storeCells_at P b o e xs 0 (A ++ old ++ C).toArray w hr' (by simp; omega) h1
  simp only [Nat.add_zero] at hst
  refine ⟨_, hst, ⟨rfl, rfl, rfl, by simp, fun k _ hk => setRow_other w b k _ (fun e => hk (by rw [e]))⟩, ?_, by simp⟩
  have h2 : (A ++ old ++ C).take o = A := by rw [List.append_assoc, ← hA]; exact List.take_left
  have h3 : (A ++ old ++ C).drop (o + xs.length) = C := by
    rw [← hl, ← hA, ← List.length_append]
    exact List.drop_left
  show _ = _
  rw [setRow_heap w b _ _ e _ hr', h2, h3]
theorem TL.storeRA {t : TypeId} {sz by_ : Nat} {z : Value} [hi : Inf P t sz by_ z] {x y : Operand} {b o : Nat} {v : Value} {A old xs C : List Value} {e : TypeId} (hg : gd ops L g = some true) (hx : opv L x = some (.pointer (some ⟨b, o, none⟩))) (hy : opv L y = some v)
    (hr : Row w b (A ++ old ++ C) e (0, 0)) (hA : A.length = o) (hv : v.cells.toList = xs) (hl : old.length = xs.length) (hsz : xs.length = sz) (h1 : ∀ u ∈ xs, u.oneCell' = true)
    (k : ∀ w', w.grownBy w' (some b) → Row w' b (A ++ xs ++ C) e (0, 0) → w'.heap.size = w.heap.size → TL P ops n L rest w' N) : TL P ops n L (⟨none, .store t x y, ty, ps, af, g⟩ :: rest) w N := by
  obtain ⟨w', h, h2, h3, h4⟩ := run_storeList (P := P) hr hA hl h1
  refine TL.unit w' hg (fun a ha => ?_) (k w' h2 h3 h4)
  obtain ⟨i, hi, hs, _, _⟩ := hi.out
  have hs' : v.cells.size = i.size := by rw [hs, ← hsz, ← hv]; simp
  simp [execOp, Instr.storeAt, Instr.sureAddr, ha.eval hx, ha.eval hy, storeVar, sizeOf, typeInfo, hi, hs', hv, h]
theorem TL.storeR {t : TypeId} {by_ : Nat} {z : Value} [hi : Inf P t 1 by_ z] {x y : Operand} {b o : Nat} {v old : Value} {A C : List Value} {e : TypeId} (hg : gd ops L g = some true) (hx : opv L x = some (.pointer (some ⟨b, o, none⟩))) (hy : opv L y = some v)
    (hr : Row w b (A ++ [old] ++ C) e (0, 0)) (hA : A.length = o) (h1 : v.oneCell' = true)
    (k : ∀ w', w.grownBy w' (some b) → Row w' b (A ++ [v] ++ C) e (0, 0) → w'.heap.size = w.heap.size → TL P ops n L rest w' N) : TL P ops n L (⟨none, .store t x y, ty, ps, af, g⟩ :: rest) w N := by
  refine TL.storeRA (xs := [v]) hg hx hy hr hA ?_ rfl rfl (by simpa using h1) k
  cases v <;> first | rfl | simp [Value.oneCell'] at h1

/-- an element's address -/
theorem Ev.indexAddrS {t e : TypeId} [ht : Und P t (.slice e)] {sz by_ : Nat} {z : Value} [hi : Inf P e sz by_ z] {x y : Operand} {b o m c : Nat} {ki : IntKind} {i : Int} 
    (hx : opv L x = some (.slice (some ⟨b, o, none⟩) m c)) (hy : opv L y = some (.int ki i)) (h0 : 0 ≤ i) (hm : i < (m : Int)) : Ev P n L ⟨some d, .indexAddr t x y, ty, ps, af, g⟩ (.pointer (some ⟨b, o + i.toNat * sz, none⟩)) w := by
  obtain ⟨inf, hi, hs, _, _⟩ := hi.out
  intro a ha
  have hadd : (⟨b, o, none⟩ : Addr).add (i.toNat * sz) = ⟨b, o + i.toNat * sz, none⟩ := by unfold Addr.add; split <;> simp_all
  simp [execOp, Instr.indexAt, ha.eval hx, ha.eval hy, asIntOf, run_underlying ht.out, h0, hm, sizeOf, typeInfo, hi, hs, hadd]
theorem TL.indexAddrS {t e : TypeId} [ht : Und P t (.slice e)] {sz by_ : Nat} {z : Value} [hi : Inf P e sz by_ z] {x y : Operand} {b o m c : Nat} {ki : IntKind} {i : Int} (hg : gd ops L g = some true) (hd : Nat.blt d n = true)
    (hx : opv L x = some (.slice (some ⟨b, o, none⟩) m c)) (hy : opv L y = some (.int ki i)) (h0 : 0 ≤ i) (hm : i < (m : Int))
    (k : TL P ops n ((d, .pointer (some ⟨b, o + i.toNat * sz, none⟩)) :: L) rest w N) : TL P ops n L (⟨some d, .indexAddr t x y, ty, ps, af, g⟩ :: rest) w N :=
  TL.ev hg hd (Ev.indexAddrS hx hy h0 hm) k
theorem Ev.indexAddrA {t e : TypeId} {len : Nat} [ht : Und P t (.array len e)] {sz by_ : Nat} {z : Value} [hi : Inf P e sz by_ z] {x y : Operand} {b o : Nat} {ki : IntKind} {i : Int} 
    (hx : opv L x = some (.pointer (some ⟨b, o, none⟩))) (hy : opv L y = some (.int ki i)) (h0 : 0 ≤ i) (hm : i < (len : Int)) : Ev P n L ⟨some d, .indexAddr t x y, ty, ps, af, g⟩ (.pointer (some ⟨b, o + i.toNat * sz, none⟩)) w := by
  obtain ⟨inf, hi, hs, _, _⟩ := hi.out
  intro a ha
  have hadd : (⟨b, o, none⟩ : Addr).add (i.toNat * sz) = ⟨b, o + i.toNat * sz, none⟩ := by unfold Addr.add; split <;> simp_all
  simp [execOp, Instr.indexAt, ha.eval hx, ha.eval hy, asIntOf, run_underlying ht.out, Instr.sureAddr, h0, hm, sizeOf, typeInfo, hi, hs, hadd]
theorem TL.indexAddrA {t e : TypeId} {len : Nat} [ht : Und P t (.array len e)] {sz by_ : Nat} {z : Value} [hi : Inf P e sz by_ z] {x y : Operand} {b o : Nat} {ki : IntKind} {i : Int} (hg : gd ops L g = some true) (hd : Nat.blt d n = true)
    (hx : opv L x = some (.pointer (some ⟨b, o, none⟩))) (hy : opv L y = some (.int ki i)) (h0 : 0 ≤ i) (hm : i < (len : Int))
    (k : TL P ops n ((d, .pointer (some ⟨b, o + i.toNat * sz, none⟩)) :: L) rest w N) : TL P ops n L (⟨some d, .indexAddr t x y, ty, ps, af, g⟩ :: rest) w N :=
  TL.ev hg hd (Ev.indexAddrA hx hy h0 hm) k

/-- append to a slice of one's own -/
theorem run_append2 {t e : TypeId} {sz by_ : Nat} {z : Value} (ht : P.underlying t = some (.slice e)) (hi : Inf P e sz by_ z) {sv xv : Value} {B m nn : Nat} {xs news : List Value} {F : Nat → Prop}
    (hown : w.ownsRow B e sz sv nn xs) (hrd : Rd F w sz xv m news) (h1 : ∀ u ∈ news, u.oneCell' = true) (hsz0 : 0 < sz) (hb : (nn + m) * by_ ≤ 140737488355328) (hm : nn + m ≤ maxLen) (hB : B ≤ w.heap.size) :
    ∃ v' w', (Builtin.append_ #[t, t] ty #[sv, xv]).run P w = .ok v' w' ∧ w'.ownsRow B e sz v' (nn + m) (xs ++ news) ∧ w.grownBy w' sv.ownBlock ∧ (∀ k, v'.ownBlock = some k → sv.ownBlock = some k ∨ w.heap.size ≤ k) := by
  obtain ⟨i, hinf, hsz', hby, hz⟩ := hi.out
  have hzs := hi.zs
  obtain ⟨a, c, rfl, hl, hmc, hc, hn, hcell⟩ := hrd
  by_cases hne : news = []
  · subst hne
    have hm0 : m = 0 := by
      rcases Nat.eq_zero_or_pos m with h | h
      · exact h
      · have := Nat.mul_pos h hsz0; simp at hl; omega
    subst hm0
    simp only [Nat.add_zero, List.append_nil]
    refine ⟨sv, w, ?_, hown, ⟨rfl, rfl, rfl, Nat.le_refl _, fun _ _ _ => rfl⟩, fun k hk => .inl hk⟩
    obtain ⟨_, hr⟩ := hown
    rcases hr with ⟨rfl, rfl⟩ | ⟨gg, cap, cur, rfl, _, hgg, hnc, _⟩
    · cases a <;> simp [Builtin.append_, run_underlying ht, sizeOf, typeInfo, hinf, Builtin.lenOf, Builtin.firstCells, loadCells, loadCellsFrom]
    · cases a <;> simp [Builtin.append_, run_underlying ht, sizeOf, typeInfo, hinf, Builtin.lenOf, Builtin.firstCells, loadCells, loadCellsFrom, hnc, storeCells]
  · obtain ⟨b, off, rfl, _, hcells⟩ := hcell hne
    have hcells' : ∀ j u, news[j]? = some u → w.cell? ((⟨b, off, none⟩ : Addr).add j) = some u := fun j u hu => by
      have hadd : (⟨b, off, none⟩ : Addr).add j = ⟨b, off + j, none⟩ := by unfold Addr.add; split <;> simp_all
      rw [hadd]; exact hcells j u hu
    obtain ⟨v', w', hr, h2, h3, _⟩ := run_append_own (P := P) w B t ty e i z sz by_ ht hinf hz hsz' hby hzs hsz0 sv nn xs hown ⟨b, off, none⟩ m c news hl hcells' h1 hm hb hB
    refine ⟨v', w', hr, h2, h3, ?_⟩
    have hm0 : 0 < m := by
      rcases Nat.eq_zero_or_pos m with h | h
      · subst h; simp at hl; exact absurd hl hne
      · exact h
    subst hsz' hby
    simp only [maxLen] at hm
    rcases hown.2 with ⟨rfl, rfl⟩ | ⟨gg, cap, cur, rfl, _, hgg, hnc, hcm, hcs, htake⟩
    · have hr2 := run_append_nil (P := P) w t ty e i z ht hinf hz ⟨b, off, none⟩ m c news hl hcells' hm0 (by omega) (by simp only [Nat.zero_add] at hb; omega)
      rw [hr2] at hr
      simp only [Result.ok.injEq] at hr
      obtain ⟨rfl, _⟩ := hr
      intro k hk; simp [Value.ownBlock] at hk; exact .inr (by omega)
    · by_cases hroom : nn + m ≤ cap
      · have hr2 := run_append_room (P := P) w t ty e i ht hinf gg nn cap cur hgg ⟨b, off, none⟩ m c news hl hcells' h1 hroom (by rw [hl, hcs, ← Nat.add_mul]; exact Nat.mul_le_mul_right _ hroom)
        rw [hr2] at hr
        simp only [Result.ok.injEq] at hr
        obtain ⟨rfl, _⟩ := hr
        intro k hk; simp [Value.ownBlock] at hk; exact .inl (by simp [Value.ownBlock, hk])
      · have hr2 := run_append_grow (P := P) w t ty e i z ht hinf hz ⟨gg, 0, none⟩ nn cap xs hown.1 (hown.cells (g := gg) rfl) ⟨b, off, none⟩ m c news hl hcells' (by omega) (by omega) (growslice_fits (by omega) hb)
        rw [hr2] at hr
        simp only [Result.ok.injEq] at hr
        obtain ⟨rfl, _⟩ := hr
        intro k hk; simp [Value.ownBlock] at hk; exact .inr (by omega)

theorem TL.append {t e : TypeId} [ht : Und P t (.slice e)] {sz by_ : Nat} {z : Value} [hi : Inf P e sz by_ z] {s x : Operand} {sv xv : Value} {B m nn : Nat} {xs news : List Value} {F : Nat → Prop} (hg : gd ops L g = some true) (hd : Nat.blt d n = true)
    (hs : opv L s = some sv) (hx : opv L x = some xv) (hown : w.ownsRow B e sz sv nn xs) (hrd : Rd F w sz xv m news) (h1 : ∀ u ∈ news, u.oneCell' = true) (hsz : Nat.blt 0 sz = true)
    (hb : (nn + m) * by_ ≤ 140737488355328) (hm : nn + m ≤ maxLen) (hB : B ≤ w.heap.size)
    (k : ∀ v' w', w'.ownsRow B e sz v' (nn + m) (xs ++ news) → w.grownBy w' sv.ownBlock → (∀ k, v'.ownBlock = some k → sv.ownBlock = some k ∨ w.heap.size ≤ k) → TL P ops n ((d, v') :: L) rest w' N) :
    TL P ops n L (⟨some d, .call ⟨.builtin .append, #[s, x], #[t, t]⟩, ty, ps, af, g⟩ :: rest) w N := by
  obtain ⟨v', w', hr, h2, h3, h4⟩ := run_append2 (P := P) (ty := ty) ht.out hi hown hrd h1 (by simpa [Nat.blt_eq] using hsz) hb hm hB
  refine TL.val v' w' hg hd (fun a ha => ?_) (k v' w' h2 h3 h4)
  simp [execOp, resolve, invoke, builtin, ha.eval hs, ha.eval hx, hr]

/-- a new slice of given parts, each of one cell -/
theorem fill_row (place : Nat → Option (Nat × Nat)) (hp : ∀ i, place i = some (i * 1, 1)) : ∀ (vs : List Value) (done rest : List Value), (∀ v ∈ vs, v.oneCell' = true) → vs.length = rest.length →
    Instr.fill place (done ++ rest).toArray ((vs.zipIdx done.length).map fun p => (p.2, p.1)) = some (done ++ vs).toArray
  | [], done, rest, _, hl => by
    have : rest = [] := List.eq_nil_of_length_eq_zero (by simpa using hl.symm)
    simp [Instr.fill, this]
  | v :: vs, done, rest, h1, hl => by
    match rest, hl with
    | r :: rest, hl =>
      have hc : v.cells = #[v] := by have := h1 v (by simp); cases v <;> first | rfl | simp [Value.oneCell'] at this
      have hlen : vs.length = rest.length := by simpa using hl
      have ih := fill_row place hp vs (done ++ [v]) rest (fun u hu => h1 u (by simp [hu])) hlen
      simp only [List.zipIdx_cons, List.map_cons, Instr.fill, hp]
      simp only [hc, List.size_toArray, List.length_cons, List.length_nil]
      have hset : (done ++ r :: rest).toArray.setIfInBounds (done.length * 1 + 0) v = (done ++ [v] ++ rest).toArray := by simp
      simp only [List.length_append, List.length_cons, List.length_nil] at ih
      simp at ih hset ⊢
      try rw [hset]
      exact ih
end
end Go.Fw
