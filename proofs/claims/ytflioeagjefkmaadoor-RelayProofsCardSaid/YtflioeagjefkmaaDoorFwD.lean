/- A frame for walks: wraps, new slices, slicing, conversions. Conditions: none; it speaks of any program. -/
import Derived.Test.YtflioeagjefkmaaDoorFwC
import Derived.Laws.BytesArg
import Derived.Lib.SliceRun
import Derived.Lib.Strings
import Derived.Laws.BytesString
set_option linter.all false
namespace Go.Fw
open Go.RowKit

theorem wr_i64 {x : Int} (h1 : -9223372036854775808 ≤ x) (h2 : x < 9223372036854775808) : IntKind.i64.wrap x = x := by
  unfold IntKind.wrap; simp [IntKind.bits, IntKind.signed]; omega
theorem wr_u64 {x : Int} (h1 : 0 ≤ x) (h2 : x < 18446744073709551616) : IntKind.u64.wrap x = x := by
  unfold IntKind.wrap; simp [IntKind.bits, IntKind.signed]; omega
theorem wr_u32 {x : Int} (h1 : 0 ≤ x) (h2 : x < 4294967296) : IntKind.u32.wrap x = x := by
  unfold IntKind.wrap; simp [IntKind.bits, IntKind.signed]; omega
theorem wr_u8 {x : Int} (h1 : 0 ≤ x) (h2 : x < 256) : IntKind.u8.wrap x = x := by
  unfold IntKind.wrap; simp [IntKind.bits, IntKind.signed]; omega
theorem wr_u8_nat (n : Nat) : IntKind.u8.wrap (n : Int) = ((UInt8.ofNat n).toNat : Int) := by
  unfold IntKind.wrap; simp [IntKind.bits, IntKind.signed]
theorem fdiv_nat (n k : Nat) : (n : Int).fdiv (2 ^ k) = ((n / 2 ^ k : Nat) : Int) := by
  rw [Int.fdiv_eq_ediv_of_nonneg _ (by exact Int.le_of_lt (Int.pow_pos (by omega)))]
  push_cast; rfl

def bs (l : List UInt8) : ByteArray := ⟨l.toArray⟩

section
variable {P : Program} {ops : Array Oper} {n : Nat} {L : Sl} {rest : List Oper} {w : World} {N : Sl → World → Prop}
variable {d : Nat} {ty : TypeId} {ps : String} {af : Array Edge} {g : Option (Nat × Bool)}

def partsFrom : Nat → List Operand → List (Nat × Operand)
  | _, [] => []
  | i, x :: xs => (i, x) :: partsFrom (i + 1) xs
theorem partsFrom_map {ρ : Operand → Value} : ∀ (i : Nat) (xs : List Operand), (partsFrom i xs).map (fun p => (p.1, ρ p.2)) = ((xs.map ρ).zipIdx i).map fun p => (p.2, p.1)
  | _, [] => rfl
  | i, x :: xs => by simp [partsFrom, partsFrom_map (i + 1) xs]

theorem run_buildSlice {t e : TypeId} {by_ : Nat} {z : Value} (ht : P.underlying t = some (.slice e)) (hi : Inf P e 1 by_ z) {len : Nat} {vs : List Value} {ps : Array (Nat × Value)} (hp : ps.toList = (vs.zipIdx 0).map fun p => (p.2, p.1))
    (hl : vs.length = len) (h1 : ∀ v ∈ vs, v.oneCell' = true) (hs : len ≤ 65536) : (Instr.buildSlice t len ps).run P w = .ok (.slice (some ⟨w.heap.size, 0, none⟩) len len) (w.alloc (.cells vs.toArray e)) := by
  obtain ⟨i, hinf, hsz, hby, hz⟩ := hi.out
  have hzs := hi.zs
  have hzero : (Array.range (len * 1)).map (fun j => z.cells[j % z.cells.size]!) = (List.replicate len (z.cells[0]!)).toArray := by
    apply Array.ext
    · simp
    · intro j h1 h2
      simp [hzs, Nat.mod_one]
  have hfill := fill_row (fun i => some (i * 1, 1)) (fun _ => rfl) vs [] (List.replicate len (z.cells[0]!)) h1 (by simp [hl])
  simp only [List.nil_append, List.length_nil] at hfill
  rw [← hp, ← hzero] at hfill
  have hbig : ¬ (2 ^ 24 < len * 1) := by omega
  have hsizeOf : (sizeOf e).run P w = .ok 1 w := by simp [sizeOf, typeInfo, hinf, hsz]
  by_cases h0 : len = 0
  · have h0' : len * 1 = 0 := by omega
    have hr0' : True := trivial
    have hfill0 : Instr.fill (fun i => some (i * 1, 1)) #[] ps.toList = some vs.toArray := by
      rw [hzero, h0] at hfill; exact hfill
    have hr0 : (Array.range (len * 1)) = #[] := by subst h0; rfl
    simp only [Instr.buildSlice, Sem.run_bind, run_underlying ht, Result.andThen_ok, hsizeOf, gt_iff_lt, if_neg hbig, if_pos h0', Sem.run_pure, hr0, Array.map_empty, hfill0]
    simp [newRow]
  · have h0' : ¬ len * 1 = 0 := by omega
    have hzv : (zeroValue e).run P w = .ok z w := by simp [zeroValue, typeInfo, hinf, hz]
    simp only [Instr.buildSlice, Sem.run_bind, run_underlying ht, Result.andThen_ok, hsizeOf, gt_iff_lt, if_neg hbig, if_neg h0', Sem.run_pure, hzv, hfill]
    simp [newRow]

theorem TL.buildSlice {t e : TypeId} [ht : Und P t (.slice e)] {by_ : Nat} {z : Value} [hi : Inf P e 1 by_ z] {len : Nat} {vs : List Value} (hg : gd ops L g = some true) (hd : Nat.blt d n = true)
    {parts : List (Nat × Operand)} (hp : parts = partsFrom 0 (parts.map Prod.snd)) (hv : opvs L (parts.map Prod.snd) = some vs) (hl : vs.length = len) (h1 : ∀ v ∈ vs, v.oneCell' = true) (hs : Nat.ble len 65536 = true)
    (k : ∀ b w', Al w w' b (.cells vs.toArray e) → TL P ops n ((d, .slice (some ⟨b, 0, none⟩) len len) :: L) rest w' N) :
    TL P ops n L (⟨some d, .buildSlice t len parts.toArray, ty, ps, af, g⟩ :: rest) w N := by
  refine TL.val _ _ hg hd (fun a ha => ?_) (k _ _ ⟨rfl, rfl⟩)
  have hmap : (parts.toArray.map fun p => (p.1, a.eval p.2)).toList = (vs.zipIdx 0).map fun p => (p.2, p.1) := by
    have e1 : (parts.toArray.map fun p => (p.1, a.eval p.2)).toList = parts.map fun p => (p.1, a.eval p.2) := by simp
    rw [e1]
    rw [hp, partsFrom_map, opvs_eval ha hv]
  have hr := run_buildSlice (P := P) (w := w) ht.out hi hmap hl h1 (Nat.le_of_ble_eq_true hs)
  simp only [execOp, Sem.run_bind]
  rw [hr]
  simp

theorem Al.rd {w' : World} {b : Nat} {vs : List Value} {e : TypeId} {len : Nat} (h : Al w w' b (.cells vs.toArray e)) (hl : vs.length = len) (hm : len ≤ maxLen) : Rd (· = b) w' 1 (.slice (some ⟨b, 0, none⟩) len len) len vs :=
  ⟨_, _, rfl, by omega, Nat.le_refl _, hm, (fun h => by cases h), fun _ => ⟨b, 0, rfl, rfl, fun j u hu => by rw [Row.cell (l := vs) h.at_]; simpa using hu⟩⟩

/-- A row of one's own, and what became of the world since w0. -/
structure Acc (B : Nat) (w0 w : World) (e : TypeId) (sz : Nat) (v : Value) (n : Nat) (xs : List Value) : Prop where
  own : w.ownsRow B e sz v n xs
  below : Below B w0 w
  base : B ≤ w0.heap.size

namespace Acc
variable {B : Nat} {w0 w w' : World} {e : TypeId} {sz : Nat} {v : Value} {m : Nat} {xs : List Value}
theorem nil (w : World) (e : TypeId) (sz : Nat) : Acc w.heap.size w w e sz (.slice none 0 0) 0 [] := ⟨World.ownsRow_nil _ _ _ _, Below.refl _ _, Nat.le_refl _⟩
theorem nil' (B : Nat) (w0 w : World) (h : Below B w0 w) (hB : B ≤ w0.heap.size) (e : TypeId) (sz : Nat) : Acc B w0 w e sz (.slice none 0 0) 0 [] := ⟨World.ownsRow_nil _ _ _ _, h, hB⟩
theorem le (h : Acc B w0 w e sz v m xs) : B ≤ w.heap.size := Nat.le_trans h.base h.below.size
theorem keep (h : Acc B w0 w e sz v m xs) (hb : Below w.heap.size w w') : Acc B w0 w' e sz v m xs :=
  ⟨h.own.kept (row := none) ⟨hb.os, hb.tape, hb.output, hb.size, fun k hk _ => hb.block k hk⟩ (by cases hv : v.ownBlock <;> simp), h.below.trans (hb.mono h.le), h.base⟩
theorem keepG {r : Option Nat} (h : Acc B w0 w e sz v m xs) (hg : w.grownBy w' r) (hne : v.ownBlock = none ∨ v.ownBlock ≠ r) (hr : ∀ k, r = some k → B ≤ k) : Acc B w0 w' e sz v m xs :=
  ⟨h.own.kept hg hne, h.below.grown hg h.le hr, h.base⟩
theorem blk (h : Acc B w0 w e sz v m xs) : ∀ k, v.ownBlock = some k → B ≤ k ∧ k < w.heap.size := h.own.lt
theorem shape (h : Acc B w0 w e sz v m xs) : ∃ a c, v = .slice a m c := by
  rcases h.own.2 with ⟨rfl, rfl⟩ | ⟨g, cap, cur, rfl, _⟩
  · exact ⟨_, _, rfl⟩
  · exact ⟨_, _, rfl⟩
theorem bytes {l l' : List UInt8} (h : Acc B w0 w e 1 v (l.length + l'.length) (l.map vb ++ l'.map vb)) : Acc B w0 w e 1 v (l ++ l').length ((l ++ l').map vb) := by
  rw [List.length_append, List.map_append]; exact h
theorem toB {l : List UInt8} (h : Acc B w0 w e 1 v m xs) (hx : xs = l.map vb) : Acc B w0 w e 1 v l.length (l.map vb) := by
  subst hx
  have := h.own.1
  simp at this
  rw [this]; exact h
theorem rd (h : Acc B w0 w e sz v m xs) : Rd (B ≤ ·) w sz v m xs := Rd.ofOwn h.own fun k hk => (h.blk k hk).1
theorem by_ {l : List UInt8} (h : Acc B w0 w e 1 v l.length (l.map vb)) : By (B ≤ ·) w v l := h.rd
theorem mono {B' : Nat} (h : Acc B w0 w e sz v m xs) (hB : B' ≤ B) : Acc B' w0 w e sz v m xs := by
  refine ⟨⟨h.own.1, ?_⟩, h.below.mono hB, Nat.le_trans hB h.base⟩
  rcases h.own.2 with h | ⟨g, cap, cur, hv, hb, r⟩
  · exact .inl h
  · exact .inr ⟨g, cap, cur, hv, Nat.le_trans hB hb, r⟩
theorem since {w1 : World} (h : Acc w1.heap.size w1 w e sz v m xs) (hb : Below B w0 w1) (hB : B ≤ w0.heap.size) : Acc B w0 w e sz v m xs :=
  have h1 : B ≤ w1.heap.size := Nat.le_trans hB hb.size
  have h2 := h.mono h1
  ⟨h2.own, hb.trans h2.below, hB⟩
end Acc

theorem Al.acc {w' : World} {b : Nat} {vs : List Value} {e : TypeId} {sz len : Nat} (h : Al w w' b (.cells vs.toArray e)) (hl : vs.length = len * sz) (hm : len ≤ maxLen) : Acc w.heap.size w w' e sz (.slice (some ⟨b, 0, none⟩) len len) len vs :=
  ⟨⟨hl, .inr ⟨b, len, vs.toArray, rfl, by rw [h.num]; exact Nat.le_refl _, h.at_, Nat.le_refl _, hm, by simpa using hl, by rw [← hl]; simp⟩⟩, h.below, Nat.le_refl _⟩

theorem TL.push {t e : TypeId} [ht : Und P t (.slice e)] {sz by_ : Nat} {z : Value} [hi : Inf P e sz by_ z] {s x : Operand} {sv xv : Value} {B m nn : Nat} {xs news : List Value} {F : Nat → Prop} {w0 : World} (hg : gd ops L g = some true) (hd : Nat.blt d n = true)
    (hs : opv L s = some sv) (hx : opv L x = some xv) (hacc : Acc B w0 w e sz sv nn xs) (hrd : Rd F w sz xv m news) (h1 : ∀ u ∈ news, u.oneCell' = true) (hsz : Nat.blt 0 sz = true)
    (hb : (nn + m) * by_ ≤ 140737488355328) (hm : nn + m ≤ maxLen)
    (k : ∀ v' w', Acc B w0 w' e sz v' (nn + m) (xs ++ news) → w.grownBy w' sv.ownBlock → (∀ k, v'.ownBlock = some k → sv.ownBlock = some k ∨ w.heap.size ≤ k) → TL P ops n ((d, v') :: L) rest w' N) :
    TL P ops n L (⟨some d, .call ⟨.builtin .append, #[s, x], #[t, t]⟩, ty, ps, af, g⟩ :: rest) w N :=
  TL.append hg hd hs hx hacc.own hrd h1 hsz hb hm hacc.le fun v' w' hown hgr hob => k v' w' ⟨hown, hacc.below.grown hgr hacc.le (fun k hk => (hacc.blk k hk).1), hacc.base⟩ hgr hob

theorem Ev.eqStr {t t' : TypeId} {x y : Operand} {a b : List UInt8}  (hx : opv L x = some (.string (bs a))) (hy : opv L y = some (.string (bs b)))
    {r : Bool} (hr : (a == b) = r) : Ev P n L ⟨some d, .binOp .eql t x y t', ty, ps, af, g⟩ (.bool r) w := by
  have e : ∀ l : List UInt8, (bs l).toList = l := fun l => by rw [Lib.toList_data]; rfl
  subst hr
  exact (fun s ha => by simp only [execOp, ha.eval hx, ha.eval hy]; simp [eqGuard, binOp, Op.stringOp, e])
theorem TL.eqStr {t t' : TypeId} {x y : Operand} {a b : List UInt8} (hg : gd ops L g = some true) (hd : Nat.blt d n = true) (hx : opv L x = some (.string (bs a))) (hy : opv L y = some (.string (bs b)))
    {r : Bool} (hr : (a == b) = r) (k : TL P ops n ((d, .bool r) :: L) rest w N) : TL P ops n L (⟨some d, .binOp .eql t x y t', ty, ps, af, g⟩ :: rest) w N :=
  TL.ev hg hd (Ev.eqStr hx hy hr) k
theorem Ev.eqNil {t t' e : TypeId} [ht : Und P t (.slice e)] {x y : Operand} {a : Option Addr} {m c : Nat}  (hx : opv L x = some (.slice a m c)) (hy : opv L y = some (.slice none 0 0)) : Ev P n L ⟨some d, .binOp .eql t x y t', ty, ps, af, g⟩ (.bool a.isNone) w := by
  intro s ha
  have := Lib.run_eql_slice_nil (P := P) w t e a m c 0 0 ht.out
  simp only [execOp, ha.eval hx, ha.eval hy, eqGuard]
  simp [this]
theorem TL.eqNil {t t' e : TypeId} [ht : Und P t (.slice e)] {x y : Operand} {a : Option Addr} {m c : Nat} (hg : gd ops L g = some true) (hd : Nat.blt d n = true) (hx : opv L x = some (.slice a m c)) (hy : opv L y = some (.slice none 0 0))
    (k : TL P ops n ((d, .bool a.isNone) :: L) rest w N) : TL P ops n L (⟨some d, .binOp .eql t x y t', ty, ps, af, g⟩ :: rest) w N :=
  TL.ev hg hd (Ev.eqNil hx hy) k
theorem wr_succ {k : Nat} (h : k < 9223372036854775807) : IntKind.i64.wrap ((k : Int) + 1) = ((k + 1 : Nat) : Int) := by
  rw [wr_i64 (by omega) (by omega)]; push_cast; rfl

theorem Rd.elem {F : Nat → Prop} {sz : Nat} {v : Value} {m : Nat} {xs : List Value} (h : Rd F w sz v m xs) (hne : xs ≠ []) :
    ∃ b off c, v = .slice (some ⟨b, off, none⟩) m c ∧ F b ∧ ∀ j u, xs[j]? = some u → w.cell? ⟨b, off + j, none⟩ = some u := by
  obtain ⟨a, c, rfl, hl, hm, hc, hn, hx⟩ := h
  obtain ⟨b, off, rfl, hF, hcell⟩ := hx hne
  exact ⟨b, off, c, rfl, hF, hcell⟩

/-- xs[j] of a slice of one-cell elements: the address, then the load -/
theorem TL.elem1 {t e t' : TypeId} [ht : Und P t (.slice e)] {by_ : Nat} {z : Value} [hi : Inf P e 1 by_ z] [ha : Ag P t' false] {x y : Operand} {d' : Nat} {ty' : TypeId} {ps' : String} {af' : Array Edge} {g' : Option (Nat × Bool)}
    {v u : Value} {m j : Nat} {xs : List Value} {F : Nat → Prop} {ki : IntKind} {i : Int} (hg : gd ops L g = some true) (hd : Nat.blt d n = true) (hg' : ∀ p, gd ops ((d, .pointer p) :: L) g' = some true) (hd' : Nat.blt d' n = true)
    (hx : opv L x = some v) (hy : opv L y = some (.int ki i)) (hrd : Rd F w 1 v m xs) (hij : i = (j : Int)) (hu : xs[j]? = some u)
    (k : ∀ p, TL P ops n ((d', u) :: (d, .pointer p) :: L) rest w N) :
    TL P ops n L (⟨some d, .indexAddr t x y, ty, ps, af, g⟩ :: ⟨some d', .load t' (.tmp d), ty', ps', af', g'⟩ :: rest) w N := by
  have hj : j < xs.length := (List.getElem?_eq_some_iff.1 hu).1
  have hm : xs.length = m := by obtain ⟨_, _, _, hl, _⟩ := hrd; omega
  obtain ⟨b, off, c, rfl, _, hcell⟩ := hrd.elem (by rintro rfl; simp at hj)
  subst hij
  refine TL.indexAddrS hg hd hx hy (by omega) (by omega) ?_
  have hc := hcell j u hu
  refine TL.load1 (hg' _) hd' (b := b) (o := off + (j : Int).toNat * 1) (by simp [opv, lk]) (by simpa using hc) (k _)

/-- xs[j] of a slice of elements of several cells -/
theorem TL.elemA {t e t' : TypeId} [ht : Und P t (.slice e)] {sz by_ : Nat} {z : Value} [hi : Inf P e sz by_ z] [ha : Ag P t' true] [hi' : Inf P t' sz by_ z] {x y : Operand} {d' : Nat} {ty' : TypeId} {ps' : String} {af' : Array Edge} {g' : Option (Nat × Bool)}
    {v : Value} {m j : Nat} {A us C : List Value} {F : Nat → Prop} {ki : IntKind} {i : Int} (hg : gd ops L g = some true) (hd : Nat.blt d n = true) (hg' : ∀ p, gd ops ((d, .pointer p) :: L) g' = some true) (hd' : Nat.blt d' n = true)
    (hx : opv L x = some v) (hy : opv L y = some (.int ki i)) (hrd : Rd F w sz v m (A ++ us ++ C)) (hij : i = (j : Int)) (hA : A.length = j * sz) (hus : us.length = sz) (hsz : Nat.blt 0 sz = true)
    (k : ∀ p, TL P ops n ((d', .agg us.toArray) :: (d, .pointer p) :: L) rest w N) :
    TL P ops n L (⟨some d, .indexAddr t x y, ty, ps, af, g⟩ :: ⟨some d', .load t' (.tmp d), ty', ps', af', g'⟩ :: rest) w N := by
  have hsz0 : 0 < sz := by simpa [Nat.blt_eq] using hsz
  have hm : (A ++ us ++ C).length = m * sz := by obtain ⟨_, _, _, hl, _⟩ := hrd; exact hl
  have hj : j < m := by
    simp only [List.length_append, hA, hus] at hm
    have : (j + 1) * sz ≤ m * sz := by rw [Nat.add_mul]; omega
    have := Nat.le_of_mul_le_mul_right this hsz0
    omega
  obtain ⟨b, off, c, rfl, _, hcell⟩ := hrd.elem (by intro h; rw [h] at hm; simp at hm; have := Nat.mul_pos (by omega : 0 < m) hsz0; omega)
  subst hij
  refine TL.indexAddrS hg hd hx hy (by omega) (by omega) ?_
  refine TL.loadA (xs := us) (hg' _) hd' (b := b) (o := off + (j : Int).toNat * sz) (by simp [opv, lk]) hus (fun i u hu => ?_) (k _)
  have hi := hcell (j * sz + i) u (by
    have hlt : i < us.length := (List.getElem?_eq_some_iff.1 hu).1
    rw [List.append_assoc, List.getElem?_append_right (by omega), hA, Nat.add_sub_cancel_left, List.getElem?_append_left hlt]
    exact hu)
  simpa [Nat.add_assoc] using hi

/-- a slice of slices of bytes -/
def Bys (F : Nat → Prop) (w : World) (vs : List Value) (ls : List (List UInt8)) : Prop := vs.length = ls.length ∧ ∀ (i : Nat) (v : Value) (l : List UInt8), vs[i]? = some v → ls[i]? = some l → By F w v l
def BB (F G : Nat → Prop) (w : World) (v : Value) (ls : List (List UInt8)) : Prop := ∃ vs, Rd F w 1 v ls.length vs ∧ Bys G w vs ls
theorem Bys.keep {F : Nat → Prop} {w w' : World} {vs : List Value} {ls : List (List UInt8)} (h : Bys F w vs ls) (hs : Same F w w') : Bys F w' vs ls := ⟨h.1, fun i v l hv hl => (h.2 i v l hv hl).keep hs⟩
theorem BB.keep {F G : Nat → Prop} {w w' : World} {v : Value} {ls : List (List UInt8)} (h : BB F G w v ls) (hs : Same F w w') (hs' : Same G w w') : BB F G w' v ls :=
  let ⟨vs, hr, hb⟩ := h; ⟨vs, hr.keep hs, hb.keep hs'⟩

/-- a store at a place of a row of one's own -/
theorem TL.storeRS {t : TypeId} {by_ : Nat} {z : Value} [hi : Inf P t 1 by_ z] {x y : Operand} {b o i : Nat} {v : Value} {l : List Value} {e : TypeId} (hg : gd ops L g = some true) (hx : opv L x = some (.pointer (some ⟨b, o, none⟩))) (hy : opv L y = some v)
    (hr : Row w b l e (0, 0)) (ho : o = i) (hil : i < l.length) (h1 : v.oneCell' = true)
    (k : ∀ w', w.grownBy w' (some b) → Row w' b (l.set i v) e (0, 0) → w'.heap.size = w.heap.size → TL P ops n L rest w' N) : TL P ops n L (⟨none, .store t x y, ty, ps, af, g⟩ :: rest) w N := by
  have hsplit : l.take i ++ [l[i]] ++ l.drop (i + 1) = l := by simp
  refine TL.storeR (A := l.take i) (old := l[i]) (C := l.drop (i + 1)) hg hx hy (by rw [hsplit]; exact hr) (by simp; omega) h1 fun w' hgr hrow hsz => k w' hgr ?_ hsz
  have hset : l.take i ++ [v] ++ l.drop (i + 1) = l.set i v := by
    rw [List.set_eq_take_append_cons_drop, if_pos hil]; simp
  rw [hset] at hrow; exact hrow

/-- a call that leaves the world as it is -/
theorem TL.callS {f : FuncId} [hc : Cal P f] {xs : List Operand} {ts : Array TypeId} {vs : List Value} {v : Value} (hg : gd ops L g = some true) (hd : Nat.blt d n = true)
    (ha : opvs L xs = some vs) (hcall : Ret P f vs.toArray w fun u w' => u = v ∧ w' = w)
    (k : TL P ops n ((d, v) :: L) rest w N) : TL P ops n L (⟨some d, .call ⟨.value (.func f), xs.toArray, ts⟩, ty, ps, af, g⟩ :: rest) w N :=
  TL.call hg hd ha hcall fun u w' ⟨h1, h2⟩ => by subst h1; subst h2; exact k

/-- an array of given parts, each of one cell -/
theorem Ev.buildA {t e : TypeId} {len : Nat} [ht : Und P t (.array len e)] {by1 by2 : Nat} {z1 z2 : Value} [hi : Inf P e 1 by1 z1] [ht' : Inf P t len by2 z2] {parts : List (Nat × Operand)} {vs : List Value}
    (hp : parts = partsFrom 0 (parts.map Prod.snd)) (hv : opvs L (parts.map Prod.snd) = some vs) (hl : vs.length = len) (h1 : ∀ v ∈ vs, v.oneCell' = true) : Ev P n L ⟨some d, .build t parts.toArray, ty, ps, af, g⟩ (.agg vs.toArray) w := by
  obtain ⟨i, hinf, hsz, _, _⟩ := hi.out
  obtain ⟨i2, hinf2, _, _, hz2⟩ := ht'.out
  have hzs := ht'.zs
  intro s ha
  have hmap : (parts.toArray.map fun p => (p.1, s.eval p.2)).toList = (vs.zipIdx 0).map fun p => (p.2, p.1) := by
    have e1 : (parts.toArray.map fun p => (p.1, s.eval p.2)).toList = parts.map fun p => (p.1, s.eval p.2) := by simp
    rw [e1]
    rw [hp, partsFrom_map, opvs_eval ha hv]
  have hfill := fill_row (fun i => some (i * 1, 1)) (fun _ => rfl) vs [] z2.cells.toList h1 (by simp [hl, hzs])
  simp only [List.nil_append, List.length_nil, Array.toArray_toList] at hfill
  have hsizeOf : (sizeOf e).run P w = .ok 1 w := by simp [sizeOf, typeInfo, hinf, hsz]
  have hzv : (zeroValue t).run P w = .ok z2 w := by simp [zeroValue, typeInfo, hinf2, hz2]
  simp only [execOp, Instr.build, Sem.run_bind, hzv, Result.andThen_ok, run_underlying ht.out, hsizeOf, hmap, hfill, Sem.run_pure]

theorem grown_refl (w : World) (r : Option Nat) : w.grownBy w r := ⟨rfl, rfl, rfl, Nat.le_refl _, fun _ _ _ => rfl⟩
theorem grown_trans {w w1 w2 : World} {r : Option Nat} (h : w.grownBy w1 r) (k : w1.grownBy w2 r) : w.grownBy w2 r :=
  ⟨k.os.trans h.os, k.tape.trans h.tape, k.output.trans h.output, Nat.le_trans h.size k.size, fun i hi hr => (k.block i (Nat.lt_of_lt_of_le hi h.size) hr).trans (h.block i hi hr)⟩
theorem grown_below {w w1 : World} (h : Below w.heap.size w w1) (r : Option Nat) : w.grownBy w1 r := ⟨h.os, h.tape, h.output, h.size, fun i hi _ => h.block i hi⟩
theorem below_grown {w w1 : World} {b B : Nat} (h : w.grownBy w1 (some b)) (hb : B ≤ b) (hB : B ≤ w.heap.size) : Below B w w1 := (Below.refl B w).grown h hB fun k hk => by cases hk; exact hb

/-- slicing a slice -/
theorem Ev.sliceS {t e : TypeId} [ht : Und P t (.slice e)] {sz by_ : Nat} {z : Value} [hi : Inf P e sz by_ z] {x : Operand} {lo hi' : Option Operand} {a : Option Addr} {m c lw hw : Nat} 
    (hx : opv L x = some (.slice a m c)) (hlo : (match lo with | none => lw = 0 | some y => opv L y = some (.int .i64 (lw : Int))))
    (hhi : (match hi' with | none => hw = m | some y => opv L y = some (.int .i64 (hw : Int)))) (h1 : lw ≤ hw) (h2 : hw ≤ c) : Ev P n L ⟨some d, .slice t x lo hi' none, ty, ps, af, g⟩ (.slice (if c = lw then a else a.map (·.add (lw * sz))) (hw - lw) (c - lw)) w := by
  obtain ⟨i, hinf, hsz, _, _⟩ := hi.out
  have hb : ∀ (lv hv : Option Value), (match lv with | none => lw = 0 | some y => y = .int .i64 (lw : Int)) → (match hv with | none => hw = m | some y => y = .int .i64 (hw : Int)) →
      (Instr.sliceBounds true m c lv hv none).run P w = .ok (lw, hw, c) w := by
    intro lv hv hl hh
    have e1 : (0 : Int) ≤ (hw : Int) ∧ (hw : Int) ≤ (c : Int) := by omega
    have e2 : (0 : Int) ≤ (lw : Int) ∧ (lw : Int) ≤ (hw : Int) := by omega
    cases lv <;> cases hv <;> simp only at hl hh <;> simp only [hl, hh, Instr.sliceBounds, Instr.sliceBound, asIntOf, Sem.run_bind, Sem.run_pure, Result.andThen_ok, if_pos e1, Int.toNat_natCast]
    · rw [hh] at h1; simp; intro h; omega
    · simp; intro h; omega
  intro s ha
  have hbs := hb (lo.map s.eval) (hi'.map s.eval) (by cases lo <;> simp only [Option.map] at hlo ⊢ <;> first | exact hlo | exact ha.eval hlo) (by cases hi' <;> simp only [Option.map] at hhi ⊢ <;> first | exact hhi | exact ha.eval hhi)
  have hsizeOf : (sizeOf e).run P w = .ok sz w := by simp [sizeOf, typeInfo, hinf, hsz]
  simp only [execOp, Instr.sliceAt, Sem.run_bind, run_underlying ht.out, Result.andThen_ok, Instr.slice, ha.eval hx, Option.map_none]
  rw [hbs]
  simp [hsizeOf]
theorem TL.sliceS {t e : TypeId} [ht : Und P t (.slice e)] {sz by_ : Nat} {z : Value} [hi : Inf P e sz by_ z] {x : Operand} {lo hi' : Option Operand} {a : Option Addr} {m c lw hw : Nat} (hg : gd ops L g = some true) (hd : Nat.blt d n = true)
    (hx : opv L x = some (.slice a m c)) (hlo : (match lo with | none => lw = 0 | some y => opv L y = some (.int .i64 (lw : Int))))
    (hhi : (match hi' with | none => hw = m | some y => opv L y = some (.int .i64 (hw : Int)))) (h1 : lw ≤ hw) (h2 : hw ≤ c)
    (k : TL P ops n ((d, .slice (if c = lw then a else a.map (·.add (lw * sz))) (hw - lw) (c - lw)) :: L) rest w N) : TL P ops n L (⟨some d, .slice t x lo hi' none, ty, ps, af, g⟩ :: rest) w N :=
  TL.ev hg hd (Ev.sliceS hx hlo hhi h1 h2) k

theorem Rd.slice {F : Nat → Prop} {sz : Nat} {a : Option Addr} {m c lw hw : Nat} {xs : List Value} (h : Rd F w sz (.slice a m c) m xs) (h1 : lw ≤ hw) (h2 : hw ≤ m) :
    Rd F w sz (.slice (if c = lw then a else a.map (·.add (lw * sz))) (hw - lw) (c - lw)) (hw - lw) ((xs.drop (lw * sz)).take ((hw - lw) * sz)) := by
  obtain ⟨a', c', hv, hl, hm, hc, hn, hx⟩ := h
  simp only [Value.slice.injEq] at hv
  obtain ⟨rfl, _, rfl⟩ := hv
  refine ⟨_, _, rfl, ?_, by omega, by omega, ?_, fun hne => ?_⟩
  · have : (hw - lw) * sz ≤ xs.length - lw * sz := by rw [hl, ← Nat.sub_mul]; exact Nat.mul_le_mul_right _ (by omega)
    simp; omega
  · split
    · omega
    · cases a <;> simp
      have := hn rfl; omega
  · have hxs : xs ≠ [] := by rintro rfl; simp at hne
    obtain ⟨b, off, rfl, hF, hcell⟩ := hx hxs
    have hlt : lw * sz < xs.length := by
      rcases Nat.lt_or_ge (lw * sz) xs.length with h | h
      · exact h
      · rw [List.drop_eq_nil_of_le h] at hne; simp at hne
    refine ⟨b, off + lw * sz, ?_, hF, fun j u hu => ?_⟩
    · split
      · rename_i e
        have h3 : m = lw := by omega
        subst h3; omega
      · simp; unfold Addr.add; split <;> simp_all
    · rw [List.getElem?_take] at hu
      split at hu
      · rw [List.getElem?_drop] at hu
        have := hcell _ u hu
        rw [Nat.add_assoc]; exact this
      · cases hu

theorem By.slice {F : Nat → Prop} {a : Option Addr} {m c lw hw : Nat} {l : List UInt8} (h : By F w (.slice a m c) l) (hm : m = l.length) (h1 : lw ≤ hw) (h2 : hw ≤ m) :
    By F w (.slice (if c = lw then a else a.map (·.add (lw * 1))) (hw - lw) (c - lw)) ((l.drop lw).take (hw - lw)) := by
  have e : ((l.drop lw).take (hw - lw)).length = hw - lw := by simp; omega
  unfold By
  rw [e, List.map_take, List.map_drop]
  have hh : Rd F w 1 (.slice a m c) m (l.map vb) := by rw [hm]; unfold By at h; subst hm; exact h
  have := Rd.slice hh h1 h2
  simpa using this

/-- bytes to a string -/
theorem run_bytesToString {t u e : TypeId} (ht : P.underlying t = some (.slice e)) (hu : P.underlying u = some .string) (he : P.underlying e = some (.int .u8)) {F : Nat → Prop} {v : Value} {l : List UInt8} (h : By F w v l) :
    (convert t u v).run P w = .ok (.string (bs l)) w := by
  obtain ⟨a, c, rfl, hl, hm, hc, hn, hx⟩ := h
  by_cases h0 : l = []
  · subst h0
    have h1 := run_convert_bytes_string (P := P) w t u e a 0 c ht he hu
    simp only [List.length_nil]
    rw [h1]
    cases a <;> simp [Conv.bytesToString, loadCells, loadCellsFrom, bs] <;> rfl
  · obtain ⟨b, off, rfl, _, hcell⟩ := hx (by simpa using h0)
    have hr := run_convert_bytes_arg (P := P) w t e ht he b off l.length c (l.map fun x => (x.toNat : Int)) (by simp) (fun i hi => by
      have := hcell i (vb l[i]) (by simp [hi])
      rw [this]; simp [vb, hi]) u hu
    rw [hr]
    have e : strOfNums (l.map fun x => (x.toNat : Int)) = bs l := by
      unfold strOfNums bs
      have : (l.map fun x => (x.toNat : Int)).map (fun n => UInt8.ofNat n.toNat) = l := by
        rw [List.map_map]
        conv => rhs; rw [← List.map_id l]
        exact List.map_congr_left fun x _ => by simp
      rw [this]
    rw [e]
theorem Ev.str {t u e : TypeId} [ht : Und P t (.slice e)] [hu : Und P u .string] [he : Und P e (.int .u8)] {x : Operand} {v : Value} {l : List UInt8} {F : Nat → Prop} 
    (hx : opv L x = some v) (h : By F w v l) : Ev P n L ⟨some d, .convert t u x, ty, ps, af, g⟩ (.string (bs l)) w :=
  (fun s ha => by
    have := run_bytesToString (P := P) ht.out hu.out he.out h
    simp only [execOp, ha.eval hx, Sem.run_bind]
    rw [this]; simp)
theorem TL.str {t u e : TypeId} [ht : Und P t (.slice e)] [hu : Und P u .string] [he : Und P e (.int .u8)] {x : Operand} {v : Value} {l : List UInt8} {F : Nat → Prop} (hg : gd ops L g = some true) (hd : Nat.blt d n = true)
    (hx : opv L x = some v) (h : By F w v l) (k : TL P ops n ((d, .string (bs l)) :: L) rest w N) : TL P ops n L (⟨some d, .convert t u x, ty, ps, af, g⟩ :: rest) w N :=
  TL.ev hg hd (Ev.str hx h) k
end
end Go.Fw
