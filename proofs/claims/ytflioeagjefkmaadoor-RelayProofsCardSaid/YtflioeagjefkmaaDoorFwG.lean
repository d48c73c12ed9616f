/- A frame for walks: structs built of parts, pointers held against nil, slices of arrays; steps in regions that draw. Conditions: none; it speaks of any program. -/
import Derived.Test.YtflioeagjefkmaaDoorFwF
import Derived.Laws.Pointers
import Derived.Laws.Tables
set_option linter.all false
namespace Go.Fw
open Go.RowKit

/-- cells with parts put in -/
def fillW (pl : List (Nat × Nat)) : List Value → List (Nat × List Value) → Option (List Value)
  | cells, [] => some cells
  | cells, (i, xs) :: r => match pl[i]? with
    | none => none
    | some (off, size) => if xs.length = size ∧ off + size ≤ cells.length then fillW pl (cells.take off ++ xs ++ cells.drop (off + size)) r else none

theorem foldSet (off : Nat) : ∀ (xs : List Value) (k : Nat) (cs : List Value), off + k + xs.length ≤ cs.length →
    (xs.zipIdx k).foldl (fun (cs : Array Value) p => cs.setIfInBounds (off + p.2) p.1) cs.toArray = (cs.take (off + k) ++ xs ++ cs.drop (off + k + xs.length)).toArray
  | [], k, cs, _ => by simp
  | x :: xs, k, cs, h => by
    simp only [List.length_cons] at h
    simp only [List.zipIdx_cons, List.foldl_cons]
    have e : cs.toArray.setIfInBounds (off + k) x = (cs.set (off + k) x).toArray := by simp
    rw [e, foldSet off xs (k + 1) (cs.set (off + k) x) (by simp; omega)]
    congr 1
    rw [List.drop_set_of_lt (by omega), show off + (k + 1) = (off + k) + 1 from by omega, List.take_add_one, List.take_set_of_le (Nat.le_refl _)]
    have h1 : (cs.set (off + k) x)[off + k]? = some x := by rw [List.getElem?_set_self (by omega)]
    have h2 : off + k + 1 + xs.length = off + k + (xs.length + 1) := by omega
    rw [h1, h2]
    simp

theorem fill_list {pl : List (Nat × Nat)} : ∀ (ps : List (Nat × Value)) (cells out : List Value), fillW pl cells (ps.map fun p => (p.1, p.2.cells.toList)) = some out →
    Instr.fill (pl.toArray[·]?) cells.toArray ps = some out.toArray
  | [], cells, out, h => by simp [fillW] at h; simp [Instr.fill, h]
  | (i, v) :: r, cells, out, h => by
    simp only [List.map_cons, fillW] at h
    simp only [Instr.fill, List.getElem?_toArray]
    cases hp : pl[i]? with
    | none => simp [hp] at h
    | some p =>
      obtain ⟨off, size⟩ := p
      simp only [hp] at h ⊢
      by_cases hc : v.cells.toList.length = size ∧ off + size ≤ cells.length
      · rw [if_pos hc] at h
        obtain ⟨h1, h2⟩ := hc
        have h1' : v.cells.size = size := by simpa using h1
        have hn : ¬ (v.cells.size ≠ size || off + v.cells.size > cells.toArray.size) = true := by simp [h1']; omega
        rw [if_neg hn]
        have e : v.cells.zipIdx.foldl (fun cs p => cs.setIfInBounds (off + p.2) p.1) cells.toArray = (cells.take off ++ v.cells.toList ++ cells.drop (off + size)).toArray := by
          have := foldSet off v.cells.toList 0 cells (by simp [h1']; omega)
          rw [← Array.foldl_toList, Array.toList_zipIdx, this]
          simp [h1']
        rw [e]
        have := fill_list r _ _ h
        simpa using this
      · rw [if_neg hc] at h; cases h

class Pls (P : Program) (t : TypeId) (pl : outParam (List (Nat × Nat))) : Prop where
  out : (match P.underlying t with | some (.struct fs) => fs.toList.mapM (fun f => (P.info? f.type).map fun i => (f.offset, i.size)) | _ => none) = some pl

section
variable {P : Program} {ops : Array Oper} {n : Nat} {L : Sl} {rest : List Oper} {w : World} {N : Sl → World → Prop}
variable {d : Nat} {ty : TypeId} {ps : String} {af : Array Edge} {g : Option (Nat × Bool)}

theorem zip_parts {a : Act} (ha : Fr n L a) : ∀ {parts : List (Nat × Operand)} {vs : List Value}, opvs L (parts.map Prod.snd) = some vs → parts.map (fun p => (p.1, a.eval p.2)) = (parts.map Prod.fst).zip vs
  | [], vs, h => by simp [opvs] at h; simp
  | (i, x) :: r, vs, h => by
    simp only [List.map_cons, opvs] at h
    cases hx : opv L x with
    | none => simp [hx] at h
    | some v =>
      cases hr : opvs L (r.map Prod.snd) with
      | none => simp [hx, hr] at h
      | some us =>
        simp [hx, hr] at h
        subst h
        simp [ha.eval hx, zip_parts ha hr]

theorem Ev.build {t : TypeId} {pl : List (Nat × Nat)} [hp : Pls P t pl] {sz by_ : Nat} {z : Value} [hi : Inf P t sz by_ z] {parts : List (Nat × Operand)} {vs out : List Value}
    (hv : opvs L (parts.map Prod.snd) = some vs) (hf : fillW pl z.cells.toList (((parts.map Prod.fst).zip vs).map fun p => (p.1, p.2.cells.toList)) = some out) : Ev P n L ⟨some d, .build t parts.toArray, ty, ps, af, g⟩ (.agg out.toArray) w := by
  obtain ⟨i, hinf, _, _, hz⟩ := hi.out
  intro s ha
  have hmap : (parts.toArray.map fun p => (p.1, s.eval p.2)).toList = (parts.map Prod.fst).zip vs := by
    have e1 : (parts.toArray.map fun p => (p.1, s.eval p.2)).toList = parts.map fun p => (p.1, s.eval p.2) := by simp
    rw [e1, zip_parts ha hv]
  have hb : P.built t (parts.toArray.map fun p => (p.1, s.eval p.2)).toList = some out.toArray := by
    rw [hmap]
    have hpo := hp.out
    cases hu : P.underlying t with
    | none => simp [hu] at hpo
    | some td =>
      cases td <;> simp [hu] at hpo
      simp only [Program.built, hinf, hu, hz, hpo]
      have := fill_list _ _ _ hf
      simpa using this
  simp only [execOp, Sem.run_bind, run_build w t _ _ hb, Result.andThen_ok, Sem.run_pure]

theorem pointee_of {t e : TypeId} (ht : Und P t (.pointer e)) : P.underlying t = some (.pointer (P.pointee t)) := by
  have := ht.out; simp [Program.pointee, this]
theorem Ev.eqPtr {t t' e : TypeId} [ht : Und P t (.pointer e)] {x y : Operand} {p : Option Addr} (hx : opv L x = some (.pointer p)) (hy : opv L y = some (.pointer none)) : Ev P n L ⟨some d, .binOp .eql t x y t', ty, ps, af, g⟩ (.bool p.isNone) w := by
  intro s ha
  have := run_eql_pointer_nil (P := P) w t p (pointee_of ht)
  simp only [execOp, ha.eval hx, ha.eval hy, eqGuard]
  simp [this]
theorem Ev.nePtr {t t' e : TypeId} [ht : Und P t (.pointer e)] {x y : Operand} {p : Option Addr} (hx : opv L x = some (.pointer p)) (hy : opv L y = some (.pointer none)) : Ev P n L ⟨some d, .binOp .neq t x y t', ty, ps, af, g⟩ (.bool (!p.isNone)) w := by
  intro s ha
  have := run_neq_pointer_nil (P := P) w t p (pointee_of ht)
  simp only [execOp, ha.eval hx, ha.eval hy, eqGuard]
  simp [this]
theorem Ev.sliceArr {t e : TypeId} {len : Nat} [ht : Und P t (.array len e)] {sz by_ : Nat} {z : Value} [hi : Inf P e sz by_ z] {x : Operand} {b o : Nat}
    (hx : opv L x = some (.pointer (some ⟨b, o, none⟩))) : Ev P n L ⟨some d, .slice t x none none none, ty, ps, af, g⟩ (.slice (some ⟨b, o, none⟩) len len) w := by
  obtain ⟨i, hinf, hsz, _, _⟩ := hi.out
  intro s ha
  have hadd : (⟨b, o, none⟩ : Addr).add 0 = ⟨b, o, none⟩ := by simp [Addr.add]
  have hs : (Instr.sureAddr (.pointer (some ⟨b, o, none⟩))).run P w = .ok ⟨b, o, none⟩ w := by simp [Instr.sureAddr]
  simp [execOp, Instr.sliceAt, run_underlying ht.out, ha.eval hx, Instr.sliceBounds, sizeOf, typeInfo, hinf, hadd, hs]
theorem TL.eqPtr {t t' e : TypeId} [ht : Und P t (.pointer e)] {x y : Operand} {p : Option Addr} (hg : gd ops L g = some true) (hd : Nat.blt d n = true) (hx : opv L x = some (.pointer p)) (hy : opv L y = some (.pointer none))
    (k : TL P ops n ((d, .bool p.isNone) :: L) rest w N) : TL P ops n L (⟨some d, .binOp .eql t x y t', ty, ps, af, g⟩ :: rest) w N := TL.ev hg hd (Ev.eqPtr hx hy) k
theorem TL.nePtr {t t' e : TypeId} [ht : Und P t (.pointer e)] {x y : Operand} {p : Option Addr} (hg : gd ops L g = some true) (hd : Nat.blt d n = true) (hx : opv L x = some (.pointer p)) (hy : opv L y = some (.pointer none))
    (k : TL P ops n ((d, .bool (!p.isNone)) :: L) rest w N) : TL P ops n L (⟨some d, .binOp .neq t x y t', ty, ps, af, g⟩ :: rest) w N := TL.ev hg hd (Ev.nePtr hx hy) k
end

/-- a field of one cell is read out of a known row -/
theorem Ev.loadR {P : Program} {n : Nat} {L : Sl} {w : World} {d : Nat} {ty : TypeId} {ps : String} {af : Array Edge} {g : Option (Nat × Bool)} {t : TypeId} [ht : Ag P t false] {x : Operand} {b o : Nat} {v : Value} {l : List Value} {e : TypeId} {fr : Nat × Nat} (hx : opv L x = some (.pointer (some ⟨b, o, none⟩)))
    (hr : Row w b l e fr) (hv : l[o]? = some v) : Ev P n L ⟨some d, .load t x, ty, ps, af, g⟩ v w := Ev.load1 hx (by rw [hr.cell, hv])
theorem Ev.loadRA {P : Program} {n : Nat} {L : Sl} {w : World} {d : Nat} {ty : TypeId} {ps : String} {af : Array Edge} {g : Option (Nat × Bool)} {t : TypeId} [ht : Ag P t true] {sz by_ : Nat} {z : Value} [hi : Inf P t sz by_ z] {x : Operand} {b o : Nat} {l xs : List Value} {e : TypeId} {fr : Nat × Nat} (hx : opv L x = some (.pointer (some ⟨b, o, none⟩)))
    (hr : Row w b l e fr) (hv : (l.drop o).take sz = xs) (hl : xs.length = sz) : Ev P n L ⟨some d, .load t x, ty, ps, af, g⟩ (.agg xs.toArray) w :=
  Ev.loadA hx hl fun j u hu => by
    rw [hr.cell]
    subst hv
    have hj : j < ((l.drop o).take sz).length := (List.getElem?_eq_some_iff.1 hu).1
    rw [List.getElem?_take, List.getElem?_drop] at hu
    split at hu
    · exact hu
    · cases hu

def lkE : List (Nat × SK) → Nat → Option SK
  | [], _ => none
  | (j, s) :: l, i => bif Nat.beq j i then some s else lkE l i
theorem mem_of_lkE : ∀ {E : List (Nat × SK)} {t : Nat} {s : SK}, lkE E t = some s → (t, s) ∈ E
  | [], _, _, h => by simp [lkE] at h
  | (j, s') :: l, t, s, h => by
    simp only [lkE] at h
    cases hb : Nat.beq j t with
    | true => simp [hb] at h; subst h; rw [Nat.eq_of_beq_eq_true hb]; simp
    | false => simp [hb] at h; exact List.mem_cons_of_mem _ (mem_of_lkE h)

/-- what is known of the slots that are read -/
def Kn (E : List (Nat × SK)) (σ : Nat → Value) (w : World) : Prop := ∀ t s, lkE E t = some s → s.ok (σ t) w
theorem Kn.get {E : List (Nat × SK)} {σ : Nat → Value} {w : World} (h : Kn E σ w) (t : Nat) {φ : Value → World → Prop} (ht : lkE E t = some (.ab φ)) : φ (σ t) w := h t _ ht

section
variable {P : Program} {ops : Array Oper} {n : Nat} {L0 : Sl} {w0 : World} {E : List (Nat × SK)} {os : List Oper} {K : List (Nat × SK) → Prop} {d : Nat} {op : Op} {ty : TypeId} {ps : String} {af : Array Edge}
theorem DR.v (v : Value) (hd : Nat.blt d n = true)
    (h : ∀ w' σ, Ext w0 w' → Ev P n (inst σ (rsE ⟨some d, op, ty, ps, af, none⟩ E) ++ rsL ⟨some d, op, ty, ps, af, none⟩ L0) ⟨some d, op, ty, ps, af, none⟩ v w')
    (k : DR P ops n L0 w0 ((d, .kn v) :: E) os K) : DR P ops n L0 w0 E (⟨some d, op, ty, ps, af, none⟩ :: os) K :=
  DR.kn v hd (fun w' he σ _ => h w' σ he) k
theorem DR.a (φ : Value → World → Prop) (hm : ∀ v w w', φ v w → Ext w w' → φ v w')
    (h : ∀ w' σ, Ext w0 w' → Kn (rsE ⟨some d, op, ty, ps, af, none⟩ E) σ w' → TL P ops n (inst σ (rsE ⟨some d, op, ty, ps, af, none⟩ E) ++ rsL ⟨some d, op, ty, ps, af, none⟩ L0) [⟨some d, op, ty, ps, af, none⟩] w' fun L'' w'' => Ext w' w'' ∧ ∃ v, lk L'' d = some v ∧ φ v w'')
    (k : DR P ops n L0 w0 ((d, .ab φ) :: E) os K) : DR P ops n L0 w0 E (⟨some d, op, ty, ps, af, none⟩ :: os) K :=
  DR.ab φ hm (fun w' he σ hσ => h w' σ he fun t s hs => hσ t s (mem_of_lkE hs)) k
/-- a value known ahead, of an operation that may make memory -/
theorem DR.vT (v : Value)
    (h : ∀ w' σ, Ext w0 w' → Kn (rsE ⟨some d, op, ty, ps, af, none⟩ E) σ w' → TL P ops n (inst σ (rsE ⟨some d, op, ty, ps, af, none⟩ E) ++ rsL ⟨some d, op, ty, ps, af, none⟩ L0) [⟨some d, op, ty, ps, af, none⟩] w' fun L'' w'' => Ext w' w'' ∧ lk L'' d = some v)
    (k : DR P ops n L0 w0 ((d, .kn v) :: E) os K) : DR P ops n L0 w0 E (⟨some d, op, ty, ps, af, none⟩ :: os) K :=
  ⟨d, .kn v, rfl, SK.mono_kn v, fun w' he σ hσ => (fun Q a ha qn => h w' σ he (fun t s hs => hσ t s (mem_of_lkE hs)) Q a ha fun L' a' w'' f ⟨h1, h2⟩ => qn L' a' w'' f ⟨h1, v, h2, rfl⟩), k⟩
theorem T.drawK {N : Sl → World → Prop} {X : Nat → Sl → World → Prop} {R : Sl → World → Prop} {L : Sl} {w : World} (m : Nat) {i : Nat} {l : List Oper} (hm : P.follows .mixedOrders = true) (hB : chkR m l = true)
    (h : ∀ ops w0, Below w.heap.size w w0 → w0.heap = w.heap → ∀ K : List (Nat × SK) → Prop, (∀ E, (∀ w' σ, Ext w0 w' → Kn E σ w' → TL P ops n (inst σ E ++ L) (l.drop m) w' N) → K E) → DR P ops n L w0 [] (l.take m) K) :
    T P n N X R L (.region i l.toArray true) w :=
  T.drawR m hm hB fun ops w0 hb hh K hK => h ops w0 hb hh K fun E hE => hK E fun w' he σ hσ => hE w' σ he fun t s hs => hσ t s (mem_of_lkE hs)
end
end Go.Fw
