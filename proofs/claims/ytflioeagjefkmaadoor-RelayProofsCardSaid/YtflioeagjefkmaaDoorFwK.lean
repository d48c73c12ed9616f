/- A frame for walks: texts and bools held against one another; clear; lists of parts; rows of one's own in regions that draw. Conditions: none; it speaks of any program. -/
import Derived.Test.YtflioeagjefkmaaDoorFwJ
import Derived.Lib.SliceRun
import Derived.Laws.StructEq
set_option linter.all false
namespace Go.Fw
open Go.RowKit
theorem bs_toList (l : List UInt8) : (bs l).toList = l := by rw [Lib.toList_data]; rfl
section
variable {P : Program} {ops : Array Oper} {n : Nat} {L : Sl} {rest : List Oper} {w : World} {N : Sl → World → Prop}
variable {d : Nat} {ty : TypeId} {ps : String} {af : Array Edge} {g : Option (Nat × Bool)}
theorem Ev.neStr {t t' : TypeId} {x y : Operand} {a b : List UInt8} (hx : opv L x = some (.string (bs a))) (hy : opv L y = some (.string (bs b)))
    {r : Bool} (hr : (!(a == b)) = r) : Ev P n L ⟨some d, .binOp .neq t x y t', ty, ps, af, g⟩ (.bool r) w := by
  subst hr
  exact (fun s ha => by simp only [execOp, ha.eval hx, ha.eval hy]; simp [eqGuard, binOp, Op.stringOp, bs_toList])
theorem Ev.ltStr {t t' : TypeId} {x y : Operand} {a b : List UInt8} (hx : opv L x = some (.string (bs a))) (hy : opv L y = some (.string (bs b)))
    {r : Bool} (hr : Op.bytesLess a b = r) : Ev P n L ⟨some d, .binOp .lss t x y t', ty, ps, af, g⟩ (.bool r) w := by
  subst hr
  exact (fun s ha => by simp only [execOp, ha.eval hx, ha.eval hy]; simp [eqGuard, binOp, Op.stringOp, bs_toList])

theorem TL.unitV {op : Op} {v : Value} (w' : World) (hg : gd ops L g = some true)
    (hr : ∀ a, Fr n L a → (execOp a.eval ⟨none, op, ty, ps, af, g⟩).run P w = .ok (.value v) w') (k : TL P ops n L rest w' N) :
    TL P ops n L (⟨none, op, ty, ps, af, g⟩ :: rest) w N := by
  intro Q a ha qn
  refine wpList_step fun K hK => ?_
  rw [gd_wanted ha (o := ⟨none, op, ty, ps, af, g⟩) hg]
  simp only [if_true, Oper.wp, hr a ha, Oper.upon_value]
  exact hK _ _ (k Q _ (by simpa [Act.put] using ha) qn)

theorem zeroCells_list (z : Value) (m : Nat) : (Builtin.zeroCells #[z] m).toList = List.replicate m z := by
  simp [Builtin.zeroCells]
  apply List.ext_getElem
  · simp
  · intro i h1 h2
    simp [Nat.mod_one]

/-- clear(s) of a part of a row of one's own -/
theorem TL.clearS {t e : TypeId} [ht : Und P t (.slice e)] {by_ : Nat} {z : Value} [hi : Inf P e 1 by_ z] {x : Operand} {b o m c : Nat} {A old C : List Value} {e' : TypeId} (hg : gd ops L g = some true)
    (hx : opv L x = some (.slice (some ⟨b, o, none⟩) m c)) (hr : Row w b (A ++ old ++ C) e' (0, 0)) (hA : A.length = o) (hl : old.length = m) (hz : z.oneCell' = true)
    (k : ∀ w', w.grownBy w' (some b) → Row w' b (A ++ List.replicate m z ++ C) e' (0, 0) → w'.heap.size = w.heap.size → TL P ops n L rest w' N) :
    TL P ops n L (⟨none, .call ⟨.builtin .clear, #[x], #[t]⟩, ty, ps, af, g⟩ :: rest) w N := by
  have hzc : z.cells = #[z] := by cases z <;> first | rfl | simp [Value.oneCell'] at hz
  obtain ⟨i, hinf, hs, _, hzz⟩ := hi.out
  have hzv : (zeroValue e).run P w = .ok z w := by simp [zeroValue, typeInfo, hinf, hzz]
  cases m with
  | zero =>
    obtain rfl : old = [] := List.eq_nil_of_length_eq_zero hl
    refine TL.unitV (v := .tuple #[]) w hg (fun a ha => ?_) (k w (grown_refl w _) (by simpa using hr) rfl)
    simp [execOp, resolve, invoke, builtin, Builtin.clear_, run_underlying ht.out, ha.eval hx]
  | succ m =>
    obtain ⟨w', h, h2, h3, h4⟩ := run_storeList (P := P) (xs := List.replicate (m + 1) z) hr hA (by simp [hl]) (by intro u hu; rw [List.eq_of_mem_replicate hu]; exact hz)
    refine TL.unitV (v := .tuple #[]) w' hg (fun a ha => ?_) (k w' h2 h3 h4)
    simp [execOp, resolve, invoke, builtin, Builtin.clear_, run_underlying ht.out, ha.eval hx, hzv, hzc, zeroCells_list, h]
end
theorem Els.bys {F : Nat → Prop} {w : World} : ∀ {xss : List (List Value)} {ls : List (List UInt8)}, Els bytesE F w xss ls → Bys F w xss.flatten ls
  | [], [], _ => ⟨rfl, fun i v l hv _ => by simp at hv⟩
  | [], l :: ls, h => by have := h.1; simp at this
  | xs :: xss, [], h => by have := h.1; simp at this
  | xs :: xss, l :: ls, h => by
    obtain ⟨v, hv, hb⟩ := h.2 0 xs l rfl rfl
    have ih := Els.bys (xss := xss) (ls := ls) ⟨by simpa using h.1, fun i x a hx ha => h.2 (i + 1) x a (by simpa using hx) (by simpa using ha)⟩
    subst hv
    refine ⟨by simp [ih.1], fun i u m hu hm => ?_⟩
    cases i with
    | zero => simp at hu hm; subst hu hm; exact hb
    | succ i => exact ih.2 i u m (by simpa using hu) (by simpa using hm)
theorem Lsr.bb {F : Nat → Prop} {w : World} {v : Value} {ls : List (List UInt8)} (h : Lsr bytesE F w v ls) : BB F F w v ls := let ⟨xss, hr, he⟩ := h; ⟨xss.flatten, hr, he.bys⟩
end Go.Fw
namespace Go.Fw
open Go.RowKit
section
variable {P : Program} {ops : Array Oper} {n : Nat} {L : Sl} {rest : List Oper} {w : World} {N : Sl → World → Prop}
variable {d : Nat} {ty : TypeId} {ps : String} {af : Array Edge} {g : Option (Nat × Bool)}
theorem Els.split {α : Type} {E : Elm α} {F : Nat → Prop} {w : World} {xss : List (List Value)} {xs : List α} (h : Els E F w xss xs) {j : Nat} {a : α} (ha : xs[j]? = some a) :
    ∃ us A C, xss.flatten = A ++ us ++ C ∧ A.length = j * E.sz ∧ E.rel F w us a := by
  have hj : j < xss.length := by rw [h.1]; exact (List.getElem?_eq_some_iff.1 ha).1
  have hsplit : xss = xss.take j ++ xss[j] :: xss.drop (j + 1) := by simp
  have hx : xss[j]? = some xss[j] := List.getElem?_eq_getElem hj
  refine ⟨xss[j], (xss.take j).flatten, (xss.drop (j + 1)).flatten, ?_, ?_, h.2 j _ a hx ha⟩
  · have : xss.flatten = (xss.take j ++ xss[j] :: xss.drop (j + 1)).flatten := congrArg List.flatten hsplit
    rw [this, List.flatten_append, List.flatten_cons, List.append_assoc]
  · have h2 : Els E F w (xss.take j) (xs.take j) := ⟨by simp [h.1], fun i x b hx hb => by
      have hi : i < j := by have := (List.getElem?_eq_some_iff.1 hx).1; simp at this; omega
      rw [List.getElem?_take, if_pos hi] at hx hb
      exact h.2 i x b hx hb⟩
    have := h2.flen
    rw [this, List.length_take, Nat.min_eq_left (by rw [← h.1]; omega)]
/-- xs[j] of a list of parts of several cells -/
theorem TL.elemE {α : Type} {E : Elm α} {t e t' : TypeId} [ht : Und P t (.slice e)] {sz by_ : Nat} {z : Value} [hi : Inf P e sz by_ z] [ha : Ag P t' true] [hi' : Inf P t' sz by_ z] {x y : Operand} {d' : Nat} {ty' : TypeId} {ps' : String} {af' : Array Edge} {g' : Option (Nat × Bool)}
    {v : Value} {j : Nat} {xs : List α} {a : α} {F : Nat → Prop} {ki : IntKind} {i : Int} (hg : gd ops L g = some true) (hd : Nat.blt d n = true) (hg' : ∀ p, gd ops ((d, .pointer p) :: L) g' = some true) (hd' : Nat.blt d' n = true)
    (hx : opv L x = some v) (hy : opv L y = some (.int ki i)) (hE : E.sz = sz) (hrd : Lsr E F w v xs) (hij : i = (j : Int)) (hxa : xs[j]? = some a) (hsz : Nat.blt 0 sz = true)
    (k : ∀ p us, E.rel F w us a → TL P ops n ((d', .agg us.toArray) :: (d, .pointer p) :: L) rest w N) :
    TL P ops n L (⟨some d, .indexAddr t x y, ty, ps, af, g⟩ :: ⟨some d', .load t' (.tmp d), ty', ps', af', g'⟩ :: rest) w N := by
  subst hE
  obtain ⟨xss, hr, hel⟩ := hrd
  obtain ⟨us, A, C, h1, h2, h3⟩ := hel.split hxa
  rw [h1] at hr
  exact TL.elemA hg hd hg' hd' hx hy hr hij h2 (E.len h3) hsz fun p => k p us h3
end
end Go.Fw
namespace Go.Fw
open Go.RowKit
section
variable {α : Type} {E : Elm α} {F : Nat → Prop} {w w' w0 : World} {v : Value} {as : List α} {B : Nat} {e : TypeId} {H : Nat → Prop}
theorem Els.tail {xs : List Value} {xss : List (List Value)} {a : α} (h : Els E F w (xs :: xss) (a :: as)) : Els E F w xss as :=
  ⟨by simpa using h.1, fun i x b hx hb => h.2 (i + 1) x b (by simpa using hx) (by simpa using hb)⟩
theorem Els.drop {xss : List (List Value)} (h : Els E F w xss as) (k : Nat) : Els E F w (xss.drop k) (as.drop k) :=
  ⟨by simp [h.1], fun i x b hx hb => h.2 (k + i) x b (by simpa using hx) (by simpa using hb)⟩
theorem Els.take {xss : List (List Value)} (h : Els E F w xss as) (k : Nat) : Els E F w (xss.take k) (as.take k) := by
  refine ⟨by simp [h.1], fun i x b hx hb => ?_⟩
  rw [List.getElem?_take] at hx hb
  split at hx
  · rename_i hi; rw [if_pos hi] at hb; exact h.2 i x b hx hb
  · cases hx
theorem Els.flat_split {xss : List (List Value)} (h : Els E F w xss as) (k : Nat) (hk : k ≤ as.length) : xss.flatten.take (k * E.sz) = (xss.take k).flatten ∧ xss.flatten.drop (k * E.sz) = (xss.drop k).flatten := by
  have e : xss.flatten = (xss.take k).flatten ++ (xss.drop k).flatten := by rw [← List.flatten_append, List.take_append_drop]
  have hl : (xss.take k).flatten.length = k * E.sz := by rw [(h.take k).flen, List.length_take, Nat.min_eq_left hk]
  rw [e]
  constructor
  · rw [← hl, List.take_left]
  · rw [← hl, List.drop_left]
theorem Els.append {xss yss : List (List Value)} {bs : List α} (h : Els E F w xss as) (k : Els E F w yss bs) : Els E F w (xss ++ yss) (as ++ bs) := by
  refine ⟨by simp [h.1, k.1], fun i x b hx hb => ?_⟩
  by_cases hi : i < xss.length
  · rw [List.getElem?_append_left hi] at hx
    rw [List.getElem?_append_left (by rw [← h.1]; exact hi)] at hb
    exact h.2 i x b hx hb
  · rw [List.getElem?_append_right (by omega)] at hx
    rw [List.getElem?_append_right (by rw [← h.1]; omega), ← h.1] at hb
    exact k.2 _ x b hx hb
theorem Els.one {xss : List (List Value)} (h : Els E F w xss as) : ∀ u ∈ xss.flatten, u.oneCell' = true := by
  intro u hu
  obtain ⟨xs, hxs, hu⟩ := List.mem_flatten.1 hu
  obtain ⟨i, hi, rfl⟩ := List.getElem_of_mem hxs
  have hi' : i < as.length := by rw [← h.1]; exact hi
  exact E.one (h.2 i _ _ (List.getElem?_eq_getElem hi) (List.getElem?_eq_getElem hi')) u hu

theorem Lsr.any (h : Lsr E F w v as) : Lsr E (fun _ => True) w v as := h.sub fun _ _ => trivial
theorem Lsr.lt (h : Lsr E F w v as) : Lsr E (fun k => F k ∧ k < w.heap.size) w v as := let ⟨xss, hr, hb⟩ := h; ⟨xss, hr.ltSize, hb.lt⟩
theorem Lsr.slice {a : Option Addr} {m c lw hw : Nat} (h : Lsr E F w (.slice a m c) as) (h1 : lw ≤ hw) (h2 : hw ≤ as.length) :
    Lsr E F w (.slice (if c = lw then a else a.map (·.add (lw * E.sz))) (hw - lw) (c - lw)) ((as.drop lw).take (hw - lw)) := by
  obtain ⟨xss, hr, hb⟩ := h
  have hm : m = as.length := by obtain ⟨_, _, hv, _⟩ := id hr; simp at hv; exact hv.2.1
  subst hm
  refine ⟨(xss.drop lw).take (hw - lw), ?_, (hb.drop lw).take _⟩
  have := Rd.slice hr h1 h2
  rw [(hb.flat_split lw (by omega)).2, ((hb.drop lw).flat_split (hw - lw) (by simp; omega)).1] at this
  have hl : ((as.drop lw).take (hw - lw)).length = hw - lw := by simp; omega
  rw [hl]; exact this
theorem Lsr.drop {a : Option Addr} {m c lw : Nat} (h : Lsr E F w (.slice a m c) as) (h1 : lw ≤ as.length) :
    Lsr E F w (.slice (if c = lw then a else a.map (·.add (lw * E.sz))) (m - lw) (c - lw)) (as.drop lw) := by
  have hm : m = as.length := by obtain ⟨_, ⟨_, _, hv, _⟩, _⟩ := id h; simp at hv; exact hv.2.1
  subst hm
  have := h.slice h1 (Nat.le_refl _)
  rwa [List.take_of_length_le (by simp)] at this
theorem Lsr.take {a : Option Addr} {m c hw : Nat} (h : Lsr E F w (.slice a m c) as) (h2 : hw ≤ as.length) :
    Lsr E F w (.slice (if c = 0 then a else a.map (·.add (0 * E.sz))) (hw - 0) (c - 0)) (as.take hw) := by
  have := h.slice (Nat.zero_le hw) h2
  simpa using this
/-- the cells of one part -/
theorem Lsr.at_ (h : Lsr E F w v as) {j : Nat} {x : α} (hx : as[j]? = some x) (hz : 0 < E.sz) :
    ∃ b off c us, v = .slice (some ⟨b, off, none⟩) as.length c ∧ F b ∧ E.rel F w us x ∧ ∀ i u, us[i]? = some u → w.cell? ⟨b, off + j * E.sz + i, none⟩ = some u := by
  obtain ⟨xss, hr, hb⟩ := h
  obtain ⟨us, A, C, h1, h2, h3⟩ := hb.split hx
  have hu : us.length = E.sz := E.len h3
  have hne : xss.flatten ≠ [] := by
    rw [h1]; intro hh
    have : us = [] := by
      have := congrArg List.length hh
      simp at this; exact this.2.1
    rw [this] at hu; simp at hu; omega
  obtain ⟨b, off, c, hv, hF, hc⟩ := Rd.elem hr hne
  refine ⟨b, off, c, us, hv, hF, h3, fun i u hi => ?_⟩
  have hil : i < us.length := (List.getElem?_eq_some_iff.1 hi).1
  have := hc (j * E.sz + i) u (by rw [h1, List.append_assoc, List.getElem?_append_right (by omega), List.getElem?_append_left (by omega), ← hi]; congr 1; omega)
  rw [Nat.add_assoc]; exact this
end
section
variable {P : Program} {ops : Array Oper} {n : Nat} {L : Sl} {rest : List Oper} {w : World} {N : Sl → World → Prop}
variable {d : Nat} {ty : TypeId} {ps : String} {af : Array Edge} {g : Option (Nat × Bool)}
/-- a list behind a list of one's own -/
theorem TL.pushAll {α : Type} {E : Elm α} {t e : TypeId} [ht : Und P t (.slice e)] {by_ : Nat} {z : Value} {sz : Nat} [hi : Inf P e sz by_ z] {s x : Operand} {sv xv : Value} {B : Nat} {as bs : List α} {G H : Nat → Prop} {w0 : World} (hg : gd ops L g = some true) (hd : Nat.blt d n = true)
    (hs : opv L s = some sv) (hx : opv L x = some xv) (hE : E.sz = sz) (hacc : LstG E H B w0 w e sv as) (hl : Lsr E G w xv bs) (hG : ∀ k, G k → H k ∧ sv.ownBlock ≠ some k) (hsz : Nat.blt 0 sz = true)
    (hb : (as.length + bs.length) * by_ ≤ 140737488355328) (hm : as.length + bs.length ≤ maxLen)
    (k : ∀ v' w', LstG E H B w0 w' e v' (as ++ bs) → w.grownBy w' sv.ownBlock → (∀ k, v'.ownBlock = some k → sv.ownBlock = some k ∨ w.heap.size ≤ k) → TL P ops n ((d, v') :: L) rest w' N) :
    TL P ops n L (⟨some d, .call ⟨.builtin .append, #[s, x], #[t, t]⟩, ty, ps, af, g⟩ :: rest) w N := by
  subst hE
  obtain ⟨xss, ha, hc⟩ := hacc.ex
  obtain ⟨yss, hr, hy⟩ := hl
  refine TL.push hg hd hs hx ha hr hy.one hsz hb hm fun v' w' h1 h2 h3 => k v' w' ⟨xss ++ yss, ?_, ?_⟩ h2 h3
  · rw [List.flatten_append, List.length_append]; exact h1
  · have c1 := (hc.lt.keep (Same.ofGrown h2 fun k hk => fun hh => hk.1.2 hh.symm)).sub (G := fun k => H k ∧ v'.ownBlock ≠ some k) (fun k hk => ⟨hk.1.1, fun hv => by
      rcases h3 k hv with hh | hh
      · exact hk.1.2 hh
      · exact absurd hk.2 (by omega)⟩)
    have c2 := (hy.lt.keep (Same.ofGrown h2 fun k hk => fun hh => (hG k hk.1).2 hh.symm)).sub (G := fun k => H k ∧ v'.ownBlock ≠ some k) (fun k hk => ⟨(hG k hk.1).1, fun hv => by
      rcases h3 k hv with hh | hh
      · exact (hG k hk.1).2 hh
      · exact absurd hk.2 (by omega)⟩)
    exact c1.append c2
theorem Ev.indexL {α : Type} {E : Elm α} {t e : TypeId} [ht : Und P t (.slice e)] {sz by_ : Nat} {z : Value} [hi : Inf P e sz by_ z] {x y : Operand} {v : Value} {F : Nat → Prop} {as : List α} {a : α} {j : Nat} {ki : IntKind} {i : Int} (hz : Nat.blt 0 sz = true)
    (hx : opv L x = some v) (hy : opv L y = some (.int ki i)) (hE : E.sz = sz) (hl : Lsr E F w v as) (hij : i = (j : Int)) (hxa : as[j]? = some a) :
    ∃ b o us, F b ∧ E.rel F w us a ∧ (∀ i u, us[i]? = some u → w.cell? ⟨b, o + i, none⟩ = some u) ∧ Ev P n L ⟨some d, .indexAddr t x y, ty, ps, af, g⟩ (.pointer (some ⟨b, o, none⟩)) w := by
  subst hE hij
  obtain ⟨b, off, c, us, rfl, hF, h1, h2⟩ := hl.at_ hxa (by simpa [Nat.blt_eq] using hz)
  have hj : j < as.length := (List.getElem?_eq_some_iff.1 hxa).1
  exact ⟨b, off + j * E.sz, us, hF, h1, h2, Ev.indexAddrS hx hy (by omega) (by omega)⟩
/-- xs[j], of parts -/
theorem TL.indexL {α : Type} {E : Elm α} {t e : TypeId} [ht : Und P t (.slice e)] {sz by_ : Nat} {z : Value} [hi : Inf P e sz by_ z] {x y : Operand} {v : Value} {F : Nat → Prop} {as : List α} {a : α} {j : Nat} {ki : IntKind} {i : Int} (hg : gd ops L g = some true) (hd : Nat.blt d n = true) (hz : Nat.blt 0 sz = true)
    (hx : opv L x = some v) (hy : opv L y = some (.int ki i)) (hE : E.sz = sz) (hl : Lsr E F w v as) (hij : i = (j : Int)) (hxa : as[j]? = some a)
    (k : ∀ b o us, F b → E.rel F w us a → (∀ i u, us[i]? = some u → w.cell? ⟨b, o + i, none⟩ = some u) → TL P ops n ((d, .pointer (some ⟨b, o, none⟩)) :: L) rest w N) : TL P ops n L (⟨some d, .indexAddr t x y, ty, ps, af, g⟩ :: rest) w N :=
  let ⟨b, o, us, h0, h1, h2, h3⟩ := Ev.indexL hz hx hy hE hl hij hxa; TL.ev hg hd h3 (k b o us h0 h1 h2)
theorem TS.indexL {α : Type} {E : Elm α} {t e : TypeId} [ht : Und P t (.slice e)] {sz by_ : Nat} {z : Value} [hi : Inf P e sz by_ z] {x y : Operand} {v : Value} {F : Nat → Prop} {as : List α} {a : α} {j : Nat} {ki : IntKind} {i : Int} {M : Sl → Prop} (hg : gd ops L g = some true) (hd : Nat.blt d n = true) (hz : Nat.blt 0 sz = true)
    (hx : opv L x = some v) (hy : opv L y = some (.int ki i)) (hE : E.sz = sz) (hl : Lsr E F w v as) (hij : i = (j : Int)) (hxa : as[j]? = some a)
    (k : ∀ b o us, F b → E.rel F w us a → (∀ i u, us[i]? = some u → w.cell? ⟨b, o + i, none⟩ = some u) → TS P ops n ((d, .pointer (some ⟨b, o, none⟩)) :: L) rest w M) : TS P ops n L (⟨some d, .indexAddr t x y, ty, ps, af, g⟩ :: rest) w M :=
  let ⟨b, o, us, h0, h1, h2, h3⟩ := Ev.indexL hz hx hy hE hl hij hxa; TS.ev hg hd h3 (k b o us h0 h1 h2)
end
end Go.Fw
namespace Go.Fw
open Go.RowKit
theorem append_keeps {P : Program} {ty t e : TypeId} {sz by_ : Nat} {z : Value} (ht : P.underlying t = some (.slice e)) (hi : Inf P e sz by_ z) {w w' : World} {sv xv v' : Value} {B m nn : Nat} {xs news : List Value} {F : Nat → Prop}
    (hown : w.ownsRow B e sz sv nn xs) (hrd : Rd F w sz xv m news) (h1 : ∀ u ∈ news, u.oneCell' = true) (hsz0 : 0 < sz) (hb : (nn + m) * by_ ≤ 140737488355328) (hm : nn + m ≤ maxLen)
    (hr : (Builtin.append_ #[t, t] ty #[sv, xv]).run P w = .ok v' w') : w'.ownsRow B e sz sv nn xs ∧ (Ext w w' ∨ v'.ownBlock = sv.ownBlock) := by
  obtain ⟨i, hinf, hsz', hby, hz⟩ := hi.out
  obtain ⟨a, c, rfl, hl, hmc, hc, hn, hcell⟩ := hrd
  rcases hown.2 with ⟨rfl, rfl⟩ | ⟨gg, cap, cur, rfl, hB, hgg, hnc, hcm, hcs, htake⟩
  · refine ⟨⟨hown.1, Or.inl ⟨rfl, rfl⟩⟩, .inl ?_⟩
    by_cases hne : news = []
    · subst hne
      have hm0 : m = 0 := by
        rcases Nat.eq_zero_or_pos m with h | h
        · exact h
        · have := Nat.mul_pos h hsz0; simp at hl; omega
      subst hm0
      have : w' = w := by
        cases a <;> simp [Builtin.append_, run_underlying ht, sizeOf, typeInfo, hinf, Builtin.lenOf, Builtin.firstCells, loadCells, loadCellsFrom] at hr <;> exact hr.2.symm
      subst this
      exact Ext.refl _
    · obtain ⟨b, off, rfl, _, hcells⟩ := hcell hne
      have hcells' : ∀ j u, news[j]? = some u → w.cell? ((⟨b, off, none⟩ : Addr).add j) = some u := fun j u hu => by
        have hadd : (⟨b, off, none⟩ : Addr).add j = ⟨b, off + j, none⟩ := by unfold Addr.add; split <;> simp_all
        rw [hadd]; exact hcells j u hu
      have hm0 : 0 < m := by
        rcases Nat.eq_zero_or_pos m with h | h
        · subst h; simp at hl; exact absurd hl hne
        · exact h
      subst hsz' hby
      simp only [maxLen] at hm
      have hr2 := run_append_nil (P := P) w t ty e i z ht hinf hz ⟨b, off, none⟩ m c news hl hcells' hm0 (by omega) (by simp only [Nat.zero_add] at hb; omega)
      rw [hr2] at hr
      simp only [Result.ok.injEq] at hr
      obtain ⟨_, rfl⟩ := hr
      exact ((Below.refl _ _).drew).alloc (Nat.le_refl _) _
  by_cases hne : news = []
  · subst hne
    have hm0 : m = 0 := by
      rcases Nat.eq_zero_or_pos m with h | h
      · exact h
      · have := Nat.mul_pos h hsz0; simp at hl; omega
    subst hm0
    have : w' = w := by
      cases a <;> simp [Builtin.append_, run_underlying ht, sizeOf, typeInfo, hinf, Builtin.lenOf, Builtin.firstCells, loadCells, loadCellsFrom, hnc, storeCells] at hr <;> exact hr.2.symm
    subst this
    exact ⟨hown, .inl (Ext.refl _)⟩
  · obtain ⟨b, off, rfl, _, hcells⟩ := hcell hne
    have hcells' : ∀ j u, news[j]? = some u → w.cell? ((⟨b, off, none⟩ : Addr).add j) = some u := fun j u hu => by
      have hadd : (⟨b, off, none⟩ : Addr).add j = ⟨b, off + j, none⟩ := by unfold Addr.add; split <;> simp_all
      rw [hadd]; exact hcells j u hu
    have hm0 : 0 < m := by
      rcases Nat.eq_zero_or_pos m with h | h
      · subst h; simp at hl; exact absurd hl hne
      · exact h
    subst hsz' hby
    simp only [maxLen] at hm
    by_cases hroom : nn + m ≤ cap
    · have hfit : nn * i.size + news.length ≤ cur.size := by rw [hl, hcs, ← Nat.add_mul]; exact Nat.mul_le_mul_right _ hroom
      have hr2 := run_append_room (P := P) w t ty e i ht hinf gg nn cap cur hgg ⟨b, off, none⟩ m c news hl hcells' h1 hroom hfit
      rw [hr2] at hr
      simp only [Result.ok.injEq] at hr
      obtain ⟨rfl, rfl⟩ := hr
      refine ⟨⟨hown.1, Or.inr ⟨gg, cap, _, rfl, hB, setRow_heap w gg cur _ e _ hgg, hnc, hcm, ?_, ?_⟩⟩, .inr rfl⟩
      · simp; omega
      · have hlt : (cur.toList.take (nn * i.size)).length = nn * i.size := by simp; omega
        simp only [List.append_assoc]
        rw [List.take_append_of_le_length (by omega), List.take_of_length_le (by omega), htake]
    · have hr2 := run_append_grow (P := P) w t ty e i z ht hinf hz ⟨gg, 0, none⟩ nn cap xs hown.1 (hown.cells (g := gg) rfl) ⟨b, off, none⟩ m c news hl hcells' (by omega) (by omega) (growslice_fits (by omega) hb)
      rw [hr2] at hr
      simp only [Result.ok.injEq] at hr
      obtain ⟨_, rfl⟩ := hr
      have hlt : gg < w.heap.size := (Array.getElem?_eq_some_iff.1 hgg).1
      refine ⟨⟨hown.1, Or.inr ⟨gg, cap, cur, rfl, hB, ?_, hnc, hcm, hcs, htake⟩⟩, .inl (((Below.refl _ _).drew).alloc (Nat.le_refl _) _)⟩
      show (w.heap.push _)[gg]? = _
      rw [Array.getElem?_push, if_neg (by omega)]
      exact hgg
section
variable {P : Program} {ops : Array Oper} {n : Nat} {L : Sl} {rest : List Oper} {w : World} {N : Sl → World → Prop}
variable {d : Nat} {ty : TypeId} {ps : String} {af : Array Edge} {g : Option (Nat × Bool)}
theorem TL.pushK {t e : TypeId} [ht : Und P t (.slice e)] {sz by_ : Nat} {z : Value} [hi : Inf P e sz by_ z] {s x : Operand} {sv xv : Value} {B m nn : Nat} {xs news : List Value} {F : Nat → Prop} (hg : gd ops L g = some true) (hd : Nat.blt d n = true)
    (hs : opv L s = some sv) (hx : opv L x = some xv) (hown : w.ownsRow B e sz sv nn xs) (hrd : Rd F w sz xv m news) (h1 : ∀ u ∈ news, u.oneCell' = true) (hsz : Nat.blt 0 sz = true)
    (hb : (nn + m) * by_ ≤ 140737488355328) (hm : nn + m ≤ maxLen) (hB : B ≤ w.heap.size)
    (k : ∀ v' w', w'.ownsRow B e sz v' (nn + m) (xs ++ news) → w.grownBy w' sv.ownBlock → w'.ownsRow B e sz sv nn xs → (Ext w w' ∨ v'.ownBlock = sv.ownBlock) → TL P ops n ((d, v') :: L) rest w' N) :
    TL P ops n L (⟨some d, .call ⟨.builtin .append, #[s, x], #[t, t]⟩, ty, ps, af, g⟩ :: rest) w N := by
  obtain ⟨v', w', hr, h2, h3, h4⟩ := run_append2 (P := P) (ty := ty) ht.out hi hown hrd h1 (by simpa [Nat.blt_eq] using hsz) hb hm hB
  refine TL.val v' w' hg hd (fun a ha => ?_) (have h := append_keeps ht.out hi hown hrd h1 (by simpa [Nat.blt_eq] using hsz) hb hm hr; k v' w' h2 h3 h.1 h.2)
  simp [execOp, resolve, invoke, builtin, ha.eval hs, ha.eval hx, hr]
end
/-- Rows from B on keep their first N cells, the next one may turn to x alone; small rows are as they were. -/
structure Kp (B N : Nat) (x : Value) (w w' : World) : Prop where
  below : Below B w w'
  row : ∀ (k : Nat) (cur : Array Value) (e : TypeId) (fr : Nat × Nat), w.heap[k]? = some (.cells cur e fr) → ∃ cur' : Array Value, w'.heap[k]? = some (.cells cur' e fr) ∧ cur'.size = cur.size ∧ (∀ j, (j < N ∨ cur.size ≤ 1) → cur'[j]? = cur[j]?) ∧ (cur'[N]? = cur[N]? ∨ cur'[N]? = some x)
theorem Kp.pre (B N : Nat) (x : Value) : Pre (Kp B N x) := ⟨fun w => ⟨Below.refl _ _, fun k cur e fr h => ⟨cur, h, rfl, fun _ _ => rfl, .inl rfl⟩⟩, fun {a b c} h1 h2 => ⟨h1.below.trans h2.below, fun k cur e fr h => by
  obtain ⟨c1, g1, g2, g3, g7⟩ := h1.row k cur e fr h
  obtain ⟨c2, g4, g5, g6, g8⟩ := h2.row k c1 e fr g1
  refine ⟨c2, g4, by omega, fun j hj => (g6 j (by omega)).trans (g3 j hj), ?_⟩
  rcases g8 with g8 | g8
  · rcases g7 with g7 | g7
    · exact .inl (g8.trans g7)
    · exact .inr (g8.trans g7)
  · exact .inr g8⟩⟩
theorem Kp.ofExt {B N : Nat} {x : Value} {w w' : World} (h : Ext w w') (hB : B ≤ w.heap.size) : Kp B N x w w' :=
  ⟨Below.mono h hB, fun k cur e fr hk => ⟨cur, by rw [h.block k (Array.getElem?_eq_some_iff.1 hk).1]; exact hk, rfl, fun _ _ => rfl, .inl rfl⟩⟩
theorem take_cells {N : Nat} {c c' : Array Value} (h : ∀ j, j < N → c'[j]? = c[j]?) : c'.toList.take N = c.toList.take N := by
  apply List.ext_getElem?
  intro j
  rw [List.getElem?_take, List.getElem?_take]
  split
  · rename_i hj
    rw [Array.getElem?_toList, Array.getElem?_toList]
    exact h j hj
  · rfl
theorem Kp.own {B N : Nat} {x : Value} {w w' : World} (h : Kp B N x w w') {e : TypeId} {v : Value} {xs : List Value} (ho : w.ownsRow B e 1 v N xs) : w'.ownsRow B e 1 v N xs := by
  obtain ⟨h1, h2⟩ := ho
  rcases h2 with ⟨rfl, hz⟩ | ⟨g, cap, cur, rfl, hb, hg, hn, hm, hcs, ht⟩
  · exact ⟨h1, Or.inl ⟨rfl, hz⟩⟩
  · obtain ⟨cur', g1, g2, g3, _⟩ := h.row g cur e _ hg
    exact ⟨h1, Or.inr ⟨g, cap, cur', rfl, hb, g1, hn, hm, by omega, by rw [← ht]; exact take_cells fun j hj => g3 j (.inl (by omega))⟩⟩
theorem Kp.own1 {B N : Nat} {x : Value} {w w' : World} (h : Kp B N x w w') {e : TypeId} {v : Value} {xs : List Value} (hx : xs.length = N) (ho : w.ownsRow B e 1 v (N + 1) (xs ++ [x])) : w'.ownsRow B e 1 v (N + 1) (xs ++ [x]) := by
  obtain ⟨h1, h2⟩ := ho
  rcases h2 with ⟨rfl, hz⟩ | ⟨g, cap, cur, rfl, hb, hg, hn, hm, hcs, ht⟩
  · exact ⟨h1, Or.inl ⟨rfl, hz⟩⟩
  · obtain ⟨cur', g1, g2, g3, g4⟩ := h.row g cur e _ hg
    refine ⟨h1, Or.inr ⟨g, cap, cur', rfl, hb, g1, hn, hm, by omega, ?_⟩⟩
    rw [← ht]
    have hxN : cur[N]? = some x := by
      have : (cur.toList.take ((N + 1) * 1))[N]? = (xs ++ [x])[N]? := by rw [ht]
      rw [List.getElem?_take, if_pos (by omega), List.getElem?_append_right (by omega), hx] at this
      simpa using this
    exact take_cells fun j hj => by
      by_cases hj' : j < N
      · exact g3 j (.inl hj')
      · obtain rfl : j = N := by omega
        rcases g4 with g4 | g4
        · exact g4
        · rw [g4, hxN]
theorem Kp.one {B N : Nat} {x : Value} {w w' : World} (h : Kp B N x w w') {b : Nat} {y : Value} {e : TypeId} {fr : Nat × Nat} (hr : Row w b [y] e fr) : Row w' b [y] e fr := by
  obtain ⟨cur', g1, g2, g3, _⟩ := h.row b _ e fr hr
  have : cur' = [y].toArray := by
    apply Array.ext_getElem?
    intro j
    exact g3 j (.inr (by simp))
  unfold Row
  rw [g1, this]
/-- an append to a row of N is such a step -/
theorem Kp.push {B N : Nat} {x : Value} {w w' : World} {e : TypeId} {sv v' : Value} {xs : List Value} (hN : N = 0 → sv = .slice none 0 0) (ho : w.ownsRow B e 1 sv N xs) (hg : w.grownBy w' sv.ownBlock) (ho' : w'.ownsRow B e 1 sv N xs) (hB : B ≤ w.heap.size)
    (hv : w'.ownsRow B e 1 v' (N + 1) (xs ++ [x])) (hor : Ext w w' ∨ v'.ownBlock = sv.ownBlock) : Kp B N x w w' := by
  rcases hor with hE | hE
  · exact Kp.ofExt hE hB
  refine ⟨(Below.refl _ _).grown hg hB fun j hj => (ho.lt j hj).1, fun k cur e' fr hk => ?_⟩
  by_cases hs : sv.ownBlock = some k
  · rcases ho.2 with ⟨rfl, hz⟩ | ⟨g, cap, cur0, rfl, hb, hg0, hn, hm, hcs, ht⟩
    · cases hs
    · simp only [Value.ownBlock, Option.some.injEq] at hs
      subst hs
      rw [hg0] at hk
      cases hk
      rcases ho'.2 with ⟨h0, _⟩ | ⟨g1, cap1, cur1, heq, hb1, hg1, hn1, hm1, hcs1, ht1⟩
      · cases h0
      · simp only [Value.slice.injEq, Option.some.injEq, Addr.mk.injEq, and_true] at heq
        obtain ⟨rfl, _, rfl⟩ := heq
        refine ⟨cur1, hg1, by omega, fun j hj => ?_, .inr ?_⟩
        · have hjN : j < N ∨ cur.size ≤ j := by
            rcases hj with hj | hj
            · exact .inl hj
            · have : N ≠ 0 := fun h => by cases hN h
              omega
          rcases hjN with hj | hj
          · have e1 : (cur1.toList.take (N * 1))[j]? = (cur.toList.take (N * 1))[j]? := by rw [ht1, ht]
            rw [List.getElem?_take, List.getElem?_take, if_pos (by omega), if_pos (by omega)] at e1
            simpa using e1
          · rw [Array.getElem?_eq_none (by omega), Array.getElem?_eq_none (by omega)]
        · rcases hv.2 with ⟨rfl, hz⟩ | ⟨g2, cap2, cur2, rfl, _, hg2, _, _, _, ht2⟩
          · cases hE
          · simp only [Value.ownBlock, Option.some.injEq] at hE
            subst hE
            rw [hg1] at hg2
            cases hg2
            have hxl : xs.length = N := by rw [ho.1]; omega
            have : (cur1.toList.take ((N + 1) * 1))[N]? = (xs ++ [x])[N]? := by rw [ht2]
            rw [List.getElem?_take, if_pos (by omega), List.getElem?_append_right (by omega), hxl] at this
            simpa using this
  · exact ⟨cur, by rw [hg.block k (Array.getElem?_eq_some_iff.1 hk).1 (fun h => hs h.symm)]; exact hk, rfl, fun _ _ => rfl, .inl rfl⟩
theorem own_base {w : World} {B B' : Nat} {e : TypeId} {sz : Nat} {v : Value} {n : Nat} {xs : List Value} (h : w.ownsRow B e sz v n xs) (hB : B' ≤ B) : w.ownsRow B' e sz v n xs := by
  obtain ⟨h1, h2⟩ := h
  rcases h2 with h2 | ⟨g, cap, cur, hv, hb, h3⟩
  · exact ⟨h1, Or.inl h2⟩
  · exact ⟨h1, Or.inr ⟨g, cap, cur, hv, Nat.le_trans hB hb, h3⟩⟩
end Go.Fw
namespace Go.Fw
open Go.RowKit
section
variable {P : Program} {n : Nat} {L : Sl} {w : World}
variable {d : Nat} {ty : TypeId} {ps : String} {af : Array Edge} {g : Option (Nat × Bool)}
theorem run_eqlB {t : TypeId} (ht : P.underlying t = some .bool) (w : World) (a b : Bool) : (binOp .eql t (.bool a) (.bool b)).run P w = .ok (.bool (a == b)) w := by
  show Sem.run P (do pure (Value.bool (← Op.equal t (.bool a) (.bool b)))) w = _
  have h := run_equalIn_bool' (P := P) w 9999 t a b ht
  simp only [Op.equal, Op.maxDepth, Sem.run_bind, h, Result.andThen_ok, Sem.run_pure]
theorem run_neqB {t : TypeId} (ht : P.underlying t = some .bool) (w : World) (a b : Bool) : (binOp .neq t (.bool a) (.bool b)).run P w = .ok (.bool (!(a == b))) w := by
  show Sem.run P (do pure (Value.bool (!(← Op.equal t (.bool a) (.bool b))))) w = _
  have h := run_equalIn_bool' (P := P) w 9999 t a b ht
  simp only [Op.equal, Op.maxDepth, Sem.run_bind, h, Result.andThen_ok, Sem.run_pure]
theorem Ev.eqB {t t' : TypeId} [ht : Und P t .bool] {x y : Operand} {a b : Bool} (hx : opv L x = some (.bool a)) (hy : opv L y = some (.bool b)) {r : Bool} (hr : (a == b) = r) : Ev P n L ⟨some d, .binOp .eql t x y t', ty, ps, af, g⟩ (.bool r) w := by
  subst hr
  intro s ha
  have := run_eqlB ht.out w a b
  simp only [execOp, ha.eval hx, ha.eval hy, eqGuard]
  simp [this]
theorem Ev.neB {t t' : TypeId} [ht : Und P t .bool] {x y : Operand} {a b : Bool} (hx : opv L x = some (.bool a)) (hy : opv L y = some (.bool b)) {r : Bool} (hr : (!(a == b)) = r) : Ev P n L ⟨some d, .binOp .neq t x y t', ty, ps, af, g⟩ (.bool r) w := by
  subst hr
  intro s ha
  have := run_neqB ht.out w a b
  simp only [execOp, ha.eval hx, ha.eval hy, eqGuard]
  simp [this]
end
section
variable {P : Program} {n : Nat} {N : Sl → World → Prop} {X : Nat → Sl → World → Prop} {R : Sl → World → Prop} {L : Sl} {w : World}
/-- as T.drawTail, where operations are guarded -/
theorem T.drawTailG (m : Nat) {i : Nat} {l : List Oper} (hm : P.follows .mixedOrders = true) (hB : Region.lexTailB .any l.toArray m = true)
    (h : ∀ w', Below w.heap.size w w' → w'.heap = w.heap → ∀ K : Sl → Prop, (∀ L', TL P l.toArray n L' (l.drop m) w' N → K L') → TS P l.toArray n L (l.take m) w' K) : T P n N X R L (.region i l.toArray true) w :=
  fun Q a ha qn _ _ => by
    exact wp_region_still_tail m hm hB (h _ (drewBelow w _) rfl _ (fun _ k => k) _ a ha fun _ _ f k => k Q _ f qn)
end
end Go.Fw
