/- A frame for walks: lists of parts that lie in memory, read or appended to; regions that draw over rows that grow. Conditions: none; it speaks of any program. -/
import Derived.Test.YtflioeagjefkmaaDoorFwG
import Derived.Great.FillDense
set_option linter.all false
namespace Go.Fw
open Go.RowKit

section
variable {Rl : World → World → Prop} {P : Program} {ops : Array Oper} {n : Nat} {L0 : Sl} {w0 : World} {E : List (Nat × SK)} {os : List Oper} {K : List (Nat × SK) → Prop} {d : Nat} {op : Op} {ty : TypeId} {ps : String} {af : Array Edge}
theorem DRG.v (pre : Pre Rl) (v : Value) (hd : Nat.blt d n = true)
    (h : ∀ w' σ, Rl w0 w' → Ev P n (inst σ (rsE ⟨some d, op, ty, ps, af, none⟩ E) ++ rsL ⟨some d, op, ty, ps, af, none⟩ L0) ⟨some d, op, ty, ps, af, none⟩ v w')
    (k : DRG Rl P ops n L0 w0 ((d, .kn v) :: E) os K) : DRG Rl P ops n L0 w0 E (⟨some d, op, ty, ps, af, none⟩ :: os) K :=
  ⟨d, .kn v, rfl, SK.mono_kn v, fun w' he σ _ => TL.ev rfl hd (h w' σ he) (TL.nil ⟨pre.refl _, v, by simp [lk], rfl⟩), k⟩
theorem DRG.a (φ : Value → World → Prop) (hm : ∀ v w w', φ v w → Rl w w' → φ v w')
    (h : ∀ w' σ, Rl w0 w' → Kn (rsE ⟨some d, op, ty, ps, af, none⟩ E) σ w' → TL P ops n (inst σ (rsE ⟨some d, op, ty, ps, af, none⟩ E) ++ rsL ⟨some d, op, ty, ps, af, none⟩ L0) [⟨some d, op, ty, ps, af, none⟩] w' fun L'' w'' => Rl w' w'' ∧ ∃ v, lk L'' d = some v ∧ φ v w'')
    (k : DRG Rl P ops n L0 w0 ((d, .ab φ) :: E) os K) : DRG Rl P ops n L0 w0 E (⟨some d, op, ty, ps, af, none⟩ :: os) K :=
  ⟨d, .ab φ, rfl, hm, fun w' he σ hσ => h w' σ he fun t s hs => hσ t s (mem_of_lkE hs), k⟩
theorem DRG.nil (h : K E) : DRG Rl P ops n L0 w0 E [] K := h
theorem T.drawKG {N : Sl → World → Prop} {X : Nat → Sl → World → Prop} {R : Sl → World → Prop} {L : Sl} {w : World} (pre : Pre Rl) (m : Nat) {i : Nat} {l : List Oper} (hm : P.follows .mixedOrders = true) (hB : chkR m l = true)
    (h : ∀ ops w0, Below w.heap.size w w0 → w0.heap = w.heap → ∀ K : List (Nat × SK) → Prop, (∀ E, (∀ w' σ, Rl w0 w' → Kn E σ w' → TL P ops n (inst σ E ++ L) (l.drop m) w' N) → K E) → DRG Rl P ops n L w0 [] (l.take m) K) :
    T P n N X R L (.region i l.toArray true) w :=
  T.drawRG pre m hm hB fun ops w0 hb hh K hK => h ops w0 hb hh K fun E hE => hK E fun w' he σ hσ => hE w' σ he fun t s hs => hσ t s (mem_of_lkE hs)
end

section
variable {P : Program} {ops : Array Oper} {n : Nat} {L : Sl} {rest : List Oper} {w : World} {N : Sl → World → Prop}
variable {d : Nat} {ty : TypeId} {ps : String} {af : Array Edge} {g : Option (Nat × Bool)}
/-- a slice literal of parts of more than one cell -/
theorem TL.buildSliceN {t e : TypeId} [ht : Und P t (.slice e)] {sz by_ : Nat} {z : Value} [hi : Inf P e sz by_ z] {len : Nat} {vs : List Value} (hg : gd ops L g = some true) (hd : Nat.blt d n = true)
    {parts : List (Nat × Operand)} (hp : parts = partsFrom 0 (parts.map Prod.snd)) (hv : opvs L (parts.map Prod.snd) = some vs) (hl : vs.length = len) (h1 : ∀ v ∈ vs, v.cells.size = sz) (hz : Nat.blt 0 sz = true) (h0 : Nat.blt 0 len = true) (hs : Nat.ble (len * sz) 65536 = true)
    (k : ∀ b w', Al w w' b (.cells (vs.flatMap fun v => v.cells.toList).toArray e) → TL P ops n ((d, .slice (some ⟨b, 0, none⟩) len len) :: L) rest w' N) :
    TL P ops n L (⟨some d, .buildSlice t len parts.toArray, ty, ps, af, g⟩ :: rest) w N := by
  refine TL.val _ _ hg hd (fun a ha => ?_) (k _ _ ⟨rfl, rfl⟩)
  obtain ⟨i, hinf, hsz, hby, hzz⟩ := hi.out
  have hzp : 0 < sz := by simpa [Nat.blt_eq] using hz
  have hlp : 0 < len := by simpa [Nat.blt_eq] using h0
  have hle : len * sz ≤ 65536 := Nat.le_of_ble_eq_true hs
  have hmul : 0 < len * sz := Nat.mul_pos hlp hzp
  have hmap : (parts.toArray.map fun p => (p.1, a.eval p.2)).toList = (vs.zipIdx 0).map fun p => (p.2, p.1) := by
    have e1 : (parts.toArray.map fun p => (p.1, a.eval p.2)).toList = parts.map fun p => (p.1, a.eval p.2) := by simp
    rw [e1]
    rw [hp, partsFrom_map, opvs_eval ha hv]
  have hfill := Go.Great.fill_whole hzp vs ((Array.range (len * sz)).map (z.cells[· % z.cells.size]!)) h1 (by simp [hl])
  have hsizeOf : (sizeOf e).run P w = .ok sz w := by simp [sizeOf, typeInfo, hinf, hsz]
  have hzv : (zeroValue e).run P w = .ok z w := by simp [zeroValue, typeInfo, hinf, hzz]
  have hbig : ¬ len * sz > 2 ^ 24 := by omega
  have h0' : ¬ len * sz = 0 := by omega
  have hr : (Instr.buildSlice t len (parts.toArray.map fun p => (p.1, a.eval p.2))).run P w = .ok (.slice (some ⟨w.heap.size, 0, none⟩) len len) (w.alloc (.cells (vs.flatMap fun v => v.cells.toList).toArray e)) := by
    simp only [Instr.buildSlice, Sem.run_bind, run_underlying ht.out, Result.andThen_ok, hsizeOf, gt_iff_lt, if_neg h0', Sem.run_pure, hzv, hmap, hfill]
    rw [if_neg (by omega)]
    simp only [Sem.run_bind, Sem.run_pure, Result.andThen_ok, hzv, hfill]
    simp [newRow]
  simp only [execOp, Sem.run_bind]
  rw [hr]
  simp
end

theorem Al.rdN {w w' : World} {b : Nat} {vs : List Value} {e : TypeId} {len sz : Nat} (h : Al w w' b (.cells vs.toArray e)) (hl : vs.length = len * sz) (hm : len ≤ maxLen) : Rd (· = b) w' sz (.slice (some ⟨b, 0, none⟩) len len) len vs :=
  ⟨_, _, rfl, hl, Nat.le_refl _, hm, (fun h => by cases h), fun _ => ⟨b, 0, rfl, rfl, fun j u hu => by rw [Row.cell (l := vs) h.at_]; simpa using hu⟩⟩

/-- A kind of part: how its cells read. -/
structure Elm (α : Type) where
  sz : Nat
  rel : (Nat → Prop) → World → List Value → α → Prop
  keep : ∀ {F w w' xs a}, rel F w xs a → Same F w w' → rel F w' xs a
  lt : ∀ {F w xs a}, rel F w xs a → rel (fun k => F k ∧ k < w.heap.size) w xs a
  sub : ∀ {F G w xs a}, rel F w xs a → (∀ k, F k → G k) → rel G w xs a
  len : ∀ {F w xs a}, rel F w xs a → xs.length = sz
  one : ∀ {F w xs a}, rel F w xs a → ∀ u ∈ xs, u.oneCell' = true

def Els {α : Type} (E : Elm α) (F : Nat → Prop) (w : World) (xss : List (List Value)) (as : List α) : Prop :=
  xss.length = as.length ∧ ∀ (i : Nat) x a, xss[i]? = some x → as[i]? = some a → E.rel F w x a
namespace Els
variable {α : Type} {E : Elm α} {F G : Nat → Prop} {w w' : World} {xss : List (List Value)} {as : List α}
theorem keep (h : Els E F w xss as) (hs : Same F w w') : Els E F w' xss as := ⟨h.1, fun i x a hx ha => E.keep (h.2 i x a hx ha) hs⟩
theorem lt (h : Els E F w xss as) : Els E (fun k => F k ∧ k < w.heap.size) w xss as := ⟨h.1, fun i x a hx ha => E.lt (h.2 i x a hx ha)⟩
theorem sub (h : Els E F w xss as) (hs : ∀ k, F k → G k) : Els E G w xss as := ⟨h.1, fun i x a hx ha => E.sub (h.2 i x a hx ha) hs⟩
theorem nil : Els E F w [] [] := ⟨rfl, fun i x a hx _ => by simp at hx⟩
theorem snoc {x : List Value} {a : α} (h : Els E F w xss as) (hx : E.rel F w x a) : Els E F w (xss ++ [x]) (as ++ [a]) := by
  refine ⟨by simp [h.1], fun i y b hy hb => ?_⟩
  by_cases hi : i < xss.length
  · rw [List.getElem?_append_left hi] at hy
    rw [List.getElem?_append_left (by rw [← h.1]; exact hi)] at hb
    exact h.2 i y b hy hb
  · rw [List.getElem?_append_right (by omega)] at hy
    rw [List.getElem?_append_right (by rw [← h.1]; omega), ← h.1] at hb
    cases hk : i - xss.length with
    | zero => rw [hk] at hy hb; simp at hy hb; subst hy hb; exact hx
    | succ k => rw [hk] at hy; simp at hy
theorem flen (h : Els E F w xss as) : xss.flatten.length = as.length * E.sz := by
  obtain ⟨hl, hr⟩ := h
  induction xss generalizing as with
  | nil => cases as with
    | nil => simp
    | cons a as => simp at hl
  | cons x xss ih => cases as with
    | nil => simp at hl
    | cons a as =>
      have h0 := E.len (hr 0 x a rfl rfl)
      have := ih (as := as) (by simpa using hl) (fun i x a hx ha => hr (i + 1) x a (by simpa using hx) (by simpa using ha))
      simp only [List.flatten_cons, List.length_append, List.length_cons, this, h0, Nat.add_mul, Nat.one_mul]; omega
end Els

/-- A list that is read. -/
def Lsr {α : Type} (E : Elm α) (F : Nat → Prop) (w : World) (v : Value) (as : List α) : Prop := ∃ xss, Rd F w E.sz v as.length xss.flatten ∧ Els E F w xss as
/-- A list of one's own that grows; its parts' memory is some of H's. -/
structure LstG {α : Type} (E : Elm α) (H : Nat → Prop) (B : Nat) (w0 w : World) (e : TypeId) (v : Value) (as : List α) : Prop where
  ex : ∃ xss, Acc B w0 w e E.sz v as.length xss.flatten ∧ Els E (fun k => H k ∧ v.ownBlock ≠ some k) w xss as
/-- A list of one's own that grows. -/
abbrev Lst {α : Type} (E : Elm α) (B : Nat) (w0 w : World) (e : TypeId) (v : Value) (as : List α) : Prop := LstG E (fun _ => True) B w0 w e v as

section
variable {α : Type} {E : Elm α} {F : Nat → Prop} {w w' w0 : World} {v : Value} {as : List α} {B : Nat} {e : TypeId} {H : Nat → Prop}
theorem Lsr.ext (h : Lsr E F w v as) (he : Ext w w') : Lsr E F w' v as := let ⟨xss, hr, hb⟩ := h; ⟨xss, hr.keep (Same.ofBelow he _), hb.keep (Same.ofBelow he _)⟩
theorem Lsr.keep (h : Lsr E F w v as) (hs : Same F w w') : Lsr E F w' v as := let ⟨xss, hr, hb⟩ := h; ⟨xss, hr.keep hs, hb.keep hs⟩
theorem Lsr.sub {G : Nat → Prop} (h : Lsr E F w v as) (hs : ∀ k, F k → G k) : Lsr E G w v as := let ⟨xss, hr, hb⟩ := h; ⟨xss, hr.sub hs, hb.sub hs⟩
theorem Lsr.shape (h : Lsr E F w v as) : ∃ a c, v = .slice a as.length c ∧ as.length ≤ c := by
  obtain ⟨xss, ⟨a, c, hv, _, hm, _⟩, _⟩ := h; exact ⟨a, c, hv, hm⟩
theorem Lst.nil (B : Nat) (w0 w : World) (hb : Below B w0 w) (hB : B ≤ w0.heap.size) (e : TypeId) : Lst E B w0 w e (.slice none 0 0) [] := ⟨[], Acc.nil' B w0 w hb hB e E.sz, Els.nil⟩
theorem LstG.keep (h : LstG E H B w0 w e v as) (he : Ext w w') : LstG E H B w0 w' e v as := let ⟨xss, ha, hb⟩ := h.ex; ⟨xss, ha.keep he, hb.keep (Same.ofBelow he _)⟩
theorem LstG.below (h : LstG E H B w0 w e v as) : Below B w0 w := let ⟨_, ha, _⟩ := h.ex; ha.below
theorem LstG.base (h : LstG E H B w0 w e v as) : B ≤ w0.heap.size := let ⟨_, ha, _⟩ := h.ex; ha.base
theorem LstG.blk (h : LstG E H B w0 w e v as) : ∀ k, v.ownBlock = some k → B ≤ k ∧ k < w.heap.size := let ⟨_, ha, _⟩ := h.ex; ha.blk
theorem LstG.shape (h : LstG E H B w0 w e v as) : ∃ a c, v = .slice a as.length c := let ⟨_, ha, _⟩ := h.ex; ha.shape
theorem LstG.lsr (h : LstG E H B w0 w e v as) : Lsr E (fun _ => True) w v as := let ⟨xss, ha, hb⟩ := h.ex; ⟨xss, ha.rd.sub fun _ _ => trivial, hb.sub fun _ _ => trivial⟩
theorem LstG.lsrG (h : LstG E (B ≤ ·) B w0 w e v as) : Lsr E (B ≤ ·) w v as := let ⟨xss, ha, hb⟩ := h.ex; ⟨xss, ha.rd, hb.sub fun _ hk => hk.1⟩
theorem LstG.any (h : LstG E H B w0 w e v as) : Lst E B w0 w e v as := let ⟨xss, ha, hb⟩ := h.ex; ⟨xss, ha, hb.sub fun _ hk => ⟨trivial, hk.2⟩⟩
theorem LstG.nil' (B : Nat) (w0 w : World) (hb : Below B w0 w) (hB : B ≤ w0.heap.size) (e : TypeId) : LstG E H B w0 w e (.slice none 0 0) [] := ⟨[], Acc.nil' B w0 w hb hB e E.sz, Els.nil⟩
theorem LstG.since {w1 : World} (h : LstG E H w1.heap.size w1 w e v as) (hb : Below B w0 w1) (hB : B ≤ w0.heap.size) : LstG E H B w0 w e v as := let ⟨xss, ha, hc⟩ := h.ex; ⟨xss, ha.since hb hB, hc⟩
end

section
variable {P : Program} {ops : Array Oper} {n : Nat} {L : Sl} {rest : List Oper} {w : World} {N : Sl → World → Prop}
variable {d : Nat} {ty : TypeId} {ps : String} {af : Array Edge} {g : Option (Nat × Bool)}
theorem TL.pushG {α : Type} {E : Elm α} {t e : TypeId} [ht : Und P t (.slice e)] {by_ : Nat} {z : Value} {sz : Nat} [hi : Inf P e sz by_ z] {s x : Operand} {sv xv : Value} {B : Nat} {as : List α} {a : α} {cs : List Value} {F G H : Nat → Prop} {w0 : World} (hg : gd ops L g = some true) (hd : Nat.blt d n = true)
    (hs : opv L s = some sv) (hx : opv L x = some xv) (hE : E.sz = sz) (hacc : LstG E H B w0 w e sv as) (hrd : Rd F w E.sz xv 1 cs) (hel : E.rel G w cs a) (hG : ∀ k, G k → H k ∧ sv.ownBlock ≠ some k) (hsz : Nat.blt 0 sz = true)
    (hb : (as.length + 1) * by_ ≤ 140737488355328) (hm : as.length + 1 ≤ maxLen)
    (k : ∀ v' w', LstG E H B w0 w' e v' (as ++ [a]) → w.grownBy w' sv.ownBlock → (∀ k, v'.ownBlock = some k → sv.ownBlock = some k ∨ w.heap.size ≤ k) → TL P ops n ((d, v') :: L) rest w' N) :
    TL P ops n L (⟨some d, .call ⟨.builtin .append, #[s, x], #[t, t]⟩, ty, ps, af, g⟩ :: rest) w N := by
  subst hE
  obtain ⟨xss, ha, hc⟩ := hacc.ex
  refine TL.push hg hd hs hx ha hrd (E.one hel) hsz hb hm fun v' w' h1 h2 h3 => k v' w' ⟨xss ++ [cs], ?_, ?_⟩ h2 h3
  · rw [List.flatten_append, List.length_append]; simpa using h1
  · have c1 := (hc.lt.keep (Same.ofGrown h2 fun k hk => fun hh => hk.1.2 hh.symm)).sub (G := fun k => H k ∧ v'.ownBlock ≠ some k) (fun k hk => ⟨hk.1.1, fun hv => by
      rcases h3 k hv with hh | hh
      · exact hk.1.2 hh
      · exact absurd hk.2 (by omega)⟩)
    have c2 := E.sub (G := fun k => H k ∧ v'.ownBlock ≠ some k) (E.keep (E.lt hel) (Same.ofGrown h2 fun k hk => fun hh => (hG k hk.1).2 hh.symm)) (fun k hk => ⟨(hG k hk.1).1, fun hv => by
      rcases h3 k hv with hh | hh
      · exact (hG k hk.1).2 hh
      · exact absurd hk.2 (by omega)⟩)
    exact c1.snoc c2
theorem TL.pushE {α : Type} {E : Elm α} {t e : TypeId} [ht : Und P t (.slice e)] {by_ : Nat} {z : Value} {sz : Nat} [hi : Inf P e sz by_ z] {s x : Operand} {sv xv : Value} {B : Nat} {as : List α} {a : α} {cs : List Value} {F G : Nat → Prop} {w0 : World} (hg : gd ops L g = some true) (hd : Nat.blt d n = true)
    (hs : opv L s = some sv) (hx : opv L x = some xv) (hE : E.sz = sz) (hacc : Lst E B w0 w e sv as) (hrd : Rd F w E.sz xv 1 cs) (hel : E.rel G w cs a) (hG : ∀ k, G k → sv.ownBlock ≠ some k) (hsz : Nat.blt 0 sz = true)
    (hb : (as.length + 1) * by_ ≤ 140737488355328) (hm : as.length + 1 ≤ maxLen)
    (k : ∀ v' w', Lst E B w0 w' e v' (as ++ [a]) → w.grownBy w' sv.ownBlock → (∀ k, v'.ownBlock = some k → sv.ownBlock = some k ∨ w.heap.size ≤ k) → TL P ops n ((d, v') :: L) rest w' N) :
    TL P ops n L (⟨some d, .call ⟨.builtin .append, #[s, x], #[t, t]⟩, ty, ps, af, g⟩ :: rest) w N :=
  TL.pushG hg hd hs hx hE hacc hrd hel (fun k hk => ⟨trivial, hG k hk⟩) hsz hb hm k
end

/-- bytes as a part -/
def bytesE : Elm (List UInt8) where
  sz := 1
  rel F w xs l := ∃ v, xs = [v] ∧ By F w v l
  keep := fun ⟨v, h1, h2⟩ hs => ⟨v, h1, h2.keep hs⟩
  lt := fun ⟨v, h1, h2⟩ => ⟨v, h1, h2.ltSize⟩
  sub := fun ⟨v, h1, h2⟩ hs => ⟨v, h1, h2.sub hs⟩
  len := fun ⟨v, h1, h2⟩ => by rw [h1]; rfl
  one := fun ⟨v, h1, h2⟩ u hu => by subst h1; simp at hu; subst hu; obtain ⟨a, c, hv, _⟩ := h2; rw [hv]; rfl
/-- a pair of bytes -/
def pairE : Elm (List UInt8 × List UInt8) where
  sz := 2
  rel F w xs p := ∃ u v, xs = [u, v] ∧ By F w u p.1 ∧ By F w v p.2
  keep := fun ⟨u, v, h1, h2, h3⟩ hs => ⟨u, v, h1, h2.keep hs, h3.keep hs⟩
  lt := fun ⟨u, v, h1, h2, h3⟩ => ⟨u, v, h1, h2.ltSize, h3.ltSize⟩
  sub := fun ⟨u, v, h1, h2, h3⟩ hs => ⟨u, v, h1, h2.sub hs, h3.sub hs⟩
  len := fun ⟨u, v, h1, h2, h3⟩ => by rw [h1]; rfl
  one := fun ⟨u, v, h1, h2, h3⟩ x hx => by
    subst h1
    simp at hx
    rcases hx with rfl | rfl
    · obtain ⟨a, c, hv, _⟩ := h2; rw [hv]; rfl
    · obtain ⟨a, c, hv, _⟩ := h3; rw [hv]; rfl
end Go.Fw
