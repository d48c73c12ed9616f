/- A frame for walks: regions that draw their order and make memory: what each operation comes to, whatever was done ahead of it. Conditions: none; it speaks of any program. -/
import Derived.Test.YtflioeagjefkmaaDoorFwE
set_option linter.all false
namespace Go.Fw
open Go.RowKit

abbrev Ext (w w' : World) : Prop := Below w.heap.size w w'
theorem Ext.refl (w : World) : Ext w w := Below.refl _ _
theorem Ext.trans {a b c : World} (h : Ext a b) (k : Ext b c) : Ext a c := Below.trans h (k.mono h.size)

/-- What is known of a slot: its value, or what holds of it from now on. -/
inductive SK where
  | kn (v : Value)
  | ab (φ : Value → World → Prop)
def SK.ok : SK → Value → World → Prop
  | .kn c, v, _ => v = c
  | .ab φ, v, w => φ v w
/-- how the world may go on while a region runs -/
structure Pre (Rl : World → World → Prop) : Prop where
  refl : ∀ w, Rl w w
  trans : ∀ {a b c}, Rl a b → Rl b c → Rl a c
theorem Ext.pre : Pre Ext := ⟨Ext.refl, Ext.trans⟩
theorem Below.pre (B : Nat) : Pre (Below B) := ⟨fun w => Below.refl B w, fun h k => Below.trans h k⟩
def SK.mono (Rl : World → World → Prop) (s : SK) : Prop := ∀ v w w', s.ok v w → Rl w w' → s.ok v w'
theorem SK.mono_kn {Rl : World → World → Prop} (c : Value) : (SK.kn c).mono Rl := fun _ _ _ h _ => h

def inst (σ : Nat → Value) : List (Nat × SK) → Sl
  | [] => []
  | (t, .kn v) :: r => (t, v) :: inst σ r
  | (t, .ab _) :: r => (t, σ t) :: inst σ r

/-- the slots that an operation reads -/
def rd1 (o : Oper) : List Nat := o.op.operands.toList.filterMap fun | .tmp t => some t | _ => none
def mem (l : List Nat) (t : Nat) : Bool := l.any (Nat.beq t)
theorem mem_iff {l : List Nat} {t : Nat} : mem l t = true ↔ t ∈ l := by
  unfold mem
  rw [List.any_eq_true]
  constructor
  · rintro ⟨x, hx, h⟩; rw [Nat.eq_of_beq_eq_true h]; exact hx
  · intro h; exact ⟨t, h, Nat.beq_refl t⟩
def rsE (o : Oper) : List (Nat × SK) → List (Nat × SK)
  | [] => []
  | p :: r => bif mem (rd1 o) p.1 then p :: rsE o r else rsE o r
def rsL (o : Oper) : Sl → Sl
  | [] => []
  | p :: r => bif mem (rd1 o) p.1 then p :: rsL o r else rsL o r

def DRG (Rl : World → World → Prop) (P : Program) (ops : Array Oper) (n : Nat) (L0 : Sl) (w0 : World) : List (Nat × SK) → List Oper → (List (Nat × SK) → Prop) → Prop
  | E, [], K => K E
  | E, o :: os, K => ∃ d s, o.dst = some d ∧ s.mono Rl ∧
      (∀ w', Rl w0 w' → ∀ σ, (∀ t s', (t, s') ∈ rsE o E → s'.ok (σ t) w') → TL P ops n (inst σ (rsE o E) ++ rsL o L0) [o] w' fun L'' w'' => Rl w' w'' ∧ ∃ v, lk L'' d = some v ∧ s.ok v w'') ∧
      DRG Rl P ops n L0 w0 ((d, s) :: E) os K

abbrev DR (P : Program) (ops : Array Oper) (n : Nat) (L0 : Sl) (w0 : World) (E : List (Nat × SK)) (os : List Oper) (K : List (Nat × SK) → Prop) : Prop := DRG Ext P ops n L0 w0 E os K

theorem mem_rsE {o : Oper} {E : List (Nat × SK)} {p : Nat × SK} : p ∈ rsE o E ↔ p ∈ E ∧ p.1 ∈ rd1 o := by
  induction E with
  | nil => simp [rsE]
  | cons q r ih =>
    simp only [rsE]
    cases h : mem (rd1 o) q.1 with
    | true =>
      simp only [cond_true, List.mem_cons, ih]
      constructor
      · rintro (rfl | h2)
        · exact ⟨.inl rfl, mem_iff.1 h⟩
        · exact ⟨.inr h2.1, h2.2⟩
      · rintro ⟨rfl | h2, h3⟩
        · exact .inl rfl
        · exact .inr ⟨h2, h3⟩
    | false =>
      simp only [cond_false, List.mem_cons, ih]
      constructor
      · exact fun h2 => ⟨.inr h2.1, h2.2⟩
      · rintro ⟨rfl | h2, h3⟩
        · rw [mem_iff.2 h3] at h; cases h
        · exact ⟨h2, h3⟩
theorem lk_rsL {o : Oper} : ∀ {L : Sl} {t : Nat} {v : Value}, lk (rsL o L) t = some v → lk L t = some v ∧ t ∈ rd1 o
  | [], _, _, h => by simp [rsL, lk] at h
  | (j, u) :: r, t, v, h => by
    simp only [rsL] at h
    cases hm : mem (rd1 o) j with
    | true =>
      simp only [hm, cond_true, lk] at h ⊢
      by_cases e : j = t
      · subst e; simp at h ⊢; exact ⟨h, mem_iff.1 hm⟩
      · simp only [beq_ne e, cond_false] at h ⊢; exact lk_rsL h
    | false =>
      simp only [hm, cond_false] at h
      obtain ⟨h1, h2⟩ := lk_rsL h
      have e : j ≠ t := by rintro rfl; rw [mem_iff.2 h2] at hm; cases hm
      simp only [lk, beq_ne e, cond_false]
      exact ⟨h1, h2⟩
theorem lk_inst {σ : Nat → Value} : ∀ {E : List (Nat × SK)} {t : Nat} {v : Value} {L : Sl}, lk (inst σ E ++ L) t = some v →
    (∃ s, (t, s) ∈ E ∧ (match s with | .kn c => v = c | .ab _ => v = σ t)) ∨ ((∀ s, (t, s) ∉ E) ∧ lk L t = some v)
  | [], t, v, L, h => .inr ⟨by simp, h⟩
  | (j, s) :: r, t, v, L, h => by
    by_cases e : j = t
    · subst e
      cases s with
      | kn c => simp [inst, lk] at h; exact .inl ⟨.kn c, by simp, h.symm⟩
      | ab φ => simp [inst, lk] at h; exact .inl ⟨.ab φ, by simp, h.symm⟩
    · have h' : lk (inst σ r ++ L) t = some v := by
        cases s <;> simpa [inst, lk, beq_ne e] using h
      rcases lk_inst h' with ⟨s', hm, hs⟩ | ⟨hn, hl⟩
      · exact .inl ⟨s', by simp [hm], hs⟩
      · refine .inr ⟨fun s' hs' => ?_, hl⟩
        simp at hs'
        rcases hs' with ⟨h1, _⟩ | h2
        · exact e h1.symm
        · exact hn _ h2

/-- one operation, out of a list of one -/
theorem wpOp_of_TL {P : Program} {ops : Array Oper} {n : Nat} {L : Sl} {o : Oper} {w : World} {N : Sl → World → Prop} {i : Nat} {a : Act} {Q : Exit → Act → World → Prop} {K : Act → World → Prop} (hi : ops[i]? = some o) (hg : o.guard = none)
    (h : TL P ops n L [o] w N) (ha : Fr n L a) (hk : ∀ v L' w', Fr n L' (a.put o.dst v) → N L' w' → K (a.put o.dst v) w') : wpOp P ops Q i K a w := by
  have h1 := h (fun e a' w' => e = .normal ∧ ∃ L', Fr n L' a' ∧ N L' w') a ha (fun L' a' w' f k => ⟨rfl, L', f, k⟩)
  unfold wpOp
  simp only [hi]
  unfold wpList at h1
  have hw : Region.wanted o (yielded ops a.tmps) = true := by simp [Region.wanted, hg]
  simp only [hw, if_true] at h1 ⊢
  rcases h1 with h1 | ⟨_, _, _, h2⟩
  · left
    unfold Oper.wp at h1 ⊢
    generalize (execOp a.eval o).run P w = r at h1 ⊢
    cases r with
    | ok x w' =>
      cases x <;> simp only [Oper.upon, wpList] at h1 ⊢
      case value v => obtain ⟨_, L', f, k⟩ := h1; exact hk v L' w' f k
      case skip => obtain ⟨_, L', f, k⟩ := h1; exact hk _ L' w' f k
      case defer d =>
        obtain ⟨_, L', f, _⟩ := h1
        have := f.defers
        cases hd : o.dst <;> simp [Act.put, hd] at this
      case enter f args =>
        refine Calls.mono h1 fun e w'' he => ?_
        cases e with
        | returned v => obtain ⟨_, L', f, k⟩ := he; exact hk v L' w'' f k
        | panicked c => obtain ⟨h, _⟩ := he; cases h
        | outgrown => obtain ⟨_, _, h, _⟩ := he; cases h
      case row row args =>
        refine Rows.mono h1 fun v w'' he => ?_
        obtain ⟨_, L', f, k⟩ := he; exact hk v L' w'' f k
    | halt x w' =>
      cases x <;> simp only [Oper.upon] at h1
      obtain ⟨h, _⟩ := h1; cases h
  · obtain ⟨h, _⟩ := h2; cases h

def edg (o : Oper) (j : Nat) : Bool := o.after.any fun e => Region.binds .any e && e.on == j
theorem edg_spec {o : Oper} {j : Nat} (h : edg o j = true) : ∃ e ∈ o.after, Region.binds .any e = true ∧ e.on = j := by
  obtain ⟨e, he, hb⟩ := Array.any_eq_true'.1 h
  simp only [Bool.and_eq_true, beq_iff_eq] at hb
  exact ⟨e, he, hb.1, hb.2⟩
def okOp (ds : List Nat) (i : Nat) (o : Oper) : Bool :=
  o.guard.isNone && decide (o.dst = ds[i]?) && (o.after.all fun e => !Region.binds .any e || Nat.blt e.on i) && (List.range ds.length).all fun j => !(mem (rd1 o) (ds.getD j 0)) || edg o j
def full (m k : Nat) : Array Bool := (List.replicate m true ++ List.replicate k false).toArray
def chkR (m : Nat) (l : List Oper) : Bool :=
  decide (m < l.length) && Region.sinkB .any l.toArray m && Region.chainB .any l.toArray m && Region.seqB .any l.toArray (l.length - m) m (full m (l.length - m)) &&
  ((List.range m).all fun i => match l[i]? with | some o => okOp ((l.take m).filterMap (·.dst)) i o | none => false) && decide ((l.take m).filterMap (·.dst)).Nodup && decide (((l.take m).filterMap (·.dst)).length = m)

structure Okd (m : Nat) (l : List Oper) (ds : List Nat) : Prop where
  lt : m < l.length
  len : ds.length = m
  nodup : ds.Nodup
  sink : Region.sinkB .any l.toArray m = true
  chain : Region.chainB .any l.toArray m = true
  seq : Region.seqB .any l.toArray (l.length - m) m (full m (l.length - m)) = true
  guard : ∀ (i : Nat) (o : Oper), i < m → l[i]? = some o → o.guard = none
  dst : ∀ (i : Nat) (o : Oper), i < m → l[i]? = some o → o.dst = ds[i]?
  back : ∀ (i : Nat) (o : Oper), i < m → l[i]? = some o → ∀ e ∈ o.after, Region.binds .any e = true → e.on < i
  reads : ∀ (i : Nat) (o : Oper), i < m → l[i]? = some o → ∀ (j t : Nat), ds[j]? = some t → t ∈ rd1 o → ∃ e ∈ o.after, Region.binds .any e = true ∧ e.on = j

theorem chkR_spec {m : Nat} {l : List Oper} (h : chkR m l = true) : ∃ ds, Okd m l ds := by
  simp only [chkR, Bool.and_eq_true, decide_eq_true_eq] at h
  obtain ⟨⟨⟨⟨⟨⟨h1, h2⟩, h3⟩, h4⟩, h5⟩, h6⟩, h7⟩ := h
  generalize (l.take m).filterMap (·.dst) = ds at h5 h6 h7
  have key : ∀ (i : Nat) (o : Oper), i < m → l[i]? = some o → okOp ds i o = true := by
    intro i o hi ho
    have := List.all_eq_true.1 h5 i (List.mem_range.2 hi)
    simpa [ho] using this
  refine ⟨ds, h1, h7, h6, h2, h3, h4, ?_, ?_, ?_, ?_⟩
  all_goals intro i o hi ho
  all_goals have hk := key i o hi ho
  all_goals simp only [okOp, Bool.and_eq_true, decide_eq_true_eq, Option.isNone_iff_eq_none] at hk
  all_goals obtain ⟨⟨⟨k1, k2⟩, k3⟩, k4⟩ := hk
  · exact k1
  · exact k2
  · intro e he hb
    have := Array.all_eq_true_iff_forall_mem.1 k3 e he
    simpa [hb, Nat.blt_eq] using this
  · intro j t hj ht
    have hjl : j < ds.length := (List.getElem?_eq_some_iff.1 hj).1
    have := List.all_eq_true.1 k4 j (List.mem_range.2 hjl)
    have hd : ds.getD j 0 = t := by simp [List.getD, hj]
    rw [hd, mem_iff.2 ht] at this
    exact edg_spec (by simpa using this)

/-- how many of the first k are not yet listed -/
def cnt (listed : Array Bool) : Nat → Nat
  | 0 => 0
  | k + 1 => cnt listed k + bif listed.getD k true then 0 else 1
theorem cnt_set {listed : Array Bool} {i : Nat} (h : listed.getD i true = false) : ∀ k, cnt (listed.setIfInBounds i true) k + (if i < k then 1 else 0) = cnt listed k
  | 0 => by simp [cnt]
  | k + 1 => by
    have ih := cnt_set h k
    have hi : i < listed.size := by
      rcases Nat.lt_or_ge i listed.size with h' | h'
      · exact h'
      · simp [Array.getElem?_eq_none h'] at h
    by_cases e : i = k
    · subst e
      have h2 : (listed.setIfInBounds i true).getD i true = true := by simp [hi]
      simp only [cnt, h2, h, cond_true, cond_false] at ih ⊢
      simp at ih ⊢
      omega
    · have h2 : (listed.setIfInBounds i true).getD k true = listed.getD k true := getD_set_ne true e
      simp only [cnt, h2]
      by_cases hik : i < k
      · have : i < k + 1 := by omega
        simp only [hik, this, if_true] at ih ⊢
        omega
      · have : ¬ i < k + 1 := by omega
        simp only [hik, this, if_false] at ih ⊢
        omega
theorem cnt_zero {listed : Array Bool} : ∀ {k : Nat}, cnt listed k = 0 → ∀ i, i < k → listed.getD i true = true
  | 0, _, i, h => by omega
  | k + 1, h, i, hi => by
    simp only [cnt] at h
    by_cases e : i = k
    · subst e
      cases hl : listed.getD i true with
      | true => rfl
      | false => simp only [hl, cond_false] at h; omega
    · exact cnt_zero (k := k) (by omega) i (by omega)
theorem cnt_pos {listed : Array Bool} : ∀ {k : Nat}, cnt listed k ≠ 0 → ∃ i, i < k ∧ listed.getD i true = false ∧ ∀ j, j < i → listed.getD j true = true
  | 0, h => absurd rfl h
  | k + 1, h => by
    by_cases e : cnt listed k = 0
    · refine ⟨k, by omega, ?_, cnt_zero e⟩
      cases hl : listed.getD k true with
      | true => simp only [cnt, hl, cond_true] at h; omega
      | false => rfl
    · obtain ⟨i, h1, h2, h3⟩ := cnt_pos e
      exact ⟨i, by omega, h2, h3⟩

theorem DR_out {Rl : World → World → Prop} {P : Program} {ops : Array Oper} {n : Nat} {L0 : Sl} {w0 : World} {K : List (Nat × SK) → Prop} : ∀ {os : List Oper} {E : List (Nat × SK)}, DRG Rl P ops n L0 w0 E os K →
    ∃ S : List (Nat × SK), S.length = os.length ∧ K (S.reverse ++ E) ∧ ∀ i o, os[i]? = some o → ∃ d s, S[i]? = some (d, s) ∧ o.dst = some d ∧ s.mono Rl ∧
      ∀ w', Rl w0 w' → ∀ σ, (∀ t s', (t, s') ∈ rsE o ((S.take i).reverse ++ E) → s'.ok (σ t) w') → TL P ops n (inst σ (rsE o ((S.take i).reverse ++ E)) ++ rsL o L0) [o] w' fun L'' w'' => Rl w' w'' ∧ ∃ v, lk L'' d = some v ∧ s.ok v w''
  | [], E, h => ⟨[], rfl, h, by simp⟩
  | o :: os, E, h => by
    obtain ⟨d, s, hd, hm, hs, hr⟩ := h
    obtain ⟨S, hl, hk, hall⟩ := DR_out hr
    refine ⟨(d, s) :: S, by simp [hl], by simpa using hk, fun i o' ho' => ?_⟩
    cases i with
    | zero =>
      have : o = o' := by simpa using ho'
      subst this
      exact ⟨d, s, rfl, hd, hm, by simpa using hs⟩
    | succ i =>
      obtain ⟨d', s', h1, h2, h3, h4⟩ := hall i o' (by simpa using ho')
      exact ⟨d', s', by simpa using h1, h2, h3, by simpa using h4⟩

structure Inv (Rl : World → World → Prop) (n m : Nat) (l : List Oper) (S : List (Nat × SK)) (L : Sl) (w0 : World) (listed : Array Bool) (a : Act) (w : World) : Prop where
  head : HeadInv .any l.toArray m listed
  fr : Fr n [] a
  ext : Rl w0 w
  done : ∀ i d s, S[i]? = some (d, s) → listed.getD i false = true → ∃ v, a.tmps[d]? = some v ∧ s.ok v w
  base : ∀ t v, lk L t = some v → (∀ i : Nat, i < m → ∀ s, S[i]? ≠ some (t, s)) → a.tmps[t]? = some v

theorem wpAny_inv {Rl : World → World → Prop} (pre : Pre Rl) {P : Program} {n m : Nat} {l : List Oper} {ds : List Nat} {S : List (Nat × SK)} {L : Sl} {w0 : World} {Q : Exit → Act → World → Prop} (ok : Okd m l ds) (hS : S.length = m)
    (hstep : ∀ i o, i < m → l[i]? = some o → ∃ d s, S[i]? = some (d, s) ∧ o.dst = some d ∧ s.mono Rl ∧
      ∀ w', Rl w0 w' → ∀ σ, (∀ t s', (t, s') ∈ rsE o ((S.take i).reverse) → s'.ok (σ t) w') → TL P l.toArray n (inst σ (rsE o ((S.take i).reverse)) ++ rsL o L) [o] w' fun L'' w'' => Rl w' w'' ∧ ∃ v, lk L'' d = some v ∧ s.ok v w'')
    (hend : ∀ a w', Rl w0 w' → ∀ σ, (∀ t s', (t, s') ∈ S.reverse → s'.ok (σ t) w') → Fr n (inst σ S.reverse ++ L) a → wpList P l.toArray Q (l.drop m) a w') :
    ∀ (f : Nat) (listed : Array Bool) (a : Act) (w : World), cnt listed m = f → Inv Rl n m l S L w0 listed a w → wpAny P .any l.toArray Q (f + (l.length - m)) listed a w := by
  have hds : ∀ (i d : Nat) s, S[i]? = some (d, s) → ds[i]? = some d := by
    intro i d s hi
    have hil : i < m := by have := (List.getElem?_eq_some_iff.1 hi).1; omega
    have hlt : i < l.length := by have := ok.lt; omega
    obtain ⟨d', s', h1, h2, _⟩ := hstep i l[i] hil (List.getElem?_eq_getElem hlt)
    rw [h1] at hi; cases hi
    rw [← ok.dst i _ hil (List.getElem?_eq_getElem hlt), h2]
  have hinj : ∀ (i j d : Nat) s s', S[i]? = some (d, s) → S[j]? = some (d, s') → i = j := by
    intro i j d s s' hi hj
    have h1 := hds _ _ _ hi
    have h2 := hds _ _ _ hj
    have h3 := (List.getElem?_eq_some_iff.1 h1).1
    exact (List.getElem?_inj h3 ok.nodup).1 (h1.trans h2.symm)
  intro f
  induction f with
  | zero =>
    intro listed a w hc inv
    have hlisted : listed = full m (l.length - m) := by
      apply Array.ext
      · have := ok.lt; simp [full, inv.head.size]; omega
      · intro i h1 h2
        have hsz : listed.size = l.length := by simpa using inv.head.size
        rcases Nat.lt_or_ge i m with h | h
        · have := cnt_zero hc i h
          simp [h1] at this
          simp [full, this, List.getElem_append, h]
        · have := inv.head.tail i h (by simp; omega)
          simp [h1] at this
          simp [full, this, List.getElem_append, Nat.not_lt.2 h]
    have hal : ∀ t s', (t, s') ∈ S.reverse → ∃ v, a.tmps[t]? = some v ∧ s'.ok v w := by
      intro t s' hm
      obtain ⟨i, hi⟩ := List.mem_iff_getElem?.1 (List.mem_reverse.1 hm)
      have hil : i < m := by have := (List.getElem?_eq_some_iff.1 hi).1; omega
      refine inv.done i t s' hi ?_
      have h3 := cnt_zero hc i hil
      cases h4 : listed.getD i false with
      | true => rfl
      | false =>
        have hlt : i < listed.size := by have := ok.lt; have := inv.head.size; simp at this; omega
        have := getD_in hlt h4
        rw [h3] at this; cases this
    have hw := hend a w inv.ext (fun t => a.tmps.getD t undef) (fun t s' hm => by
      obtain ⟨v, hv, hk⟩ := hal t s' hm
      have : a.tmps.getD t undef = v := by simp [hv]
      rw [this]; exact hk) ⟨inv.fr.size, inv.fr.defers, fun t v ht => by
        rcases lk_inst ht with ⟨s, hm, hs⟩ | ⟨hn, hl⟩
        · obtain ⟨u, hu, hk⟩ := hal t s hm
          have hg : a.tmps.getD t undef = u := by simp [hu]
          cases s with
          | kn c => simp only [SK.ok] at hk; simp only at hs; rw [hu, hk, hs]
          | ab φ => simp only at hs; rw [hs, hg]; exact hu
        · exact inv.base t v hl fun i _ s hi => hn s (List.mem_reverse.2 (List.mem_of_getElem? hi))⟩
    rw [Nat.zero_add]
    have := wpAny_of_seq (md := .any) (Q' := Q) (ops := l.toArray) (P := P) (l.drop m) m listed a w (fun j => by simp [List.getElem?_drop]) (by rw [hlisted, List.length_drop]; exact ok.seq) hw
    rwa [List.length_drop] at this
  | succ f ih =>
    intro listed a w hc inv
    rw [show f + 1 + (l.length - m) = (f + (l.length - m)) + 1 by omega]
    obtain ⟨i0, hi0, hun0, hbef⟩ := cnt_pos (listed := listed) (k := m) (by omega)
    have hsz : listed.size = l.length := by simpa using inv.head.size
    refine ⟨fun hnil => ?_, fun i hi => ?_⟩
    · exfalso
      have hlt : i0 < l.length := by have := ok.lt; omega
      have : i0 ∈ Region.ready .any l.toArray listed := by
        refine mem_ready.2 ⟨hun0, l[i0], by simp [hlt], fun e he hb => ?_⟩
        have hon := ok.back i0 _ hi0 (List.getElem?_eq_getElem hlt) e he hb
        have h1 := hbef e.on hon
        have h2 : e.on < listed.size := by omega
        simp [h2] at h1 ⊢; exact h1
      rw [hnil] at this; cases this
    · have him : i < m := by
        rcases Nat.lt_or_ge i m with h | h
        · exact h
        · exact absurd hi (tail_waits ok.sink ok.chain (by simpa using ok.lt) inv.head _ i0 rfl hi0 hun0 i h)
      obtain ⟨hun, o, ho, hall⟩ := mem_ready.1 hi
      have ho' : l[i]? = some o := by simpa using ho
      obtain ⟨d, s, hSi, hd, hmono, hs⟩ := hstep i o him ho'
      have hread : ∀ t s', (t, s') ∈ rsE o (S.take i).reverse → ∃ v, a.tmps[t]? = some v ∧ s'.ok v w := by
        intro t s' hm
        obtain ⟨hm1, hm2⟩ := mem_rsE.1 hm
        obtain ⟨j, hj⟩ := List.mem_iff_getElem?.1 (List.mem_of_mem_take (List.mem_reverse.1 hm1))
        obtain ⟨e, he, hb, hon⟩ := ok.reads i o him ho' j t (hds _ _ _ hj) hm2
        have := hall e he hb
        rw [hon] at this
        exact inv.done j t s' hj this
      have hfr : Fr n (inst (fun t => a.tmps.getD t undef) (rsE o (S.take i).reverse) ++ rsL o L) a := by
        refine ⟨inv.fr.size, inv.fr.defers, fun t v ht => ?_⟩
        rcases lk_inst ht with ⟨s, hm, hs⟩ | ⟨hn, hl⟩
        · obtain ⟨u, hu, hk⟩ := hread t s hm
          have hg : a.tmps.getD t undef = u := by simp [hu]
          cases s with
          | kn c => simp only [SK.ok] at hk; simp only at hs; rw [hu, hk, hs]
          | ab φ => simp only at hs; rw [hs, hg]; exact hu
        · obtain ⟨hl1, hl2⟩ := lk_rsL hl
          refine inv.base t v hl1 fun j hjm s' hj => ?_
          obtain ⟨e, he, hb, hon⟩ := ok.reads i o him ho' j t (hds _ _ _ hj) hl2
          have hlt := ok.back i o him ho' e he hb
          rw [hon] at hlt
          refine hn s' (mem_rsE.2 ⟨List.mem_reverse.2 ?_, hl2⟩)
          exact List.mem_of_getElem? (i := j) (by rw [List.getElem?_take]; simp [hlt, hj])
      have hT := hs w inv.ext (fun t => a.tmps.getD t undef) (fun t s' hm => by
        obtain ⟨v, hv, hk⟩ := hread t s' hm
        have : a.tmps.getD t undef = v := by simp [hv]
        rw [this]; exact hk)
      refine wpOp_of_TL ho (ok.guard i o him ho') hT hfr fun v L' w' hf' hN => ?_
      rw [hd] at hf' ⊢
      obtain ⟨hext, v', hv', hok⟩ := hN
      have hset := cnt_set hun m
      simp only [him, if_true] at hset
      refine ih _ _ _ (by omega) ⟨inv.head.set hi him, ⟨hf'.size, hf'.defers, fun _ _ h => by simp [lk] at h⟩, pre.trans inv.ext hext, fun j dj sj hj hlj => ?_, fun t u ht hnot => ?_⟩
      · by_cases e : j = i
        · subst e
          rw [hSi] at hj; cases hj
          exact ⟨v', hf'.slot _ _ hv', hok⟩
        · have hji : i ≠ j := fun h => e h.symm
          rw [getD_set_ne false hji] at hlj
          obtain ⟨u, hu, hk⟩ := inv.done j dj sj hj hlj
          have hne : d ≠ dj := by rintro rfl; exact hji (hinj _ _ _ _ _ hSi hj)
          have hjm : j < m := by have := (List.getElem?_eq_some_iff.1 hj).1; omega
          have hjl : j < l.length := by have := ok.lt; omega
          obtain ⟨d2, s2, g1, _, g3, _⟩ := hstep j l[j] hjm (List.getElem?_eq_getElem hjl)
          rw [g1] at hj; cases hj
          refine ⟨u, ?_, g3 _ _ _ hk hext⟩
          simp only [Act.put]
          rw [Array.getElem?_setIfInBounds_ne hne]
          exact hu
      · have hne : d ≠ t := by rintro rfl; exact hnot i him s hSi
        simp only [Act.put]
        rw [Array.getElem?_setIfInBounds_ne hne]
        exact inv.base t u ht hnot

section
variable {P : Program} {n : Nat} {N : Sl → World → Prop} {X : Nat → Sl → World → Prop} {R : Sl → World → Prop} {L : Sl} {w : World}
/-- A region that draws, the first m of whose operations may read, make memory and call; the last ones are forced. -/
theorem T.drawRG {Rl : World → World → Prop} (pre : Pre Rl) (m : Nat) {i : Nat} {l : List Oper} (hm : P.follows .mixedOrders = true) (hB : chkR m l = true)
    (h : ∀ ops w0, Below w.heap.size w w0 → w0.heap = w.heap → ∀ K : List (Nat × SK) → Prop, (∀ E, (∀ w', Rl w0 w' → ∀ σ, (∀ t s, (t, s) ∈ E → s.ok (σ t) w') → TL P ops n (inst σ E ++ L) (l.drop m) w' N) → K E) → DRG Rl P ops n L w0 [] (l.take m) K) :
    T P n N X R L (.region i l.toArray true) w := by
  intro Q a ha qn _ _
  obtain ⟨ds, ok⟩ := chkR_spec hB
  refine wp_region_any hm ?_
  obtain ⟨S, hSl, hK, hall⟩ := DR_out (h l.toArray _ (drewBelow w _) rfl _ fun E k => k)
  have hSm : S.length = m := by have := ok.lt; rw [hSl, List.length_take]; omega
  have := wpAny_inv pre (P := P) (n := n) (L := L) (w0 := { w with drawn := w.drawn + 1 }) (Q := Q) ok hSm (fun i o hi ho => by
    have := hall i o (by rw [List.getElem?_take]; simp [hi, ho])
    simpa using this) (fun a' w' he σ hσ hf => by
      have := hK w' he σ (by simpa using hσ)
      rw [List.append_nil] at this
      exact this Q a' hf qn) m (Array.replicate l.length false) a { w with drawn := w.drawn + 1 } (by
        have : ∀ k, k ≤ l.length → cnt (Array.replicate l.length false) k = k := by
          intro k
          induction k with
          | zero => intro _; rfl
          | succ k ih =>
            intro hk
            have hk' : k < l.length := by omega
            simp [cnt, ih (by omega), hk']
        exact this m (Nat.le_of_lt ok.lt)) ⟨⟨by simp, fun j oj _ hl => (by rw [getD_replicate_false] at hl; cases hl), fun t _ ht => getD_in (by simpa using ht) (getD_replicate_false _ _)⟩,
          ⟨ha.size, ha.defers, fun _ _ h => by simp [lk] at h⟩, pre.refl _, fun j d s _ hl => (by rw [getD_replicate_false] at hl; cases hl), fun t v ht _ => ha.slot t v ht⟩
  rw [show m + (l.length - m) = l.length by have := ok.lt; omega] at this
  simpa using this
end

section
variable {P : Program} {ops : Array Oper} {n : Nat} {L0 : Sl} {w0 : World} {E : List (Nat × SK)} {o : Oper} {os : List Oper} {K : List (Nat × SK) → Prop} {d : Nat}
theorem T.drawR {N : Sl → World → Prop} {X : Nat → Sl → World → Prop} {R : Sl → World → Prop} {L : Sl} {w : World} (m : Nat) {i : Nat} {l : List Oper} (hm : P.follows .mixedOrders = true) (hB : chkR m l = true)
    (h : ∀ ops w0, Below w.heap.size w w0 → w0.heap = w.heap → ∀ K : List (Nat × SK) → Prop, (∀ E, (∀ w', Ext w0 w' → ∀ σ, (∀ t s, (t, s) ∈ E → s.ok (σ t) w') → TL P ops n (inst σ E ++ L) (l.drop m) w' N) → K E) → DR P ops n L w0 [] (l.take m) K) :
    T P n N X R L (.region i l.toArray true) w := T.drawRG Ext.pre m hm hB h
theorem DR.nil (h : K E) : DR P ops n L0 w0 E [] K := h
/-- an operation whose value is known ahead -/
theorem DR.kn {op : Op} {ty : TypeId} {ps : String} {af : Array Edge} (v : Value) (hd : Nat.blt d n = true)
    (h : ∀ w', Ext w0 w' → ∀ σ, (∀ t s', (t, s') ∈ rsE ⟨some d, op, ty, ps, af, none⟩ E → s'.ok (σ t) w') → Ev P n (inst σ (rsE ⟨some d, op, ty, ps, af, none⟩ E) ++ rsL ⟨some d, op, ty, ps, af, none⟩ L0) ⟨some d, op, ty, ps, af, none⟩ v w')
    (k : DR P ops n L0 w0 ((d, .kn v) :: E) os K) : DR P ops n L0 w0 E (⟨some d, op, ty, ps, af, none⟩ :: os) K :=
  ⟨d, .kn v, rfl, SK.mono_kn v, fun w' he σ hσ => TL.ev rfl hd (h w' he σ hσ) (TL.nil ⟨Ext.refl _, v, by simp [lk], rfl⟩), k⟩
/-- any operation -/
theorem DR.ab {op : Op} {ty : TypeId} {ps : String} {af : Array Edge} (φ : Value → World → Prop) (hm : ∀ v w w', φ v w → Ext w w' → φ v w')
    (h : ∀ w', Ext w0 w' → ∀ σ, (∀ t s', (t, s') ∈ rsE ⟨some d, op, ty, ps, af, none⟩ E → s'.ok (σ t) w') → TL P ops n (inst σ (rsE ⟨some d, op, ty, ps, af, none⟩ E) ++ rsL ⟨some d, op, ty, ps, af, none⟩ L0) [⟨some d, op, ty, ps, af, none⟩] w' fun L'' w'' => Ext w' w'' ∧ ∃ v, lk L'' d = some v ∧ φ v w'')
    (k : DR P ops n L0 w0 ((d, .ab φ) :: E) os K) : DR P ops n L0 w0 E (⟨some d, op, ty, ps, af, none⟩ :: os) K :=
  ⟨d, .ab φ, rfl, hm, h, k⟩
end
end Go.Fw
