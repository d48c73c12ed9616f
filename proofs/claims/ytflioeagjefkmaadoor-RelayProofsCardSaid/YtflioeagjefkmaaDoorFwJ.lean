/- A frame for walks: regions that draw their order, in which a store may stand ahead of what is read elsewhere. Conditions: none; it speaks of any program. -/
import Derived.Test.YtflioeagjefkmaaDoorFwI
set_option linter.all false
namespace Go.Fw
open Go.RowKit

/-- the slots that there are -/
def real (n : Nat) : List (Nat × SK) → List (Nat × SK)
  | [] => []
  | p :: r => bif Nat.blt p.1 n then p :: real n r else real n r
theorem mem_real {n : Nat} {E : List (Nat × SK)} {p : Nat × SK} : p ∈ real n E ↔ p ∈ E ∧ p.1 < n := by
  induction E with
  | nil => simp [real]
  | cons q r ih =>
    simp only [real]
    cases h : Nat.blt q.1 n with
    | true =>
      have hq : q.1 < n := by simpa [Nat.blt_eq] using h
      simp only [cond_true, List.mem_cons, ih]
      constructor
      · rintro (rfl | h2)
        · exact ⟨.inl rfl, hq⟩
        · exact ⟨.inr h2.1, h2.2⟩
      · rintro ⟨rfl | h2, h3⟩
        · exact .inl rfl
        · exact .inr ⟨h2, h3⟩
    | false =>
      have hq : ¬ q.1 < n := by
        intro hh
        have : Nat.blt q.1 n = true := by simpa [Nat.blt_eq] using hh
        rw [this] at h; cases h
      simp only [cond_false, List.mem_cons, ih]
      constructor
      · exact fun h2 => ⟨.inr h2.1, h2.2⟩
      · rintro ⟨rfl | h2, h3⟩
        · exact absurd h3 hq
        · exact ⟨h2, h3⟩
def dsZ (n : Nat) : Nat → List Oper → List Nat
  | _, [] => []
  | k, o :: os => o.dst.getD (n + k) :: dsZ n (k + 1) os
def okOpZ (n : Nat) (ds : List Nat) (i : Nat) (o : Oper) : Bool :=
  o.guard.isNone && decide (ds[i]? = some (o.dst.getD (n + i))) && (match o.dst with | some d => Nat.blt d n | none => true) && ((rd1 o).all fun t => Nat.blt t n) &&
  (o.after.all fun e => !Region.binds .any e || Nat.blt e.on i) && (List.range ds.length).all fun j => !(mem (rd1 o) (ds.getD j 0)) || edg o j
def chkZ (n m : Nat) (l : List Oper) : Bool :=
  decide (m < l.length) && Region.sinkB .any l.toArray m && Region.chainB .any l.toArray m && Region.seqB .any l.toArray (l.length - m) m (full m (l.length - m)) &&
  ((List.range m).all fun i => match l[i]? with | some o => okOpZ n (dsZ n 0 (l.take m)) i o | none => false) && decide (dsZ n 0 (l.take m)).Nodup && decide ((dsZ n 0 (l.take m)).length = m)
structure OkZ (n m : Nat) (l : List Oper) (ds : List Nat) : Prop where
  lt : m < l.length
  len : ds.length = m
  nodup : ds.Nodup
  sink : Region.sinkB .any l.toArray m = true
  chain : Region.chainB .any l.toArray m = true
  seq : Region.seqB .any l.toArray (l.length - m) m (full m (l.length - m)) = true
  guard : ∀ (i : Nat) (o : Oper), i < m → l[i]? = some o → o.guard = none
  dst : ∀ (i : Nat) (o : Oper), i < m → l[i]? = some o → ds[i]? = some (o.dst.getD (n + i))
  dlt : ∀ (i : Nat) (o : Oper), i < m → l[i]? = some o → ∀ d, o.dst = some d → d < n
  rlt : ∀ (i : Nat) (o : Oper), i < m → l[i]? = some o → ∀ t, t ∈ rd1 o → t < n
  back : ∀ (i : Nat) (o : Oper), i < m → l[i]? = some o → ∀ e ∈ o.after, Region.binds .any e = true → e.on < i
  reads : ∀ (i : Nat) (o : Oper), i < m → l[i]? = some o → ∀ (j t : Nat), ds[j]? = some t → t ∈ rd1 o → ∃ e ∈ o.after, Region.binds .any e = true ∧ e.on = j
theorem chkZ_spec {n m : Nat} {l : List Oper} (h : chkZ n m l = true) : ∃ ds, OkZ n m l ds := by
  simp only [chkZ, Bool.and_eq_true, decide_eq_true_eq] at h
  obtain ⟨⟨⟨⟨⟨⟨h1, h2⟩, h3⟩, h4⟩, h5⟩, h6⟩, h7⟩ := h
  generalize dsZ n 0 (l.take m) = ds at h5 h6 h7
  have key : ∀ (i : Nat) (o : Oper), i < m → l[i]? = some o → okOpZ n ds i o = true := by
    intro i o hi ho
    have := List.all_eq_true.1 h5 i (List.mem_range.2 hi)
    simpa [ho] using this
  refine ⟨ds, h1, h7, h6, h2, h3, h4, ?_, ?_, ?_, ?_, ?_, ?_⟩
  all_goals intro i o hi ho
  all_goals have hk := key i o hi ho
  all_goals simp only [okOpZ, Bool.and_eq_true, decide_eq_true_eq, Option.isNone_iff_eq_none] at hk
  all_goals obtain ⟨⟨⟨⟨⟨k1, k2⟩, k5⟩, k6⟩, k3⟩, k4⟩ := hk
  · exact k1
  · exact k2
  · intro d hd
    rw [hd] at k5
    simpa [Nat.blt_eq] using k5
  · intro t ht
    have := List.all_eq_true.1 k6 t ht
    simpa [Nat.blt_eq] using this
  · intro e he hb
    have := Array.all_eq_true_iff_forall_mem.1 k3 e he
    simpa [hb, Nat.blt_eq] using this
  · intro j t hj ht
    have hjl : j < ds.length := (List.getElem?_eq_some_iff.1 hj).1
    have := List.all_eq_true.1 k4 j (List.mem_range.2 hjl)
    have hd : ds.getD j 0 = t := by simp [List.getD, hj]
    rw [hd, mem_iff.2 ht] at this
    exact edg_spec (by simpa using this)
structure InvZ (Rl : World → World → Prop) (n m : Nat) (l : List Oper) (S : List (Nat × SK)) (L : Sl) (w0 : World) (listed : Array Bool) (a : Act) (w : World) : Prop where
  head : HeadInv .any l.toArray m listed
  fr : Fr n [] a
  ext : Rl w0 w
  done : ∀ i d s, S[i]? = some (d, s) → listed.getD i false = true → ∃ v, (d < n → a.tmps[d]? = some v) ∧ s.ok v w
  base : ∀ t v, lk L t = some v → (∀ i : Nat, i < m → ∀ s, S[i]? ≠ some (t, s)) → a.tmps[t]? = some v

def DRZ (Rs Rb : World → World → Prop) (big : Nat) (P : Program) (ops : Array Oper) (n : Nat) (L0 : Sl) (w0 : World) : Nat → List (Nat × SK) → List Oper → (List (Nat × SK) → Prop) → Prop
  | _, E, [], K => K E
  | k, E, o :: os, K => ∃ d s, d = o.dst.getD (n + k) ∧ s.mono (bif Nat.beq k big then Rs else Rb) ∧
      (∀ w', (bif Nat.beq k big then Rs else Rb) w0 w' → ∀ σ, (∀ t s', (t, s') ∈ rsE o E → s'.ok (σ t) w') → TL P ops n (inst σ (rsE o E) ++ rsL o L0) [o] w' fun L'' w'' => (bif Nat.beq k big then Rb else Rs) w' w'' ∧ ∃ v, (∀ d', o.dst = some d' → lk L'' d' = some v) ∧ s.ok v w'') ∧
      DRZ Rs Rb big P ops n L0 w0 (k + 1) ((d, s) :: E) os K

theorem DRZ_out {Rs Rb : World → World → Prop} {big : Nat} {P : Program} {ops : Array Oper} {n : Nat} {L0 : Sl} {w0 : World} {K : List (Nat × SK) → Prop} : ∀ {os : List Oper} {k : Nat} {E : List (Nat × SK)}, DRZ Rs Rb big P ops n L0 w0 k E os K →
    ∃ S : List (Nat × SK), S.length = os.length ∧ K (S.reverse ++ E) ∧ ∀ i o, os[i]? = some o → ∃ d s, S[i]? = some (d, s) ∧ d = o.dst.getD (n + (k + i)) ∧ s.mono (bif Nat.beq (k + i) big then Rs else Rb) ∧
      ∀ w', (bif Nat.beq (k + i) big then Rs else Rb) w0 w' → ∀ σ, (∀ t s', (t, s') ∈ rsE o ((S.take i).reverse ++ E) → s'.ok (σ t) w') → TL P ops n (inst σ (rsE o ((S.take i).reverse ++ E)) ++ rsL o L0) [o] w' fun L'' w'' => (bif Nat.beq (k + i) big then Rb else Rs) w' w'' ∧ ∃ v, (∀ d', o.dst = some d' → lk L'' d' = some v) ∧ s.ok v w''
  | [], k, E, h => ⟨[], rfl, h, by simp⟩
  | o :: os, k, E, h => by
    obtain ⟨d, s, hd, hm, hs, hr⟩ := h
    obtain ⟨S, hl, hk, hall⟩ := DRZ_out hr
    refine ⟨(d, s) :: S, by simp [hl], by simpa using hk, fun i o' ho' => ?_⟩
    cases i with
    | zero =>
      have : o = o' := by simpa using ho'
      subst this
      exact ⟨d, s, rfl, hd, hm, by simpa using hs⟩
    | succ i =>
      obtain ⟨d', s', h1, h2, h3, h4⟩ := hall i o' (by simpa using ho')
      rw [show k + (i + 1) = k + 1 + i by omega]
      exact ⟨d', s', by simpa using h1, h2, h3, by simpa using h4⟩

theorem wpAny_invZ {Rs Rb : World → World → Prop} {big : Nat} (pre : Pre Rb) (preS : Pre Rs) (inc : ∀ a b, Rs a b → Rb a b) {P : Program} {n m : Nat} {l : List Oper} {ds : List Nat} {S : List (Nat × SK)} {L : Sl} {w0 : World} {Q : Exit → Act → World → Prop} (ok : OkZ n m l ds) (hLn : ∀ t v, lk L t = some v → t < n) (hS : S.length = m)
    (hstep : ∀ i o, i < m → l[i]? = some o → ∃ d s, S[i]? = some (d, s) ∧ d = o.dst.getD (n + i) ∧ s.mono (bif Nat.beq i big then Rs else Rb) ∧
      ∀ w', (bif Nat.beq i big then Rs else Rb) w0 w' → ∀ σ, (∀ t s', (t, s') ∈ rsE o ((S.take i).reverse) → s'.ok (σ t) w') → TL P l.toArray n (inst σ (rsE o ((S.take i).reverse)) ++ rsL o L) [o] w' fun L'' w'' => (bif Nat.beq i big then Rb else Rs) w' w'' ∧ ∃ v, (∀ d', o.dst = some d' → lk L'' d' = some v) ∧ s.ok v w'')
    (hend : ∀ a w', Rb w0 w' → ∀ σ, (∀ t s', (t, s') ∈ S.reverse → t < n → s'.ok (σ t) w') → (∀ t s', (t, s') ∈ S.reverse → ∃ v, s'.ok v w') → Fr n (inst σ (real n S.reverse) ++ L) a → wpList P l.toArray Q (l.drop m) a w') :
    ∀ (f : Nat) (listed : Array Bool) (a : Act) (w : World), cnt listed m = f → InvZ Rb n m l S L w0 listed a w → (listed.getD big false = false → Rs w0 w) → wpAny P .any l.toArray Q (f + (l.length - m)) listed a w := by
  have hds : ∀ (i d : Nat) s, S[i]? = some (d, s) → ds[i]? = some d := by
    intro i d s hi
    have hil : i < m := by have := (List.getElem?_eq_some_iff.1 hi).1; omega
    have hlt : i < l.length := by have := ok.lt; omega
    obtain ⟨d', s', h1, h2, _⟩ := hstep i l[i] hil (List.getElem?_eq_getElem hlt)
    rw [h1] at hi; cases hi
    rw [ok.dst i _ hil (List.getElem?_eq_getElem hlt), h2]
  have hinj : ∀ (i j d : Nat) s s', S[i]? = some (d, s) → S[j]? = some (d, s') → i = j := by
    intro i j d s s' hi hj
    have h1 := hds _ _ _ hi
    have h2 := hds _ _ _ hj
    have h3 := (List.getElem?_eq_some_iff.1 h1).1
    exact (List.getElem?_inj h3 ok.nodup).1 (h1.trans h2.symm)
  intro f
  induction f with
  | zero =>
    intro listed a w hc inv sm
    have hlisted : listed = full m (l.length - m) := by
      apply Array.ext
      · have := ok.lt; simp [full, inv.head.size]; omega
      · intro i h1 h2
        have hsz : listed.size = l.length := by simpa using inv.head.size
        rcases Nat.lt_or_ge i m with h | h
        · have := cnt_zero hc i h
          simp [h1] at this
          simp [full, this, List.getElem_append, h]
        · have := inv.head.tail i h (by simp; omega)
          simp [h1] at this
          simp [full, this, List.getElem_append, Nat.not_lt.2 h]
    have hal : ∀ t s', (t, s') ∈ S.reverse → ∃ v, (t < n → a.tmps[t]? = some v) ∧ s'.ok v w := by
      intro t s' hm
      obtain ⟨i, hi⟩ := List.mem_iff_getElem?.1 (List.mem_reverse.1 hm)
      have hil : i < m := by have := (List.getElem?_eq_some_iff.1 hi).1; omega
      refine inv.done i t s' hi ?_
      have h3 := cnt_zero hc i hil
      cases h4 : listed.getD i false with
      | true => rfl
      | false =>
        have hlt : i < listed.size := by have := ok.lt; have := inv.head.size; simp at this; omega
        have := getD_in hlt h4
        rw [h3] at this; cases this
    have hw := hend a w inv.ext (fun t => a.tmps.getD t undef) (fun t s' hm htn => by
      obtain ⟨v, hv, hk⟩ := hal t s' hm
      have : a.tmps.getD t undef = v := by simp [hv htn]
      rw [this]; exact hk) (fun t s' hm => let ⟨v, _, hk⟩ := hal t s' hm; ⟨v, hk⟩) ⟨inv.fr.size, inv.fr.defers, fun t v ht => by
        rcases lk_inst ht with ⟨s, hm, hs⟩ | ⟨hn, hl⟩
        · obtain ⟨hm, htn⟩ := mem_real.1 hm
          obtain ⟨u, hu, hk⟩ := hal t s hm
          replace hu := hu htn
          have hg : a.tmps.getD t undef = u := by simp [hu]
          cases s with
          | kn c => simp only [SK.ok] at hk; simp only at hs; rw [hu, hk, hs]
          | ab φ => simp only at hs; rw [hs, hg]; exact hu
        · exact inv.base t v hl fun i _ s hi => hn s (mem_real.2 ⟨List.mem_reverse.2 (List.mem_of_getElem? hi), hLn t v hl⟩)⟩
    rw [Nat.zero_add]
    have := wpAny_of_seq (md := .any) (Q' := Q) (ops := l.toArray) (P := P) (l.drop m) m listed a w (fun j => by simp [List.getElem?_drop]) (by rw [hlisted, List.length_drop]; exact ok.seq) hw
    rwa [List.length_drop] at this
  | succ f ih =>
    intro listed a w hc inv sm
    rw [show f + 1 + (l.length - m) = (f + (l.length - m)) + 1 by omega]
    obtain ⟨i0, hi0, hun0, hbef⟩ := cnt_pos (listed := listed) (k := m) (by omega)
    have hsz : listed.size = l.length := by simpa using inv.head.size
    refine ⟨fun hnil => ?_, fun i hi => ?_⟩
    · exfalso
      have hlt : i0 < l.length := by have := ok.lt; omega
      have : i0 ∈ Region.ready .any l.toArray listed := by
        refine mem_ready.2 ⟨hun0, l[i0], by simp [hlt], fun e he hb => ?_⟩
        have hon := ok.back i0 _ hi0 (List.getElem?_eq_getElem hlt) e he hb
        have h1 := hbef e.on hon
        have h2 : e.on < listed.size := by omega
        simp [h2] at h1 ⊢; exact h1
      rw [hnil] at this; cases this
    · have him : i < m := by
        rcases Nat.lt_or_ge i m with h | h
        · exact h
        · exact absurd hi (tail_waits ok.sink ok.chain (by simpa using ok.lt) inv.head _ i0 rfl hi0 hun0 i h)
      obtain ⟨hun, o, ho, hall⟩ := mem_ready.1 hi
      have ho' : l[i]? = some o := by simpa using ho
      obtain ⟨d, s, hSi, hd, hmono, hs⟩ := hstep i o him ho'
      have hread : ∀ t s', (t, s') ∈ rsE o (S.take i).reverse → ∃ v, a.tmps[t]? = some v ∧ s'.ok v w := by
        intro t s' hm
        obtain ⟨hm1, hm2⟩ := mem_rsE.1 hm
        obtain ⟨j, hj⟩ := List.mem_iff_getElem?.1 (List.mem_of_mem_take (List.mem_reverse.1 hm1))
        obtain ⟨e, he, hb, hon⟩ := ok.reads i o him ho' j t (hds _ _ _ hj) hm2
        have := hall e he hb
        rw [hon] at this
        obtain ⟨v, hv, hk⟩ := inv.done j t s' hj this
        exact ⟨v, hv (ok.rlt i o him ho' t hm2), hk⟩
      have hfr : Fr n (inst (fun t => a.tmps.getD t undef) (rsE o (S.take i).reverse) ++ rsL o L) a := by
        refine ⟨inv.fr.size, inv.fr.defers, fun t v ht => ?_⟩
        rcases lk_inst ht with ⟨s, hm, hs⟩ | ⟨hn, hl⟩
        · obtain ⟨u, hu, hk⟩ := hread t s hm
          have hg : a.tmps.getD t undef = u := by simp [hu]
          cases s with
          | kn c => simp only [SK.ok] at hk; simp only at hs; rw [hu, hk, hs]
          | ab φ => simp only at hs; rw [hs, hg]; exact hu
        · obtain ⟨hl1, hl2⟩ := lk_rsL hl
          refine inv.base t v hl1 fun j hjm s' hj => ?_
          obtain ⟨e, he, hb, hon⟩ := ok.reads i o him ho' j t (hds _ _ _ hj) hl2
          have hlt := ok.back i o him ho' e he hb
          rw [hon] at hlt
          refine hn s' (mem_rsE.2 ⟨List.mem_reverse.2 ?_, hl2⟩)
          exact List.mem_of_getElem? (i := j) (by rw [List.getElem?_take]; simp [hlt, hj])
      have hext0 : (bif Nat.beq i big then Rs else Rb) w0 w := by
        cases hb : Nat.beq i big with
        | false => exact inv.ext
        | true =>
          have e := Nat.eq_of_beq_eq_true hb
          exact sm (by rw [← e]; exact getD_both hun)
      have hT := hs w hext0 (fun t => a.tmps.getD t undef) (fun t s' hm => by
        obtain ⟨v, hv, hk⟩ := hread t s' hm
        have : a.tmps.getD t undef = v := by simp [hv]
        rw [this]; exact hk)
      refine wpOp_of_TL ho (ok.guard i o him ho') hT hfr fun v L' w' hf' hN => ?_
      obtain ⟨hext, v', hv', hok⟩ := hN
      have hextB : Rb w w' := by
        cases hb : Nat.beq i big with
        | true => rw [hb] at hext; exact hext
        | false => rw [hb] at hext; exact inc _ _ hext
      have hset := cnt_set hun m
      simp only [him, if_true] at hset
      refine ih _ _ _ (by omega) ⟨inv.head.set hi him, ⟨hf'.size, hf'.defers, fun _ _ h => by simp [lk] at h⟩, pre.trans inv.ext hextB, fun j dj sj hj hlj => ?_, fun t u ht hnot => ?_⟩ ?_
      · by_cases e : j = i
        · subst e
          rw [hSi] at hj; cases hj
          refine ⟨v', fun hdn => ?_, hok⟩
          cases hod : o.dst with
          | none => rw [hod] at hd; simp at hd; omega
          | some d' =>
            have := hf'.slot _ _ (hv' d' hod)
            rw [hod] at hd this; simp at hd; subst hd; exact this
        · have hji : i ≠ j := fun h => e h.symm
          rw [getD_set_ne false hji] at hlj
          obtain ⟨u, hu, hk⟩ := inv.done j dj sj hj hlj
          have hne : d ≠ dj := by rintro rfl; exact hji (hinj _ _ _ _ _ hSi hj)
          have hjm : j < m := by have := (List.getElem?_eq_some_iff.1 hj).1; omega
          have hjl : j < l.length := by have := ok.lt; omega
          obtain ⟨d2, s2, g1, _, g3, _⟩ := hstep j l[j] hjm (List.getElem?_eq_getElem hjl)
          rw [g1] at hj; cases hj
          have hm : (bif Nat.beq j big then Rs else Rb) w w' := by
            cases hb : Nat.beq j big with
            | false => exact hextB
            | true =>
              have hbi : Nat.beq i big = false := by
                cases hh : Nat.beq i big with
                | false => rfl
                | true => exact absurd ((Nat.eq_of_beq_eq_true hh).trans (Nat.eq_of_beq_eq_true hb).symm) hji
              rw [hbi] at hext; exact hext
          refine ⟨u, fun hdn => ?_, g3 _ _ _ hk hm⟩
          cases hod : o.dst with
          | none => simp only [Act.put]; exact hu hdn
          | some d' =>
            rw [hod] at hd; simp at hd; subst hd
            simp only [Act.put]
            rw [Array.getElem?_setIfInBounds_ne hne]
            exact hu hdn
      · have hne : d ≠ t := by rintro rfl; exact hnot i him s hSi
        cases hod : o.dst with
        | none => simp only [Act.put]; exact inv.base t u ht hnot
        | some d' =>
          rw [hod] at hd; simp at hd; subst hd
          simp only [Act.put]
          rw [Array.getElem?_setIfInBounds_ne hne]
          exact inv.base t u ht hnot
      · intro hb
        have hib : i ≠ big := by
          rintro rfl
          have hlt : i < listed.size := by
            rcases Nat.lt_or_ge i listed.size with h' | h'
            · exact h'
            · simp [Array.getElem?_eq_none h'] at hun
          simp [hlt] at hb
        rw [getD_set_ne false hib] at hb
        have hbi : Nat.beq i big = false := by
          cases hh : Nat.beq i big with
          | false => rfl
          | true => exact absurd (Nat.eq_of_beq_eq_true hh) hib
        rw [hbi] at hext
        exact preS.trans (sm hb) hext

section
variable {P : Program} {n : Nat} {N : Sl → World → Prop} {X : Nat → Sl → World → Prop} {R : Sl → World → Prop} {L : Sl} {w : World}
/-- A region that draws, the first m of whose operations may read, make memory and call; the last ones are forced. -/
theorem T.drawRZ {Rs Rb : World → World → Prop} (big : Nat) (pre : Pre Rb) (preS : Pre Rs) (inc : ∀ a b, Rs a b → Rb a b) (m : Nat) {i : Nat} {l : List Oper} (hm : P.follows .mixedOrders = true) (hB : chkZ n m l = true)
    (h : ∀ ops w0, Below w.heap.size w w0 → w0.heap = w.heap → ∀ K : List (Nat × SK) → Prop, (∀ E, (∀ w', Rb w0 w' → ∀ σ, (∀ t s, (t, s) ∈ E → t < n → s.ok (σ t) w') → (∀ t s, (t, s) ∈ E → ∃ v, s.ok v w') → TL P ops n (inst σ (real n E) ++ L) (l.drop m) w' N) → K E) → DRZ Rs Rb big P ops n L w0 0 [] (l.take m) K) :
    T P n N X R L (.region i l.toArray true) w := by
  intro Q a ha qn _ _
  obtain ⟨ds, ok⟩ := chkZ_spec hB
  refine wp_region_any hm ?_
  obtain ⟨S, hSl, hK, hall⟩ := DRZ_out (h l.toArray _ (drewBelow w _) rfl _ fun E k => k)
  have hSm : S.length = m := by have := ok.lt; rw [hSl, List.length_take]; omega
  have := wpAny_invZ pre preS inc (P := P) (n := n) (L := L) (w0 := { w with drawn := w.drawn + 1 }) (Q := Q) ok (fun t v ht => by have h1 := ha.slot t v ht; have h2 := (Array.getElem?_eq_some_iff.1 h1).1; rw [ha.size] at h2; exact h2) hSm (fun i o hi ho => by
    have := hall i o (by rw [List.getElem?_take]; simp [hi, ho])
    simpa using this) (fun a' w' he σ hσ hσ2 hf => by
      have := hK w' he σ (by simpa using hσ) (by simpa using hσ2)
      rw [List.append_nil] at this
      exact this Q a' hf qn) m (Array.replicate l.length false) a { w with drawn := w.drawn + 1 } (by
        have : ∀ k, k ≤ l.length → cnt (Array.replicate l.length false) k = k := by
          intro k
          induction k with
          | zero => intro _; rfl
          | succ k ih =>
            intro hk
            have hk' : k < l.length := by omega
            simp [cnt, ih (by omega), hk']
        exact this m (Nat.le_of_lt ok.lt)) ⟨⟨by simp, fun j oj _ hl => (by rw [getD_replicate_false] at hl; cases hl), fun t _ ht => getD_in (by simpa using ht) (getD_replicate_false _ _)⟩,
          ⟨ha.size, ha.defers, fun _ _ h => by simp [lk] at h⟩, pre.refl _, fun j d s _ hl => (by rw [getD_replicate_false] at hl; cases hl), fun t v ht _ => ha.slot t v ht⟩ (fun _ => preS.refl _)
  rw [show m + (l.length - m) = l.length by have := ok.lt; omega] at this
  simpa using this
end



section
variable {Rs Rb : World → World → Prop} {big : Nat} {P : Program} {ops : Array Oper} {n : Nat} {L0 : Sl} {w0 : World} {E : List (Nat × SK)} {os : List Oper} {K : List (Nat × SK) → Prop} {d i : Nat} {op : Op} {ty : TypeId} {ps : String} {af : Array Edge}
theorem DRZ.v (hr : ∀ w, Rs w w) (v : Value) (hi : Nat.beq i big = false) (hd : Nat.blt d n = true)
    (h : ∀ w' σ, Rb w0 w' → Ev P n (inst σ (rsE ⟨some d, op, ty, ps, af, none⟩ E) ++ rsL ⟨some d, op, ty, ps, af, none⟩ L0) ⟨some d, op, ty, ps, af, none⟩ v w')
    (k : DRZ Rs Rb big P ops n L0 w0 (i + 1) ((d, .kn v) :: E) os K) : DRZ Rs Rb big P ops n L0 w0 i E (⟨some d, op, ty, ps, af, none⟩ :: os) K :=
  ⟨d, .kn v, rfl, SK.mono_kn v, fun w' he σ _ => by rw [hi] at he ⊢; exact TL.ev rfl hd (h w' σ he) (TL.nil ⟨hr _, v, fun d' hd' => by cases hd'; simp [lk], rfl⟩), k⟩
theorem DRZ.a (φ : Value → World → Prop) (hi : Nat.beq i big = false) (hm : ∀ v w w', φ v w → Rb w w' → φ v w')
    (h : ∀ w' σ, Rb w0 w' → Kn (rsE ⟨some d, op, ty, ps, af, none⟩ E) σ w' → TL P ops n (inst σ (rsE ⟨some d, op, ty, ps, af, none⟩ E) ++ rsL ⟨some d, op, ty, ps, af, none⟩ L0) [⟨some d, op, ty, ps, af, none⟩] w' fun L'' w'' => Rs w' w'' ∧ ∃ v, lk L'' d = some v ∧ φ v w'')
    (k : DRZ Rs Rb big P ops n L0 w0 (i + 1) ((d, .ab φ) :: E) os K) : DRZ Rs Rb big P ops n L0 w0 i E (⟨some d, op, ty, ps, af, none⟩ :: os) K :=
  ⟨d, .ab φ, rfl, by rw [hi]; exact hm, fun w' he σ hσ => by
    rw [hi] at he ⊢
    intro Q a ha qn
    exact h w' σ he (fun t s hs => hσ t s (mem_of_lkE hs)) Q a ha fun L' a' w'' f ⟨h1, v, h2, h3⟩ => qn L' a' w'' f ⟨h1, v, fun d' hd' => by cases hd'; exact h2, h3⟩, k⟩
/-- a store: the one that may write -/
theorem DRZ.st (φ : World → Prop) (hi : Nat.beq i big = true) (hm : ∀ w w', φ w → Rs w w' → φ w')
    (h : ∀ w' σ, Rs w0 w' → Kn (rsE ⟨none, op, ty, ps, af, none⟩ E) σ w' → TL P ops n (inst σ (rsE ⟨none, op, ty, ps, af, none⟩ E) ++ rsL ⟨none, op, ty, ps, af, none⟩ L0) [⟨none, op, ty, ps, af, none⟩] w' fun L'' w'' => Rb w' w'' ∧ φ w'')
    (k : DRZ Rs Rb big P ops n L0 w0 (i + 1) ((n + i, .ab fun _ => φ) :: E) os K) : DRZ Rs Rb big P ops n L0 w0 i E (⟨none, op, ty, ps, af, none⟩ :: os) K :=
  ⟨n + i, .ab fun _ => φ, rfl, by rw [hi]; exact fun _ => hm, fun w' he σ hσ => by
    rw [hi] at he ⊢
    intro Q a ha qn
    exact h w' σ he (fun t s hs => hσ t s (mem_of_lkE hs)) Q a ha fun L' a' w'' f ⟨h1, h2⟩ => qn L' a' w'' f ⟨h1, undef, fun d' hd' => (by cases hd'), h2⟩, k⟩
theorem DRZ.nil (h : K E) : DRZ Rs Rb big P ops n L0 w0 i E [] K := h
theorem T.drawKZ {N : Sl → World → Prop} {X : Nat → Sl → World → Prop} {R : Sl → World → Prop} {L : Sl} {w : World} (big m : Nat) {i : Nat} {l : List Oper} (pre : Pre Rb) (preS : Pre Rs) (inc : ∀ a b, Rs a b → Rb a b) (hm : P.follows .mixedOrders = true) (hB : chkZ n m l = true)
    (h : ∀ ops w0, Below w.heap.size w w0 → w0.heap = w.heap → ∀ K : List (Nat × SK) → Prop, (∀ E, (∀ w' σ, Rb w0 w' → Kn (real n E) σ w' → (∀ t φ, lkE E t = some (.ab φ) → ∃ v, φ v w') → TL P ops n (inst σ (real n E) ++ L) (l.drop m) w' N) → K E) → DRZ Rs Rb big P ops n L w0 0 [] (l.take m) K) :
    T P n N X R L (.region i l.toArray true) w :=
  T.drawRZ big pre preS inc m hm hB fun ops w0 hb hh K hK => h ops w0 hb hh K fun E hE => hK E fun w' he σ hσ hσ2 => hE w' σ he (fun t s hs => by
    obtain ⟨h1, h2⟩ := mem_real.1 (mem_of_lkE hs)
    exact hσ t s h1 h2) (fun t φ hs => hσ2 t _ (mem_of_lkE hs))
end
/-- all but one row stays -/
def Gr (b : Nat) (w w' : World) : Prop := w.grownBy w' (some b)
theorem Gr.pre (b : Nat) : Pre (Gr b) := ⟨fun w => grown_refl w _, fun h k => grown_trans h k⟩
theorem Gr.inc (b : Nat) : ∀ u v, Ext u v → Gr b u v := fun _ _ h => grown_below h _
end Go.Fw
