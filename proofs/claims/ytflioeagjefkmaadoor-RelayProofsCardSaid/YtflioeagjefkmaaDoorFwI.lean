/- A frame for walks: regions that draw their order, in which one operation may write into a row that was there before. Conditions: none; it speaks of any program. -/
import Derived.Test.YtflioeagjefkmaaDoorFwH
set_option linter.all false
namespace Go.Fw
open Go.RowKit

def DRB (Rs Rb : World → World → Prop) (big : Nat) (P : Program) (ops : Array Oper) (n : Nat) (L0 : Sl) (w0 : World) : Nat → List (Nat × SK) → List Oper → (List (Nat × SK) → Prop) → Prop
  | _, E, [], K => K E
  | k, E, o :: os, K => ∃ d s, o.dst = some d ∧ s.mono (bif Nat.beq k big then Rs else Rb) ∧
      (∀ w', (bif Nat.beq k big then Rs else Rb) w0 w' → ∀ σ, (∀ t s', (t, s') ∈ rsE o E → s'.ok (σ t) w') → TL P ops n (inst σ (rsE o E) ++ rsL o L0) [o] w' fun L'' w'' => (bif Nat.beq k big then Rb else Rs) w' w'' ∧ ∃ v, lk L'' d = some v ∧ s.ok v w'') ∧
      DRB Rs Rb big P ops n L0 w0 (k + 1) ((d, s) :: E) os K

theorem DRB_out {Rs Rb : World → World → Prop} {big : Nat} {P : Program} {ops : Array Oper} {n : Nat} {L0 : Sl} {w0 : World} {K : List (Nat × SK) → Prop} : ∀ {os : List Oper} {k : Nat} {E : List (Nat × SK)}, DRB Rs Rb big P ops n L0 w0 k E os K →
    ∃ S : List (Nat × SK), S.length = os.length ∧ K (S.reverse ++ E) ∧ ∀ i o, os[i]? = some o → ∃ d s, S[i]? = some (d, s) ∧ o.dst = some d ∧ s.mono (bif Nat.beq (k + i) big then Rs else Rb) ∧
      ∀ w', (bif Nat.beq (k + i) big then Rs else Rb) w0 w' → ∀ σ, (∀ t s', (t, s') ∈ rsE o ((S.take i).reverse ++ E) → s'.ok (σ t) w') → TL P ops n (inst σ (rsE o ((S.take i).reverse ++ E)) ++ rsL o L0) [o] w' fun L'' w'' => (bif Nat.beq (k + i) big then Rb else Rs) w' w'' ∧ ∃ v, lk L'' d = some v ∧ s.ok v w''
  | [], k, E, h => ⟨[], rfl, h, by simp⟩
  | o :: os, k, E, h => by
    obtain ⟨d, s, hd, hm, hs, hr⟩ := h
    obtain ⟨S, hl, hk, hall⟩ := DRB_out hr
    refine ⟨(d, s) :: S, by simp [hl], by simpa using hk, fun i o' ho' => ?_⟩
    cases i with
    | zero =>
      have : o = o' := by simpa using ho'
      subst this
      exact ⟨d, s, rfl, hd, hm, by simpa using hs⟩
    | succ i =>
      obtain ⟨d', s', h1, h2, h3, h4⟩ := hall i o' (by simpa using ho')
      rw [show k + (i + 1) = k + 1 + i by omega]
      exact ⟨d', s', by simpa using h1, h2, h3, by simpa using h4⟩

theorem wpAny_invB {Rs Rb : World → World → Prop} {big : Nat} (pre : Pre Rb) (preS : Pre Rs) (inc : ∀ a b, Rs a b → Rb a b) {P : Program} {n m : Nat} {l : List Oper} {ds : List Nat} {S : List (Nat × SK)} {L : Sl} {w0 : World} {Q : Exit → Act → World → Prop} (ok : Okd m l ds) (hS : S.length = m)
    (hstep : ∀ i o, i < m → l[i]? = some o → ∃ d s, S[i]? = some (d, s) ∧ o.dst = some d ∧ s.mono (bif Nat.beq i big then Rs else Rb) ∧
      ∀ w', (bif Nat.beq i big then Rs else Rb) w0 w' → ∀ σ, (∀ t s', (t, s') ∈ rsE o ((S.take i).reverse) → s'.ok (σ t) w') → TL P l.toArray n (inst σ (rsE o ((S.take i).reverse)) ++ rsL o L) [o] w' fun L'' w'' => (bif Nat.beq i big then Rb else Rs) w' w'' ∧ ∃ v, lk L'' d = some v ∧ s.ok v w'')
    (hend : ∀ a w', Rb w0 w' → ∀ σ, (∀ t s', (t, s') ∈ S.reverse → s'.ok (σ t) w') → Fr n (inst σ S.reverse ++ L) a → wpList P l.toArray Q (l.drop m) a w') :
    ∀ (f : Nat) (listed : Array Bool) (a : Act) (w : World), cnt listed m = f → Inv Rb n m l S L w0 listed a w → (listed.getD big false = false → Rs w0 w) → wpAny P .any l.toArray Q (f + (l.length - m)) listed a w := by
  have hds : ∀ (i d : Nat) s, S[i]? = some (d, s) → ds[i]? = some d := by
    intro i d s hi
    have hil : i < m := by have := (List.getElem?_eq_some_iff.1 hi).1; omega
    have hlt : i < l.length := by have := ok.lt; omega
    obtain ⟨d', s', h1, h2, _⟩ := hstep i l[i] hil (List.getElem?_eq_getElem hlt)
    rw [h1] at hi; cases hi
    rw [← ok.dst i _ hil (List.getElem?_eq_getElem hlt), h2]
  have hinj : ∀ (i j d : Nat) s s', S[i]? = some (d, s) → S[j]? = some (d, s') → i = j := by
    intro i j d s s' hi hj
    have h1 := hds _ _ _ hi
    have h2 := hds _ _ _ hj
    have h3 := (List.getElem?_eq_some_iff.1 h1).1
    exact (List.getElem?_inj h3 ok.nodup).1 (h1.trans h2.symm)
  intro f
  induction f with
  | zero =>
    intro listed a w hc inv sm
    have hlisted : listed = full m (l.length - m) := by
      apply Array.ext
      · have := ok.lt; simp [full, inv.head.size]; omega
      · intro i h1 h2
        have hsz : listed.size = l.length := by simpa using inv.head.size
        rcases Nat.lt_or_ge i m with h | h
        · have := cnt_zero hc i h
          simp [h1] at this
          simp [full, this, List.getElem_append, h]
        · have := inv.head.tail i h (by simp; omega)
          simp [h1] at this
          simp [full, this, List.getElem_append, Nat.not_lt.2 h]
    have hal : ∀ t s', (t, s') ∈ S.reverse → ∃ v, a.tmps[t]? = some v ∧ s'.ok v w := by
      intro t s' hm
      obtain ⟨i, hi⟩ := List.mem_iff_getElem?.1 (List.mem_reverse.1 hm)
      have hil : i < m := by have := (List.getElem?_eq_some_iff.1 hi).1; omega
      refine inv.done i t s' hi ?_
      have h3 := cnt_zero hc i hil
      cases h4 : listed.getD i false with
      | true => rfl
      | false =>
        have hlt : i < listed.size := by have := ok.lt; have := inv.head.size; simp at this; omega
        have := getD_in hlt h4
        rw [h3] at this; cases this
    have hw := hend a w inv.ext (fun t => a.tmps.getD t undef) (fun t s' hm => by
      obtain ⟨v, hv, hk⟩ := hal t s' hm
      have : a.tmps.getD t undef = v := by simp [hv]
      rw [this]; exact hk) ⟨inv.fr.size, inv.fr.defers, fun t v ht => by
        rcases lk_inst ht with ⟨s, hm, hs⟩ | ⟨hn, hl⟩
        · obtain ⟨u, hu, hk⟩ := hal t s hm
          have hg : a.tmps.getD t undef = u := by simp [hu]
          cases s with
          | kn c => simp only [SK.ok] at hk; simp only at hs; rw [hu, hk, hs]
          | ab φ => simp only at hs; rw [hs, hg]; exact hu
        · exact inv.base t v hl fun i _ s hi => hn s (List.mem_reverse.2 (List.mem_of_getElem? hi))⟩
    rw [Nat.zero_add]
    have := wpAny_of_seq (md := .any) (Q' := Q) (ops := l.toArray) (P := P) (l.drop m) m listed a w (fun j => by simp [List.getElem?_drop]) (by rw [hlisted, List.length_drop]; exact ok.seq) hw
    rwa [List.length_drop] at this
  | succ f ih =>
    intro listed a w hc inv sm
    rw [show f + 1 + (l.length - m) = (f + (l.length - m)) + 1 by omega]
    obtain ⟨i0, hi0, hun0, hbef⟩ := cnt_pos (listed := listed) (k := m) (by omega)
    have hsz : listed.size = l.length := by simpa using inv.head.size
    refine ⟨fun hnil => ?_, fun i hi => ?_⟩
    · exfalso
      have hlt : i0 < l.length := by have := ok.lt; omega
      have : i0 ∈ Region.ready .any l.toArray listed := by
        refine mem_ready.2 ⟨hun0, l[i0], by simp [hlt], fun e he hb => ?_⟩
        have hon := ok.back i0 _ hi0 (List.getElem?_eq_getElem hlt) e he hb
        have h1 := hbef e.on hon
        have h2 : e.on < listed.size := by omega
        simp [h2] at h1 ⊢; exact h1
      rw [hnil] at this; cases this
    · have him : i < m := by
        rcases Nat.lt_or_ge i m with h | h
        · exact h
        · exact absurd hi (tail_waits ok.sink ok.chain (by simpa using ok.lt) inv.head _ i0 rfl hi0 hun0 i h)
      obtain ⟨hun, o, ho, hall⟩ := mem_ready.1 hi
      have ho' : l[i]? = some o := by simpa using ho
      obtain ⟨d, s, hSi, hd, hmono, hs⟩ := hstep i o him ho'
      have hread : ∀ t s', (t, s') ∈ rsE o (S.take i).reverse → ∃ v, a.tmps[t]? = some v ∧ s'.ok v w := by
        intro t s' hm
        obtain ⟨hm1, hm2⟩ := mem_rsE.1 hm
        obtain ⟨j, hj⟩ := List.mem_iff_getElem?.1 (List.mem_of_mem_take (List.mem_reverse.1 hm1))
        obtain ⟨e, he, hb, hon⟩ := ok.reads i o him ho' j t (hds _ _ _ hj) hm2
        have := hall e he hb
        rw [hon] at this
        exact inv.done j t s' hj this
      have hfr : Fr n (inst (fun t => a.tmps.getD t undef) (rsE o (S.take i).reverse) ++ rsL o L) a := by
        refine ⟨inv.fr.size, inv.fr.defers, fun t v ht => ?_⟩
        rcases lk_inst ht with ⟨s, hm, hs⟩ | ⟨hn, hl⟩
        · obtain ⟨u, hu, hk⟩ := hread t s hm
          have hg : a.tmps.getD t undef = u := by simp [hu]
          cases s with
          | kn c => simp only [SK.ok] at hk; simp only at hs; rw [hu, hk, hs]
          | ab φ => simp only at hs; rw [hs, hg]; exact hu
        · obtain ⟨hl1, hl2⟩ := lk_rsL hl
          refine inv.base t v hl1 fun j hjm s' hj => ?_
          obtain ⟨e, he, hb, hon⟩ := ok.reads i o him ho' j t (hds _ _ _ hj) hl2
          have hlt := ok.back i o him ho' e he hb
          rw [hon] at hlt
          refine hn s' (mem_rsE.2 ⟨List.mem_reverse.2 ?_, hl2⟩)
          exact List.mem_of_getElem? (i := j) (by rw [List.getElem?_take]; simp [hlt, hj])
      have hext0 : (bif Nat.beq i big then Rs else Rb) w0 w := by
        cases hb : Nat.beq i big with
        | false => exact inv.ext
        | true =>
          have e := Nat.eq_of_beq_eq_true hb
          exact sm (by rw [← e]; exact getD_both hun)
      have hT := hs w hext0 (fun t => a.tmps.getD t undef) (fun t s' hm => by
        obtain ⟨v, hv, hk⟩ := hread t s' hm
        have : a.tmps.getD t undef = v := by simp [hv]
        rw [this]; exact hk)
      refine wpOp_of_TL ho (ok.guard i o him ho') hT hfr fun v L' w' hf' hN => ?_
      rw [hd] at hf' ⊢
      obtain ⟨hext, v', hv', hok⟩ := hN
      have hextB : Rb w w' := by
        cases hb : Nat.beq i big with
        | true => rw [hb] at hext; exact hext
        | false => rw [hb] at hext; exact inc _ _ hext
      have hset := cnt_set hun m
      simp only [him, if_true] at hset
      refine ih _ _ _ (by omega) ⟨inv.head.set hi him, ⟨hf'.size, hf'.defers, fun _ _ h => by simp [lk] at h⟩, pre.trans inv.ext hextB, fun j dj sj hj hlj => ?_, fun t u ht hnot => ?_⟩ ?_
      · by_cases e : j = i
        · subst e
          rw [hSi] at hj; cases hj
          exact ⟨v', hf'.slot _ _ hv', hok⟩
        · have hji : i ≠ j := fun h => e h.symm
          rw [getD_set_ne false hji] at hlj
          obtain ⟨u, hu, hk⟩ := inv.done j dj sj hj hlj
          have hne : d ≠ dj := by rintro rfl; exact hji (hinj _ _ _ _ _ hSi hj)
          have hjm : j < m := by have := (List.getElem?_eq_some_iff.1 hj).1; omega
          have hjl : j < l.length := by have := ok.lt; omega
          obtain ⟨d2, s2, g1, _, g3, _⟩ := hstep j l[j] hjm (List.getElem?_eq_getElem hjl)
          rw [g1] at hj; cases hj
          have hm : (bif Nat.beq j big then Rs else Rb) w w' := by
            cases hb : Nat.beq j big with
            | false => exact hextB
            | true =>
              have hbi : Nat.beq i big = false := by
                cases hh : Nat.beq i big with
                | false => rfl
                | true => exact absurd ((Nat.eq_of_beq_eq_true hh).trans (Nat.eq_of_beq_eq_true hb).symm) hji
              rw [hbi] at hext; exact hext
          refine ⟨u, ?_, g3 _ _ _ hk hm⟩
          simp only [Act.put]
          rw [Array.getElem?_setIfInBounds_ne hne]
          exact hu
      · have hne : d ≠ t := by rintro rfl; exact hnot i him s hSi
        simp only [Act.put]
        rw [Array.getElem?_setIfInBounds_ne hne]
        exact inv.base t u ht hnot
      · intro hb
        have hib : i ≠ big := by
          rintro rfl
          have hlt : i < listed.size := by
            rcases Nat.lt_or_ge i listed.size with h' | h'
            · exact h'
            · simp [Array.getElem?_eq_none h'] at hun
          simp [hlt] at hb
        rw [getD_set_ne false hib] at hb
        have hbi : Nat.beq i big = false := by
          cases hh : Nat.beq i big with
          | false => rfl
          | true => exact absurd (Nat.eq_of_beq_eq_true hh) hib
        rw [hbi] at hext
        exact preS.trans (sm hb) hext

section
variable {P : Program} {n : Nat} {N : Sl → World → Prop} {X : Nat → Sl → World → Prop} {R : Sl → World → Prop} {L : Sl} {w : World}
/-- A region that draws, the first m of whose operations may read, make memory and call; the last ones are forced. -/
theorem T.drawRB {Rs Rb : World → World → Prop} (big : Nat) (pre : Pre Rb) (preS : Pre Rs) (inc : ∀ a b, Rs a b → Rb a b) (m : Nat) {i : Nat} {l : List Oper} (hm : P.follows .mixedOrders = true) (hB : chkR m l = true)
    (h : ∀ ops w0, Below w.heap.size w w0 → w0.heap = w.heap → ∀ K : List (Nat × SK) → Prop, (∀ E, (∀ w', Rb w0 w' → ∀ σ, (∀ t s, (t, s) ∈ E → s.ok (σ t) w') → TL P ops n (inst σ E ++ L) (l.drop m) w' N) → K E) → DRB Rs Rb big P ops n L w0 0 [] (l.take m) K) :
    T P n N X R L (.region i l.toArray true) w := by
  intro Q a ha qn _ _
  obtain ⟨ds, ok⟩ := chkR_spec hB
  refine wp_region_any hm ?_
  obtain ⟨S, hSl, hK, hall⟩ := DRB_out (h l.toArray _ (drewBelow w _) rfl _ fun E k => k)
  have hSm : S.length = m := by have := ok.lt; rw [hSl, List.length_take]; omega
  have := wpAny_invB pre preS inc (P := P) (n := n) (L := L) (w0 := { w with drawn := w.drawn + 1 }) (Q := Q) ok hSm (fun i o hi ho => by
    have := hall i o (by rw [List.getElem?_take]; simp [hi, ho])
    simpa using this) (fun a' w' he σ hσ hf => by
      have := hK w' he σ (by simpa using hσ)
      rw [List.append_nil] at this
      exact this Q a' hf qn) m (Array.replicate l.length false) a { w with drawn := w.drawn + 1 } (by
        have : ∀ k, k ≤ l.length → cnt (Array.replicate l.length false) k = k := by
          intro k
          induction k with
          | zero => intro _; rfl
          | succ k ih =>
            intro hk
            have hk' : k < l.length := by omega
            simp [cnt, ih (by omega), hk']
        exact this m (Nat.le_of_lt ok.lt)) ⟨⟨by simp, fun j oj _ hl => (by rw [getD_replicate_false] at hl; cases hl), fun t _ ht => getD_in (by simpa using ht) (getD_replicate_false _ _)⟩,
          ⟨ha.size, ha.defers, fun _ _ h => by simp [lk] at h⟩, pre.refl _, fun j d s _ hl => (by rw [getD_replicate_false] at hl; cases hl), fun t v ht _ => ha.slot t v ht⟩ (fun _ => preS.refl _)
  rw [show m + (l.length - m) = l.length by have := ok.lt; omega] at this
  simpa using this
end


/-- what lies under B stays -/
def Und0 (B : Nat) (w w' : World) : Prop := B ≤ w.heap.size → Below B w w'
theorem Und0.pre (B : Nat) : Pre (Und0 B) := ⟨fun w _ => Below.refl B w, fun h k hB => Below.trans (h hB) (k (Nat.le_trans hB (h hB).size))⟩
theorem Und0.inc (B : Nat) : ∀ a b, Ext a b → Und0 B a b := fun _ _ h hB => h.mono hB

section
variable {Rs Rb : World → World → Prop} {big : Nat} {P : Program} {ops : Array Oper} {n : Nat} {L0 : Sl} {w0 : World} {E : List (Nat × SK)} {os : List Oper} {K : List (Nat × SK) → Prop} {d i : Nat} {op : Op} {ty : TypeId} {ps : String} {af : Array Edge}
theorem DRB.v (hr : ∀ w, Rs w w) (v : Value) (hi : Nat.beq i big = false) (hd : Nat.blt d n = true)
    (h : ∀ w' σ, Rb w0 w' → Ev P n (inst σ (rsE ⟨some d, op, ty, ps, af, none⟩ E) ++ rsL ⟨some d, op, ty, ps, af, none⟩ L0) ⟨some d, op, ty, ps, af, none⟩ v w')
    (k : DRB Rs Rb big P ops n L0 w0 (i + 1) ((d, .kn v) :: E) os K) : DRB Rs Rb big P ops n L0 w0 i E (⟨some d, op, ty, ps, af, none⟩ :: os) K :=
  ⟨d, .kn v, rfl, SK.mono_kn v, fun w' he σ _ => by rw [hi] at he ⊢; exact TL.ev rfl hd (h w' σ he) (TL.nil ⟨hr _, v, by simp [lk], rfl⟩), k⟩
theorem DRB.a (φ : Value → World → Prop) (hi : Nat.beq i big = false) (hm : ∀ v w w', φ v w → Rb w w' → φ v w')
    (h : ∀ w' σ, Rb w0 w' → Kn (rsE ⟨some d, op, ty, ps, af, none⟩ E) σ w' → TL P ops n (inst σ (rsE ⟨some d, op, ty, ps, af, none⟩ E) ++ rsL ⟨some d, op, ty, ps, af, none⟩ L0) [⟨some d, op, ty, ps, af, none⟩] w' fun L'' w'' => Rs w' w'' ∧ ∃ v, lk L'' d = some v ∧ φ v w'')
    (k : DRB Rs Rb big P ops n L0 w0 (i + 1) ((d, .ab φ) :: E) os K) : DRB Rs Rb big P ops n L0 w0 i E (⟨some d, op, ty, ps, af, none⟩ :: os) K :=
  ⟨d, .ab φ, rfl, by rw [hi]; exact hm, fun w' he σ hσ => by rw [hi] at he ⊢; exact h w' σ he fun t s hs => hσ t s (mem_of_lkE hs), k⟩
/-- the one that may write -/
theorem DRB.w (φ : Value → World → Prop) (hi : Nat.beq i big = true) (hm : ∀ v w w', φ v w → Rs w w' → φ v w')
    (h : ∀ w' σ, Rs w0 w' → Kn (rsE ⟨some d, op, ty, ps, af, none⟩ E) σ w' → TL P ops n (inst σ (rsE ⟨some d, op, ty, ps, af, none⟩ E) ++ rsL ⟨some d, op, ty, ps, af, none⟩ L0) [⟨some d, op, ty, ps, af, none⟩] w' fun L'' w'' => Rb w' w'' ∧ ∃ v, lk L'' d = some v ∧ φ v w'')
    (k : DRB Rs Rb big P ops n L0 w0 (i + 1) ((d, .ab φ) :: E) os K) : DRB Rs Rb big P ops n L0 w0 i E (⟨some d, op, ty, ps, af, none⟩ :: os) K :=
  ⟨d, .ab φ, rfl, by rw [hi]; exact hm, fun w' he σ hσ => by rw [hi] at he ⊢; exact h w' σ he fun t s hs => hσ t s (mem_of_lkE hs), k⟩
theorem DRB.nil (h : K E) : DRB Rs Rb big P ops n L0 w0 i E [] K := h
theorem T.drawKB {N : Sl → World → Prop} {X : Nat → Sl → World → Prop} {R : Sl → World → Prop} {L : Sl} {w : World} (B big m : Nat) {i : Nat} {l : List Oper} (hm : P.follows .mixedOrders = true) (hB : chkR m l = true)
    (h : ∀ ops w0, Below w.heap.size w w0 → w0.heap = w.heap → ∀ K : List (Nat × SK) → Prop, (∀ E, (∀ w' σ, Und0 B w0 w' → Kn E σ w' → TL P ops n (inst σ E ++ L) (l.drop m) w' N) → K E) → DRB Ext (Und0 B) big P ops n L w0 0 [] (l.take m) K) :
    T P n N X R L (.region i l.toArray true) w :=
  T.drawRB big (Und0.pre B) Ext.pre (Und0.inc B) m hm hB fun ops w0 hb hh K hK => h ops w0 hb hh K fun E hE => hK E fun w' he σ hσ => hE w' σ he fun t s hs => hσ t s (mem_of_lkE hs)
end
end Go.Fw
