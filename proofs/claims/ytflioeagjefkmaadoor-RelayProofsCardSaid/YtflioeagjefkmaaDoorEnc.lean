/- What proof.Encode and proof.EncodeGap come to. Conditions: as each theorem says. -/
import Derived.Test.YtflioeagjefkmaaDoorNon
import Derived.Test.YtflioeagjefkmaaDoorTlv
import Derived.Test.YtflioeagjefkmaaDoorFwK
set_option linter.all false
namespace Go.Proofs
open Go.Fw Go.RowKit
attribute [local irreducible] TL T TS Ev Ret

/-- a turn's bytes -/
def encT (t : Tn) : List UInt8 :=
  let b := putB (putB [] 1 (numB t.h)) 2 (numB t.s)
  putB (if t.right then putB b 3 [1] else b) 4 t.other
/-- a proof's bytes, and the error's number -/
def encP (p : Pr) : List UInt8 × Int :=
  if 64 < p.turns.length then ([], 3) else if p.turns.any (fun t => decide (t.h < 1 ∨ 64 < t.h)) then ([], 12) else
    (putB (putB (putB [] 1 p.key) 2 p.val) 3 (packB (p.turns.map encT)), 0)
theorem putB_len (b : List UInt8) (t : UInt8) (v : List UInt8) : (putB b t v).length ≤ b.length + 3 + v.length := by
  unfold putB; split
  · omega
  · simp only [List.length_append, List.length_cons, List.length_nil]; omega
theorem numB_len (n : Nat) : (numB n).length ≤ 8 := by have := numGo_len n 8 []; simpa [numB] using this
theorem encT_len (t : Tn) (ho : t.other.length = 32) : (encT t).length ≤ 65 := by
  unfold encT
  have h1 := putB_len [] 1 (numB t.h)
  have h2 := putB_len (putB [] 1 (numB t.h)) 2 (numB t.s)
  have h3 := putB_len (putB (putB [] 1 (numB t.h)) 2 (numB t.s)) 3 [1]
  have h4 := numB_len t.h
  have h5 := numB_len t.s
  simp only
  split
  · have := putB_len (putB (putB (putB [] 1 (numB t.h)) 2 (numB t.s)) 3 [1]) 4 t.other
    simp at *; omega
  · have := putB_len (putB (putB [] 1 (numB t.h)) 2 (numB t.s)) 4 t.other
    simp at *; omega

theorem Lsr.others {F : Nat → Prop} {w : World} {v : Value} {ts : List Tn} (h : Lsr turnE F w v ts) : ∀ t ∈ ts, t.other.length = 32 := by
  obtain ⟨xss, _, hl, hr⟩ := h
  intro t ht
  obtain ⟨i, hi, rfl⟩ := List.getElem_of_mem ht
  exact (hr i _ _ (List.getElem?_eq_getElem (by rw [hl]; exact hi)) (List.getElem?_eq_getElem hi)).2
/-- as Put_ret, of a field that is not too long -/
theorem Put_ok {F G : Nat → Prop} (t : UInt8) (bv vv : Value) (b v : List UInt8) (w : World) (hb : By F w bv b) (hv : By G w vv v) (hbl : b.length ≤ 2 ^ 40) (hvl : v.length ≤ 65535) :
    Ret Tryd.prog 45 #[bv, vb t, vv] w fun r w' => ∃ u, r = .tuple #[u, .int .i64 0] ∧ NewB w w' u (putB b t v) :=
  (Put_ret t bv vv b v w hb hv hbl (by omega)).mono fun r w' h => by rw [if_pos hvl] at h; exact h

set_option maxRecDepth 20000 in
set_option maxHeartbeats 4000000 in
theorem Encode_ret (pr : Pr) (u : Value) (w : World) (hu : IsP w pr u) (hk : pr.key.length ≤ 2 ^ 15) (hv : pr.val.length ≤ 2 ^ 15) (ht : ∀ t ∈ pr.turns, t.h < 2 ^ 62 ∧ t.s < 2 ^ 64) :
    Ret Tryd.prog 12 #[u] w fun r w' => Ext w w' ∧ ∃ q, r = .tuple #[q, .int .i64 (encP pr).2] ∧ B0 w' q (encP pr).1 := by
  obtain ⟨kv, vv, tv, rfl, h1, h2, h3⟩ := hu
  obtain ⟨ta, tc, rfl, htc⟩ := h3.shape
  refine Ret.of_T Tryd.func12 rfl Tryd.ntmps12 Tryd.results12 rfl ?_
  repeat (first | refine TL.move rfl rfl rfl ?_ | refine TL.assign rfl rfl rfl ?_ | refine TL.nilCheck rfl rfl rfl ?_ | refine TL.fieldAddr rfl rfl rfl ?_ | refine TL.convI rfl rfl rfl ?_ | refine TL.cmpI rfl rfl rfl rfl rfl ?_ | refine TL.arith rfl rfl rfl rfl rfl ?_ | refine TL.lenS rfl rfl rfl ?_ | refine TL.lenStr rfl rfl rfl ?_ | refine TL.not rfl rfl rfl ?_ | refine TL.skipG rfl rfl ?_ | refine TL.pickT rfl rfl rfl rfl ?_ | refine TL.pickF rfl rfl rfl rfl ?_ | refine TL.extract rfl rfl rfl rfl ?_ | refine TL.maxI rfl rfl rfl rfl ?_ | refine TL.minI rfl rfl rfl rfl ?_ | refine TL.nilCheckF rfl rfl rfl ?_ | refine TL.nil ?_ | refine T.seqK fun K hK => ?_ | (refine T.regionO fun ops => ?_) | refine T.condT rfl ?_ | refine T.condF rfl ?_ | refine T.block ?_ | refine T.skip ?_ | refine T.ret ?_ | refine T.exit ?_ | (refine hK _ _ ?_; clear hK K) | clear hK K | clear ops)
  refine TL.box rfl rfl rfl fun b1 w1 hal1 => ?_
  have hR1 : Row w1 b1 [kv, vv, .slice ta pr.turns.length tc] 35 (0, 0) := hal1.row
  have hw1 : Ext w w1 := hal1.below
  clear hal1
  repeat (first | refine TL.move rfl rfl rfl ?_ | refine TL.assign rfl rfl rfl ?_ | refine TL.nilCheck rfl rfl rfl ?_ | refine TL.fieldAddr rfl rfl rfl ?_ | refine TL.convI rfl rfl rfl ?_ | refine TL.cmpI rfl rfl rfl rfl rfl ?_ | refine TL.arith rfl rfl rfl rfl rfl ?_ | refine TL.lenS rfl rfl rfl ?_ | refine TL.lenStr rfl rfl rfl ?_ | refine TL.not rfl rfl rfl ?_ | refine TL.skipG rfl rfl ?_ | refine TL.pickT rfl rfl rfl rfl ?_ | refine TL.pickF rfl rfl rfl rfl ?_ | refine TL.extract rfl rfl rfl rfl ?_ | refine TL.maxI rfl rfl rfl rfl ?_ | refine TL.minI rfl rfl rfl rfl ?_ | refine TL.nilCheckF rfl rfl rfl ?_ | refine TL.nil ?_ | refine T.seqK fun K hK => ?_ | (refine T.regionO fun ops => ?_) | refine T.condT rfl ?_ | refine T.condF rfl ?_ | refine T.block ?_ | refine T.skip ?_ | refine T.ret ?_ | refine T.exit ?_ | (refine hK _ _ ?_; clear hK K) | clear hK K | clear ops)
  refine TL.loadR rfl rfl rfl hR1 rfl ?_
  repeat (first | refine TL.move rfl rfl rfl ?_ | refine TL.assign rfl rfl rfl ?_ | refine TL.nilCheck rfl rfl rfl ?_ | refine TL.fieldAddr rfl rfl rfl ?_ | refine TL.convI rfl rfl rfl ?_ | refine TL.cmpI rfl rfl rfl rfl rfl ?_ | refine TL.arith rfl rfl rfl rfl rfl ?_ | refine TL.lenS rfl rfl rfl ?_ | refine TL.lenStr rfl rfl rfl ?_ | refine TL.not rfl rfl rfl ?_ | refine TL.skipG rfl rfl ?_ | refine TL.pickT rfl rfl rfl rfl ?_ | refine TL.pickF rfl rfl rfl rfl ?_ | refine TL.extract rfl rfl rfl rfl ?_ | refine TL.maxI rfl rfl rfl rfl ?_ | refine TL.minI rfl rfl rfl rfl ?_ | refine TL.nilCheckF rfl rfl rfl ?_ | refine TL.nil ?_ | refine T.seqK fun K hK => ?_ | (refine T.regionO fun ops => ?_) | refine T.condT rfl ?_ | refine T.condF rfl ?_ | refine T.block ?_ | refine T.skip ?_ | refine T.ret ?_ | refine T.exit ?_ | (refine hK _ _ ?_; clear hK K) | clear hK K | clear ops)
  refine T.cond rfl (fun hc => ?_) (fun hc => ?_)
  · have hc' : 64 < pr.turns.length := by have := of_decide_eq_true hc; omega
    have e : encP pr = ([], 3) := by simp only [encP, if_pos hc']
    repeat (first | refine TL.move rfl rfl rfl ?_ | refine TL.assign rfl rfl rfl ?_ | refine TL.nilCheck rfl rfl rfl ?_ | refine TL.fieldAddr rfl rfl rfl ?_ | refine TL.convI rfl rfl rfl ?_ | refine TL.cmpI rfl rfl rfl rfl rfl ?_ | refine TL.arith rfl rfl rfl rfl rfl ?_ | refine TL.lenS rfl rfl rfl ?_ | refine TL.lenStr rfl rfl rfl ?_ | refine TL.not rfl rfl rfl ?_ | refine TL.skipG rfl rfl ?_ | refine TL.pickT rfl rfl rfl rfl ?_ | refine TL.pickF rfl rfl rfl rfl ?_ | refine TL.extract rfl rfl rfl rfl ?_ | refine TL.maxI rfl rfl rfl rfl ?_ | refine TL.minI rfl rfl rfl rfl ?_ | refine TL.nilCheckF rfl rfl rfl ?_ | refine TL.nil ?_ | refine T.seqK fun K hK => ?_ | (refine T.regionO fun ops => ?_) | refine T.condT rfl ?_ | refine T.condF rfl ?_ | refine T.block ?_ | refine T.skip ?_ | refine T.ret ?_ | refine T.exit ?_ | (refine hK _ _ ?_; clear hK K) | clear hK K | clear ops)
    exact ⟨_, rfl, hw1, _, by rw [e], by rw [e]; exact By.nil0 _⟩
  · have hc' : ¬ 64 < pr.turns.length := by have := of_decide_eq_false hc; omega
    repeat (first | refine TL.move rfl rfl rfl ?_ | refine TL.assign rfl rfl rfl ?_ | refine TL.nilCheck rfl rfl rfl ?_ | refine TL.fieldAddr rfl rfl rfl ?_ | refine TL.convI rfl rfl rfl ?_ | refine TL.cmpI rfl rfl rfl rfl rfl ?_ | refine TL.arith rfl rfl rfl rfl rfl ?_ | refine TL.lenS rfl rfl rfl ?_ | refine TL.lenStr rfl rfl rfl ?_ | refine TL.not rfl rfl rfl ?_ | refine TL.skipG rfl rfl ?_ | refine TL.pickT rfl rfl rfl rfl ?_ | refine TL.pickF rfl rfl rfl rfl ?_ | refine TL.extract rfl rfl rfl rfl ?_ | refine TL.maxI rfl rfl rfl rfl ?_ | refine TL.minI rfl rfl rfl rfl ?_ | refine TL.nilCheckF rfl rfl rfl ?_ | refine TL.nil ?_ | refine T.seqK fun K hK => ?_ | (refine T.regionO fun ops => ?_) | refine T.condT rfl ?_ | refine T.condF rfl ?_ | refine T.block ?_ | refine T.skip ?_ | refine T.ret ?_ | refine T.exit ?_ | (refine hK _ _ ?_; clear hK K) | clear hK K | clear ops)
    refine TL.loadR rfl rfl rfl hR1 rfl ?_
    repeat (first | refine TL.move rfl rfl rfl ?_ | refine TL.assign rfl rfl rfl ?_ | refine TL.nilCheck rfl rfl rfl ?_ | refine TL.fieldAddr rfl rfl rfl ?_ | refine TL.convI rfl rfl rfl ?_ | refine TL.cmpI rfl rfl rfl rfl rfl ?_ | refine TL.arith rfl rfl rfl rfl rfl ?_ | refine TL.lenS rfl rfl rfl ?_ | refine TL.lenStr rfl rfl rfl ?_ | refine TL.not rfl rfl rfl ?_ | refine TL.skipG rfl rfl ?_ | refine TL.pickT rfl rfl rfl rfl ?_ | refine TL.pickF rfl rfl rfl rfl ?_ | refine TL.extract rfl rfl rfl rfl ?_ | refine TL.maxI rfl rfl rfl rfl ?_ | refine TL.minI rfl rfl rfl rfl ?_ | refine TL.nilCheckF rfl rfl rfl ?_ | refine TL.nil ?_ | refine T.seqK fun K hK => ?_ | (refine T.regionO fun ops => ?_) | refine T.condT rfl ?_ | refine T.condF rfl ?_ | refine T.block ?_ | refine T.skip ?_ | refine T.ret ?_ | refine T.exit ?_ | (refine hK _ _ ?_; clear hK K) | clear hK K | clear ops)
    have h30 : Lsr turnE Any w1 (.slice ta pr.turns.length tc) pr.turns := h3.ext hw1
    refine T.loop (fun m L w' => ∃ (k : Nat) (lv : Value), Less [(1, .pointer (some ⟨b1, 0, none⟩)), (2, nils), (3, .int .i64 0), (4, lv), (18, .slice ta pr.turns.length tc), (19, .int .i64 pr.turns.length), (20, .int .i64 k)] L ∧
        Lst bytesE w1.heap.size w1 w' 23 lv ((pr.turns.take k).map encT) ∧ (pr.turns.take k).any (fun t => decide (t.h < 1 ∨ 64 < t.h)) = false ∧ k + m = pr.turns.length) pr.turns.length
      ⟨0, nils, (by repeat (first | exact Less.nil _ | refine Less.cons rfl ?_)), Lst.nil _ _ _ (Below.refl _ _) (Nat.le_refl _) _, rfl, by omega⟩ ?_
    rintro m L w2 ⟨k, lv, hL, hl, hany, hkm⟩
    refine T.sub hL ?_
    have hw12 : Ext w1 w2 := hl.below
    repeat (first | refine TL.move rfl rfl rfl ?_ | refine TL.assign rfl rfl rfl ?_ | refine TL.nilCheck rfl rfl rfl ?_ | refine TL.fieldAddr rfl rfl rfl ?_ | refine TL.convI rfl rfl rfl ?_ | refine TL.cmpI rfl rfl rfl rfl rfl ?_ | refine TL.arith rfl rfl rfl rfl rfl ?_ | refine TL.lenS rfl rfl rfl ?_ | refine TL.lenStr rfl rfl rfl ?_ | refine TL.not rfl rfl rfl ?_ | refine TL.skipG rfl rfl ?_ | refine TL.pickT rfl rfl rfl rfl ?_ | refine TL.pickF rfl rfl rfl rfl ?_ | refine TL.extract rfl rfl rfl rfl ?_ | refine TL.maxI rfl rfl rfl rfl ?_ | refine TL.minI rfl rfl rfl rfl ?_ | refine TL.nilCheckF rfl rfl rfl ?_ | refine TL.nil ?_ | refine T.seqK fun K hK => ?_ | (refine T.regionO fun ops => ?_) | refine T.condT rfl ?_ | refine T.condF rfl ?_ | refine T.block ?_ | refine T.skip ?_ | refine T.ret ?_ | refine T.exit ?_ | (refine hK _ _ ?_; clear hK K) | clear hK K | clear ops)
    refine T.cond rfl (fun hd => ?_) (fun hd => ?_)
    · have hk' : k < pr.turns.length := by simp at hd; omega
      obtain ⟨t, htk⟩ : ∃ t, pr.turns[k]? = some t := ⟨_, List.getElem?_eq_getElem hk'⟩
      have hmem : t ∈ pr.turns := List.mem_of_getElem? htk
      obtain ⟨hth, hts⟩ := ht t hmem
      have htake : pr.turns.take (k + 1) = pr.turns.take k ++ [t] := by
        obtain ⟨g1, g2⟩ := List.getElem?_eq_some_iff.1 htk
        rw [List.take_succ_eq_append_getElem g1, g2]
      repeat (first | refine TL.move rfl rfl rfl ?_ | refine TL.assign rfl rfl rfl ?_ | refine TL.nilCheck rfl rfl rfl ?_ | refine TL.fieldAddr rfl rfl rfl ?_ | refine TL.convI rfl rfl rfl ?_ | refine TL.cmpI rfl rfl rfl rfl rfl ?_ | refine TL.arith rfl rfl rfl rfl rfl ?_ | refine TL.lenS rfl rfl rfl ?_ | refine TL.lenStr rfl rfl rfl ?_ | refine TL.not rfl rfl rfl ?_ | refine TL.skipG rfl rfl ?_ | refine TL.pickT rfl rfl rfl rfl ?_ | refine TL.pickF rfl rfl rfl rfl ?_ | refine TL.extract rfl rfl rfl rfl ?_ | refine TL.maxI rfl rfl rfl rfl ?_ | refine TL.minI rfl rfl rfl rfl ?_ | refine TL.nilCheckF rfl rfl rfl ?_ | refine TL.nil ?_ | refine T.seqK fun K hK => ?_ | (refine T.regionO fun ops => ?_) | refine T.condT rfl ?_ | refine T.condF rfl ?_ | refine T.block ?_ | refine T.skip ?_ | refine T.ret ?_ | refine T.exit ?_ | (refine hK _ _ ?_; clear hK K) | clear hK K | clear ops)
      refine TL.elemE (E := turnE) rfl rfl (fun _ => rfl) rfl rfl rfl rfl (h30.ext hw12) rfl htk rfl fun pp us hus => ?_
      obtain ⟨rfl, hol⟩ := hus
      have htl : (tnc t).length = 35 := by simp [tnc, hol]
      refine TL.alloc rfl rfl fun b6 w3 hal => ?_
      have hz : Row w3 b6 (tnc ⟨0, 0, false, z32⟩) 116 (0, 0) := hal.at_
      refine TL.storeRA (A := []) (C := []) (old := tnc ⟨0, 0, false, z32⟩) (xs := tnc t) rfl rfl rfl (by simpa using hz) rfl (by simp [Value.cells]) (by rw [htl]; rfl) htl (turnE.one (F := Any) (w := w3) (a := t) ⟨rfl, hol⟩) fun w4 hg4 h6 hs4 => ?_
      simp only [List.nil_append, List.append_nil] at h6
      have hw24 : Ext w2 w4 := Below.trans hal.below (below_grown hg4 (by rw [hal.num]; exact Nat.le_refl _) hal.below.size)
      clear hal hz hg4 hs4
      repeat (first | refine TL.move rfl rfl rfl ?_ | refine TL.assign rfl rfl rfl ?_ | refine TL.nilCheck rfl rfl rfl ?_ | refine TL.fieldAddr rfl rfl rfl ?_ | refine TL.convI rfl rfl rfl ?_ | refine TL.cmpI rfl rfl rfl rfl rfl ?_ | refine TL.arith rfl rfl rfl rfl rfl ?_ | refine TL.lenS rfl rfl rfl ?_ | refine TL.lenStr rfl rfl rfl ?_ | refine TL.not rfl rfl rfl ?_ | refine TL.skipG rfl rfl ?_ | refine TL.pickT rfl rfl rfl rfl ?_ | refine TL.pickF rfl rfl rfl rfl ?_ | refine TL.extract rfl rfl rfl rfl ?_ | refine TL.maxI rfl rfl rfl rfl ?_ | refine TL.minI rfl rfl rfl rfl ?_ | refine TL.nilCheckF rfl rfl rfl ?_ | refine TL.nil ?_ | refine T.seqK fun K hK => ?_ | refine T.region ?_ | refine T.condT rfl ?_ | refine T.condF rfl ?_ | refine T.block ?_ | refine T.skip ?_ | refine T.ret ?_ | refine T.exit ?_ | (refine hK _ _ ?_; clear hK K) | clear hK K)
      refine TL.loadR (v := .int .i64 t.h) rfl rfl rfl h6 rfl ?_
      have herr : ∀ (w' : World), Ext w w' → (t.h < 1 ∨ 64 < t.h) → encP pr = ([], 12) := fun w' _ hh => by
        have : pr.turns.any (fun t => decide (t.h < 1 ∨ 64 < t.h)) = true := List.any_eq_true.2 ⟨t, hmem, by simpa using hh⟩
        simp only [encP, if_neg hc', this, if_true]
      have hw4 : Ext w w4 := hw1.trans (hw12.trans hw24)
      by_cases ha : t.h < 1
      · refine TL.cmpI (c := true) rfl rfl rfl rfl (by simp only [Fw.cmpI]; congr 1; simp; omega) ?_
        repeat (first | refine TL.move rfl rfl rfl ?_ | refine TL.assign rfl rfl rfl ?_ | refine TL.nilCheck rfl rfl rfl ?_ | refine TL.fieldAddr rfl rfl rfl ?_ | refine TL.convI rfl rfl rfl ?_ | refine TL.cmpI rfl rfl rfl rfl rfl ?_ | refine TL.arith rfl rfl rfl rfl rfl ?_ | refine TL.lenS rfl rfl rfl ?_ | refine TL.lenStr rfl rfl rfl ?_ | refine TL.not rfl rfl rfl ?_ | refine TL.skipG rfl rfl ?_ | refine TL.pickT rfl rfl rfl rfl ?_ | refine TL.pickF rfl rfl rfl rfl ?_ | refine TL.extract rfl rfl rfl rfl ?_ | refine TL.maxI rfl rfl rfl rfl ?_ | refine TL.minI rfl rfl rfl rfl ?_ | refine TL.nilCheckF rfl rfl rfl ?_ | refine TL.nil ?_ | refine T.seqK fun K hK => ?_ | refine T.region ?_ | refine T.condT rfl ?_ | refine T.condF rfl ?_ | refine T.block ?_ | refine T.skip ?_ | refine T.ret ?_ | refine T.exit ?_ | (refine hK _ _ ?_; clear hK K) | clear hK K)
        have e := herr w4 hw4 (.inl ha)
        exact ⟨_, rfl, hw4, _, by rw [e], by rw [e]; exact By.nil0 _⟩
      · refine TL.cmpI (c := false) rfl rfl rfl rfl (by simp only [Fw.cmpI]; congr 1; simp; omega) ?_
        repeat (first | refine TL.move rfl rfl rfl ?_ | refine TL.assign rfl rfl rfl ?_ | refine TL.nilCheck rfl rfl rfl ?_ | refine TL.fieldAddr rfl rfl rfl ?_ | refine TL.convI rfl rfl rfl ?_ | refine TL.cmpI rfl rfl rfl rfl rfl ?_ | refine TL.arith rfl rfl rfl rfl rfl ?_ | refine TL.lenS rfl rfl rfl ?_ | refine TL.lenStr rfl rfl rfl ?_ | refine TL.not rfl rfl rfl ?_ | refine TL.skipG rfl rfl ?_ | refine TL.pickT rfl rfl rfl rfl ?_ | refine TL.pickF rfl rfl rfl rfl ?_ | refine TL.extract rfl rfl rfl rfl ?_ | refine TL.maxI rfl rfl rfl rfl ?_ | refine TL.minI rfl rfl rfl rfl ?_ | refine TL.nilCheckF rfl rfl rfl ?_ | refine TL.nil ?_ | refine T.seqK fun K hK => ?_ | refine T.region ?_ | refine T.condT rfl ?_ | refine T.condF rfl ?_ | refine T.block ?_ | refine T.skip ?_ | refine T.ret ?_ | refine T.exit ?_ | (refine hK _ _ ?_; clear hK K) | clear hK K)
        refine TL.loadR (v := .int .i64 t.h) rfl rfl rfl h6 rfl ?_
        by_cases hb : 64 < t.h
        · refine TL.cmpI (c := true) rfl rfl rfl rfl (by simp only [Fw.cmpI]; congr 1; simp; omega) ?_
          repeat (first | refine TL.move rfl rfl rfl ?_ | refine TL.assign rfl rfl rfl ?_ | refine TL.nilCheck rfl rfl rfl ?_ | refine TL.fieldAddr rfl rfl rfl ?_ | refine TL.convI rfl rfl rfl ?_ | refine TL.cmpI rfl rfl rfl rfl rfl ?_ | refine TL.arith rfl rfl rfl rfl rfl ?_ | refine TL.lenS rfl rfl rfl ?_ | refine TL.lenStr rfl rfl rfl ?_ | refine TL.not rfl rfl rfl ?_ | refine TL.skipG rfl rfl ?_ | refine TL.pickT rfl rfl rfl rfl ?_ | refine TL.pickF rfl rfl rfl rfl ?_ | refine TL.extract rfl rfl rfl rfl ?_ | refine TL.maxI rfl rfl rfl rfl ?_ | refine TL.minI rfl rfl rfl rfl ?_ | refine TL.nilCheckF rfl rfl rfl ?_ | refine TL.nil ?_ | refine T.seqK fun K hK => ?_ | refine T.region ?_ | refine T.condT rfl ?_ | refine T.condF rfl ?_ | refine T.block ?_ | refine T.skip ?_ | refine T.ret ?_ | refine T.exit ?_ | (refine hK _ _ ?_; clear hK K) | clear hK K)
          have e := herr w4 hw4 (.inr hb)
          exact ⟨_, rfl, hw4, _, by rw [e], by rw [e]; exact By.nil0 _⟩
        · refine TL.cmpI (c := false) rfl rfl rfl rfl (cmpI_gtF (by omega)) ?_
          repeat (first | refine TL.move rfl rfl rfl ?_ | refine TL.assign rfl rfl rfl ?_ | refine TL.nilCheck rfl rfl rfl ?_ | refine TL.fieldAddr rfl rfl rfl ?_ | refine TL.convI rfl rfl rfl ?_ | refine TL.cmpI rfl rfl rfl rfl rfl ?_ | refine TL.arith rfl rfl rfl rfl rfl ?_ | refine TL.lenS rfl rfl rfl ?_ | refine TL.lenStr rfl rfl rfl ?_ | refine TL.not rfl rfl rfl ?_ | refine TL.skipG rfl rfl ?_ | refine TL.pickT rfl rfl rfl rfl ?_ | refine TL.pickF rfl rfl rfl rfl ?_ | refine TL.extract rfl rfl rfl rfl ?_ | refine TL.maxI rfl rfl rfl rfl ?_ | refine TL.minI rfl rfl rfl rfl ?_ | refine TL.nilCheckF rfl rfl rfl ?_ | refine TL.nil ?_ | refine T.seqK fun K hK => ?_ | refine T.region ?_ | refine T.condT rfl ?_ | refine T.condF rfl ?_ | refine T.block ?_ | refine T.skip ?_ | refine T.ret ?_ | refine T.exit ?_ | (refine hK _ _ ?_; clear hK K) | clear hK K)
          refine TL.loadR (v := .int .i64 t.h) rfl rfl rfl h6 rfl ?_
          refine TL.convI rfl rfl rfl ?_
          refine TL.norm (v' := .int .u64 ((t.h : Nat) : Int)) (by rw [wr_u64 (by omega) (by omega)]) ?_
          refine TL.call rfl rfl rfl (Num_ret t.h w4) ?_
          rintro n1 w5 hn1
          refine TL.call rfl rfl rfl (Put_ok 1 nils n1 [] (numB t.h) w5 (By.nil0 _) hn1.by_ (by simp) (by have := numB_len t.h; omega)) ?_
          rintro _ w6 ⟨p1, rfl, hp1⟩
          have e46 : Ext w4 w6 := Ext.trans hn1.below hp1.below
          repeat (first | refine TL.move rfl rfl rfl ?_ | refine TL.assign rfl rfl rfl ?_ | refine TL.nilCheck rfl rfl rfl ?_ | refine TL.fieldAddr rfl rfl rfl ?_ | refine TL.convI rfl rfl rfl ?_ | refine TL.cmpI rfl rfl rfl rfl rfl ?_ | refine TL.arith rfl rfl rfl rfl rfl ?_ | refine TL.lenS rfl rfl rfl ?_ | refine TL.lenStr rfl rfl rfl ?_ | refine TL.not rfl rfl rfl ?_ | refine TL.skipG rfl rfl ?_ | refine TL.pickT rfl rfl rfl rfl ?_ | refine TL.pickF rfl rfl rfl rfl ?_ | refine TL.extract rfl rfl rfl rfl ?_ | refine TL.maxI rfl rfl rfl rfl ?_ | refine TL.minI rfl rfl rfl rfl ?_ | refine TL.nilCheckF rfl rfl rfl ?_ | refine TL.nil ?_ | refine T.seqK fun K hK => ?_ | refine T.region ?_ | refine T.condT rfl ?_ | refine T.condF rfl ?_ | refine T.block ?_ | refine T.skip ?_ | refine T.ret ?_ | refine T.exit ?_ | (refine hK _ _ ?_; clear hK K) | clear hK K)
          refine TL.loadR (v := .int .u64 t.s) rfl rfl rfl (h6.keepA e46) rfl ?_
          refine TL.call rfl rfl rfl (Num_ret t.s w6) ?_
          rintro n2 w7 hn2
          have hl1 := putB_len [] 1 (numB t.h)
          have hl2 := putB_len (putB [] 1 (numB t.h)) 2 (numB t.s)
          have hl4 := numB_len t.h
          have hl5 := numB_len t.s
          simp only [List.length_nil] at hl1
          refine TL.call rfl rfl rfl (Put_ok 2 p1 n2 (putB [] 1 (numB t.h)) (numB t.s) w7 (By.ext hp1.by_ hn2.below) hn2.by_ (by omega) (by omega)) ?_
          rintro _ w8 ⟨p2, rfl, hp2⟩
          have e48 : Ext w4 w8 := e46.trans (Ext.trans hn2.below hp2.below)
          have h68 := h6.keepA e48
          repeat (first | refine TL.move rfl rfl rfl ?_ | refine TL.assign rfl rfl rfl ?_ | refine TL.nilCheck rfl rfl rfl ?_ | refine TL.fieldAddr rfl rfl rfl ?_ | refine TL.convI rfl rfl rfl ?_ | refine TL.cmpI rfl rfl rfl rfl rfl ?_ | refine TL.arith rfl rfl rfl rfl rfl ?_ | refine TL.lenS rfl rfl rfl ?_ | refine TL.lenStr rfl rfl rfl ?_ | refine TL.not rfl rfl rfl ?_ | refine TL.skipG rfl rfl ?_ | refine TL.pickT rfl rfl rfl rfl ?_ | refine TL.pickF rfl rfl rfl rfl ?_ | refine TL.extract rfl rfl rfl rfl ?_ | refine TL.maxI rfl rfl rfl rfl ?_ | refine TL.minI rfl rfl rfl rfl ?_ | refine TL.nilCheckF rfl rfl rfl ?_ | refine TL.nil ?_ | refine T.seqK fun K hK => ?_ | refine T.region ?_ | refine T.condT rfl ?_ | refine T.condF rfl ?_ | refine T.block ?_ | refine T.skip ?_ | refine T.ret ?_ | refine T.exit ?_ | (refine hK _ _ ?_; clear hK K) | clear hK K)
          refine TL.loadR (v := .bool t.right) rfl rfl rfl h68 rfl ?_
          repeat (first | refine TL.move rfl rfl rfl ?_ | refine TL.assign rfl rfl rfl ?_ | refine TL.nilCheck rfl rfl rfl ?_ | refine TL.fieldAddr rfl rfl rfl ?_ | refine TL.convI rfl rfl rfl ?_ | refine TL.cmpI rfl rfl rfl rfl rfl ?_ | refine TL.arith rfl rfl rfl rfl rfl ?_ | refine TL.lenS rfl rfl rfl ?_ | refine TL.lenStr rfl rfl rfl ?_ | refine TL.not rfl rfl rfl ?_ | refine TL.skipG rfl rfl ?_ | refine TL.pickT rfl rfl rfl rfl ?_ | refine TL.pickF rfl rfl rfl rfl ?_ | refine TL.extract rfl rfl rfl rfl ?_ | refine TL.maxI rfl rfl rfl rfl ?_ | refine TL.minI rfl rfl rfl rfl ?_ | refine TL.nilCheckF rfl rfl rfl ?_ | refine TL.nil ?_ | refine T.seqK fun K hK => ?_ | refine T.region ?_ | refine T.condT rfl ?_ | refine T.condF rfl ?_ | refine T.block ?_ | refine T.skip ?_ | refine T.ret ?_ | refine T.exit ?_ | (refine hK _ _ ?_; clear hK K) | clear hK K)
          have hrest : ∀ (bv : Value) (bl : List UInt8) (w9 : World) (L' : Sl), Less [(1, .pointer (some ⟨b1, 0, none⟩)), (2, nils), (3, .int .i64 0), (4, lv), (6, .pointer (some ⟨b6, 0, none⟩)), (7, bv), (18, .slice ta pr.turns.length tc), (19, .int .i64 pr.turns.length), (20, .int .i64 k)] L' → Ext w8 w9 → B0 w9 bv bl → bl.length ≤ 1000 → putB bl 4 t.other = encT t → K L' w9 := by
            intro bv bl w9 L' hL' e89 hbv hbl hfin
            refine hK _ _ (T.sub hL' ?_)
            clear hK K
            have e49 := e48.trans e89
            have h69 := h6.keepA e49
            have hob : B0 w9 (.slice (some ⟨b6, 3, none⟩) 32 32) t.other := by
              have h69' : Row w9 b6 ([.int .i64 t.h, .int .u64 t.s, .bool t.right] ++ t.other.map vb ++ []) 116 (0, 0) := by simpa [tnc] using h69
              have := Row.by_ h69' (by rw [hol]; simp [maxLen])
              rw [hol] at this; exact this
            repeat (first | refine TL.move rfl rfl rfl ?_ | refine TL.assign rfl rfl rfl ?_ | refine TL.nilCheck rfl rfl rfl ?_ | refine TL.fieldAddr rfl rfl rfl ?_ | refine TL.convI rfl rfl rfl ?_ | refine TL.cmpI rfl rfl rfl rfl rfl ?_ | refine TL.arith rfl rfl rfl rfl rfl ?_ | refine TL.lenS rfl rfl rfl ?_ | refine TL.lenStr rfl rfl rfl ?_ | refine TL.not rfl rfl rfl ?_ | refine TL.skipG rfl rfl ?_ | refine TL.pickT rfl rfl rfl rfl ?_ | refine TL.pickF rfl rfl rfl rfl ?_ | refine TL.extract rfl rfl rfl rfl ?_ | refine TL.maxI rfl rfl rfl rfl ?_ | refine TL.minI rfl rfl rfl rfl ?_ | refine TL.nilCheckF rfl rfl rfl ?_ | refine TL.nil ?_ | refine T.seqK fun K hK => ?_ | refine T.region ?_ | refine T.condT rfl ?_ | refine T.condF rfl ?_ | refine T.block ?_ | refine T.skip ?_ | refine T.ret ?_ | refine T.exit ?_ | (refine hK _ _ ?_; clear hK K) | clear hK K)
            refine TL.ev rfl rfl (Ev.sliceArr rfl) ?_
            refine TL.call rfl rfl rfl (Put_ok 4 bv _ bl t.other w9 hbv hob (by omega) (by omega)) ?_
            rintro _ w10 ⟨p4, rfl, hp4⟩
            rw [hfin] at hp4
            obtain ⟨p4a, p4c, rfl⟩ := hp4.shape
            repeat (first | refine TL.move rfl rfl rfl ?_ | refine TL.assign rfl rfl rfl ?_ | refine TL.nilCheck rfl rfl rfl ?_ | refine TL.fieldAddr rfl rfl rfl ?_ | refine TL.convI rfl rfl rfl ?_ | refine TL.cmpI rfl rfl rfl rfl rfl ?_ | refine TL.arith rfl rfl rfl rfl rfl ?_ | refine TL.lenS rfl rfl rfl ?_ | refine TL.lenStr rfl rfl rfl ?_ | refine TL.not rfl rfl rfl ?_ | refine TL.skipG rfl rfl ?_ | refine TL.pickT rfl rfl rfl rfl ?_ | refine TL.pickF rfl rfl rfl rfl ?_ | refine TL.extract rfl rfl rfl rfl ?_ | refine TL.maxI rfl rfl rfl rfl ?_ | refine TL.minI rfl rfl rfl rfl ?_ | refine TL.nilCheckF rfl rfl rfl ?_ | refine TL.nil ?_ | refine T.seqK fun K hK => ?_ | refine T.region ?_ | refine T.condT rfl ?_ | refine T.condF rfl ?_ | refine T.block ?_ | refine T.skip ?_ | refine T.ret ?_ | refine T.exit ?_ | (refine hK _ _ ?_; clear hK K) | clear hK K)
            refine TL.buildSlice rfl rfl rfl rfl rfl (by simp [Value.oneCell']) rfl fun b65 w11 hal => ?_
            have hr65 : Rd (· = b65) w11 1 (.slice (some ⟨b65, 0, none⟩) 1 1) 1 _ := hal.rd rfl (by simp [maxLen])
            have e24 : Ext w2 w9 := hw24.trans e49
            have e211 : Ext w2 w11 := e24.trans (Ext.trans hp4.below hal.below)
            have hl11 := hl.keep e211
            have hel : bytesE.rel (fun k => w9.heap.size ≤ k ∧ k < w11.heap.size) w11 [.slice p4a (encT t).length p4c] (encT t) :=
              ⟨_, rfl, By.ltSize (By.ext hp4.by_ hal.below)⟩
            refine TL.pushE (E := bytesE) rfl rfl rfl rfl rfl hl11 hr65 hel (fun j hj hh => ?_) rfl (by simp; omega) (by simp [maxLen]; omega) fun v' w12 hl12 hg12 hv12 => ?_
            · have h1 := (hl.blk j hh).2
              have h2 := e24.size
              omega
            · repeat (first | refine TL.move rfl rfl rfl ?_ | refine TL.assign rfl rfl rfl ?_ | refine TL.nilCheck rfl rfl rfl ?_ | refine TL.fieldAddr rfl rfl rfl ?_ | refine TL.convI rfl rfl rfl ?_ | refine TL.cmpI rfl rfl rfl rfl rfl ?_ | refine TL.arith rfl rfl rfl rfl rfl ?_ | refine TL.lenS rfl rfl rfl ?_ | refine TL.lenStr rfl rfl rfl ?_ | refine TL.not rfl rfl rfl ?_ | refine TL.skipG rfl rfl ?_ | refine TL.pickT rfl rfl rfl rfl ?_ | refine TL.pickF rfl rfl rfl rfl ?_ | refine TL.extract rfl rfl rfl rfl ?_ | refine TL.maxI rfl rfl rfl rfl ?_ | refine TL.minI rfl rfl rfl rfl ?_ | refine TL.nilCheckF rfl rfl rfl ?_ | refine TL.nil ?_ | refine T.seqK fun K hK => ?_ | (refine T.regionO fun ops => ?_) | refine T.condT rfl ?_ | refine T.condF rfl ?_ | refine T.block ?_ | refine T.skip ?_ | refine T.ret ?_ | refine T.exit ?_ | (refine hK _ _ ?_; clear hK K) | clear hK K | clear ops)
              refine ⟨m - 1, by omega, k + 1, v', ?_, ?_, ?_, by omega⟩
              · repeat (first | exact Less.nil _ | refine Less.cons rfl ?_)
                refine Less.cons' rfl (by rw [wr_succ (by omega)]) ?_
                repeat (first | exact Less.nil _ | refine Less.cons rfl ?_)
              · rw [htake, List.map_append]; exact hl12
              · rw [htake, List.any_append, hany]; simp; omega
          clear hK
          have b8 : B0 w8 p2 (putB (putB [] 1 (numB t.h)) 2 (numB t.s)) := By.any hp2.by_
          refine T.cond rfl (fun hr => ?_) (fun hr => ?_)
          · repeat (first | refine TL.move rfl rfl rfl ?_ | refine TL.assign rfl rfl rfl ?_ | refine TL.nilCheck rfl rfl rfl ?_ | refine TL.fieldAddr rfl rfl rfl ?_ | refine TL.convI rfl rfl rfl ?_ | refine TL.cmpI rfl rfl rfl rfl rfl ?_ | refine TL.arith rfl rfl rfl rfl rfl ?_ | refine TL.lenS rfl rfl rfl ?_ | refine TL.lenStr rfl rfl rfl ?_ | refine TL.not rfl rfl rfl ?_ | refine TL.skipG rfl rfl ?_ | refine TL.pickT rfl rfl rfl rfl ?_ | refine TL.pickF rfl rfl rfl rfl ?_ | refine TL.extract rfl rfl rfl rfl ?_ | refine TL.maxI rfl rfl rfl rfl ?_ | refine TL.minI rfl rfl rfl rfl ?_ | refine TL.nilCheckF rfl rfl rfl ?_ | refine TL.nil ?_ | refine T.seqK fun K hK => ?_ | refine T.region ?_ | refine T.condT rfl ?_ | refine T.condF rfl ?_ | refine T.block ?_ | refine T.skip ?_ | refine T.ret ?_ | refine T.exit ?_ | (refine hK _ _ ?_; clear hK K) | clear hK K)
            refine TL.buildSlice rfl rfl rfl rfl rfl (by simp [Value.oneCell']) rfl fun b52 w9 hal => ?_
            have hb52 : B0 w9 (.slice (some ⟨b52, 0, none⟩) 1 1) [1] := By.any (hal.rd (vs := [vb 1]) rfl (by simp [maxLen]))
            have hl3 := putB_len (putB (putB [] 1 (numB t.h)) 2 (numB t.s)) 3 [1]
            simp only [List.length_cons, List.length_nil] at hl3
            refine TL.call rfl rfl rfl (Put_ok 3 p2 _ _ [1] w9 (By.ext b8 hal.below) hb52 (by omega) (by simp)) ?_
            rintro _ w10 ⟨p3, rfl, hp3⟩
            repeat (first | refine TL.move rfl rfl rfl ?_ | refine TL.assign rfl rfl rfl ?_ | refine TL.nilCheck rfl rfl rfl ?_ | refine TL.fieldAddr rfl rfl rfl ?_ | refine TL.convI rfl rfl rfl ?_ | refine TL.cmpI rfl rfl rfl rfl rfl ?_ | refine TL.arith rfl rfl rfl rfl rfl ?_ | refine TL.lenS rfl rfl rfl ?_ | refine TL.lenStr rfl rfl rfl ?_ | refine TL.not rfl rfl rfl ?_ | refine TL.skipG rfl rfl ?_ | refine TL.pickT rfl rfl rfl rfl ?_ | refine TL.pickF rfl rfl rfl rfl ?_ | refine TL.extract rfl rfl rfl rfl ?_ | refine TL.maxI rfl rfl rfl rfl ?_ | refine TL.minI rfl rfl rfl rfl ?_ | refine TL.nilCheckF rfl rfl rfl ?_ | refine TL.nil ?_ | refine T.seqK fun K hK => ?_ | refine T.region ?_ | refine T.condT rfl ?_ | refine T.condF rfl ?_ | refine T.block ?_ | refine T.skip ?_ | refine T.ret ?_ | refine T.exit ?_ | (refine hK _ _ ?_; clear hK K) | clear hK K)
            refine hrest p3 _ w10 _ (by repeat (first | exact Less.nil _ | refine Less.cons rfl ?_)) (Ext.trans hal.below hp3.below) (By.any hp3.by_) (by omega) ?_
            simp only [encT, hr, if_true]
          · repeat (first | refine TL.move rfl rfl rfl ?_ | refine TL.assign rfl rfl rfl ?_ | refine TL.nilCheck rfl rfl rfl ?_ | refine TL.fieldAddr rfl rfl rfl ?_ | refine TL.convI rfl rfl rfl ?_ | refine TL.cmpI rfl rfl rfl rfl rfl ?_ | refine TL.arith rfl rfl rfl rfl rfl ?_ | refine TL.lenS rfl rfl rfl ?_ | refine TL.lenStr rfl rfl rfl ?_ | refine TL.not rfl rfl rfl ?_ | refine TL.skipG rfl rfl ?_ | refine TL.pickT rfl rfl rfl rfl ?_ | refine TL.pickF rfl rfl rfl rfl ?_ | refine TL.extract rfl rfl rfl rfl ?_ | refine TL.maxI rfl rfl rfl rfl ?_ | refine TL.minI rfl rfl rfl rfl ?_ | refine TL.nilCheckF rfl rfl rfl ?_ | refine TL.nil ?_ | refine T.seqK fun K hK => ?_ | refine T.region ?_ | refine T.condT rfl ?_ | refine T.condF rfl ?_ | refine T.block ?_ | refine T.skip ?_ | refine T.ret ?_ | refine T.exit ?_ | (refine hK _ _ ?_; clear hK K) | clear hK K)
            refine hrest p2 _ w8 _ (by repeat (first | exact Less.nil _ | refine Less.cons rfl ?_)) (Ext.refl _) b8 (by omega) ?_
            simp [encT, hr]
    · have hk' : k = pr.turns.length := by simp at hd; omega
      subst hk'
      rw [List.take_length] at hl hany
      have hlb := hl.lsr.bb
      have hll : (pr.turns.map encT).length ≤ 64 := by simp; omega
      have hpk : (packB (pr.turns.map encT)).length ≤ 65535 := by
        have : ∀ ts : List Tn, (∀ t ∈ ts, t.other.length = 32) → (packB (ts.map encT)).length ≤ ts.length * 67 := by
          intro ts hts
          induction ts with
          | nil => simp [packB]
          | cons t ts ih =>
            have h1 := encT_len t (hts t (by simp))
            have h2 := ih fun t ht => hts t (by simp [ht])
            simp only [List.map_cons, packB, List.length_cons, List.length_append]; omega
        have := this pr.turns (Lsr.others h3)
        omega
      repeat (first | refine TL.move rfl rfl rfl ?_ | refine TL.assign rfl rfl rfl ?_ | refine TL.nilCheck rfl rfl rfl ?_ | refine TL.fieldAddr rfl rfl rfl ?_ | refine TL.convI rfl rfl rfl ?_ | refine TL.cmpI rfl rfl rfl rfl rfl ?_ | refine TL.arith rfl rfl rfl rfl rfl ?_ | refine TL.lenS rfl rfl rfl ?_ | refine TL.lenStr rfl rfl rfl ?_ | refine TL.not rfl rfl rfl ?_ | refine TL.skipG rfl rfl ?_ | refine TL.pickT rfl rfl rfl rfl ?_ | refine TL.pickF rfl rfl rfl rfl ?_ | refine TL.extract rfl rfl rfl rfl ?_ | refine TL.maxI rfl rfl rfl rfl ?_ | refine TL.minI rfl rfl rfl rfl ?_ | refine TL.nilCheckF rfl rfl rfl ?_ | refine TL.nil ?_ | refine T.seqK fun K hK => ?_ | (refine T.regionO fun ops => ?_) | refine T.condT rfl ?_ | refine T.condF rfl ?_ | refine T.block ?_ | refine T.skip ?_ | refine T.ret ?_ | refine T.exit ?_ | (refine hK _ _ ?_; clear hK K) | clear hK K | clear ops)
      refine TL.call rfl rfl rfl (Pack_ret _ _ w2 hlb (by omega) (by omega)) ?_
      rintro r w3 hr
      rw [if_pos (by
        intro x hx
        obtain ⟨t, ht', rfl⟩ := List.mem_map.1 hx
        have := encT_len t (Lsr.others h3 t ht'); omega)] at hr
      obtain ⟨pv, rfl, hpv⟩ := hr
      have e13 : Ext w1 w3 := hw12.trans hpv.below
      repeat (first | refine TL.move rfl rfl rfl ?_ | refine TL.assign rfl rfl rfl ?_ | refine TL.nilCheck rfl rfl rfl ?_ | refine TL.fieldAddr rfl rfl rfl ?_ | refine TL.convI rfl rfl rfl ?_ | refine TL.cmpI rfl rfl rfl rfl rfl ?_ | refine TL.arith rfl rfl rfl rfl rfl ?_ | refine TL.lenS rfl rfl rfl ?_ | refine TL.lenStr rfl rfl rfl ?_ | refine TL.not rfl rfl rfl ?_ | refine TL.skipG rfl rfl ?_ | refine TL.pickT rfl rfl rfl rfl ?_ | refine TL.pickF rfl rfl rfl rfl ?_ | refine TL.extract rfl rfl rfl rfl ?_ | refine TL.maxI rfl rfl rfl rfl ?_ | refine TL.minI rfl rfl rfl rfl ?_ | refine TL.nilCheckF rfl rfl rfl ?_ | refine TL.nil ?_ | refine T.seqK fun K hK => ?_ | (refine T.regionO fun ops => ?_) | refine T.condT rfl ?_ | refine T.condF rfl ?_ | refine T.block ?_ | refine T.skip ?_ | refine T.ret ?_ | refine T.exit ?_ | (refine hK _ _ ?_; clear hK K) | clear hK K | clear ops)
      refine TL.loadR rfl rfl rfl (hR1.keepA e13) rfl ?_
      refine TL.call rfl rfl rfl (Put_ok 1 nils kv [] pr.key w3 (By.nil0 _) (By.ext h1 (hw1.trans e13)) (by simp) (by omega)) ?_
      rintro _ w4 ⟨p1, rfl, hp1⟩
      have e14 : Ext w1 w4 := e13.trans hp1.below
      have hl1 := putB_len [] 1 pr.key
      have hl2 := putB_len (putB [] 1 pr.key) 2 pr.val
      simp only [List.length_nil] at hl1
      repeat (first | refine TL.move rfl rfl rfl ?_ | refine TL.assign rfl rfl rfl ?_ | refine TL.nilCheck rfl rfl rfl ?_ | refine TL.fieldAddr rfl rfl rfl ?_ | refine TL.convI rfl rfl rfl ?_ | refine TL.cmpI rfl rfl rfl rfl rfl ?_ | refine TL.arith rfl rfl rfl rfl rfl ?_ | refine TL.lenS rfl rfl rfl ?_ | refine TL.lenStr rfl rfl rfl ?_ | refine TL.not rfl rfl rfl ?_ | refine TL.skipG rfl rfl ?_ | refine TL.pickT rfl rfl rfl rfl ?_ | refine TL.pickF rfl rfl rfl rfl ?_ | refine TL.extract rfl rfl rfl rfl ?_ | refine TL.maxI rfl rfl rfl rfl ?_ | refine TL.minI rfl rfl rfl rfl ?_ | refine TL.nilCheckF rfl rfl rfl ?_ | refine TL.nil ?_ | refine T.seqK fun K hK => ?_ | (refine T.regionO fun ops => ?_) | refine T.condT rfl ?_ | refine T.condF rfl ?_ | refine T.block ?_ | refine T.skip ?_ | refine T.ret ?_ | refine T.exit ?_ | (refine hK _ _ ?_; clear hK K) | clear hK K | clear ops)
      refine TL.loadR rfl rfl rfl (hR1.keepA e14) rfl ?_
      refine TL.call rfl rfl rfl (Put_ok 2 p1 vv _ pr.val w4 hp1.by_ (By.ext h2 (hw1.trans e14)) (by omega) (by omega)) ?_
      rintro _ w5 ⟨p2, rfl, hp2⟩
      repeat (first | refine TL.move rfl rfl rfl ?_ | refine TL.assign rfl rfl rfl ?_ | refine TL.nilCheck rfl rfl rfl ?_ | refine TL.fieldAddr rfl rfl rfl ?_ | refine TL.convI rfl rfl rfl ?_ | refine TL.cmpI rfl rfl rfl rfl rfl ?_ | refine TL.arith rfl rfl rfl rfl rfl ?_ | refine TL.lenS rfl rfl rfl ?_ | refine TL.lenStr rfl rfl rfl ?_ | refine TL.not rfl rfl rfl ?_ | refine TL.skipG rfl rfl ?_ | refine TL.pickT rfl rfl rfl rfl ?_ | refine TL.pickF rfl rfl rfl rfl ?_ | refine TL.extract rfl rfl rfl rfl ?_ | refine TL.maxI rfl rfl rfl rfl ?_ | refine TL.minI rfl rfl rfl rfl ?_ | refine TL.nilCheckF rfl rfl rfl ?_ | refine TL.nil ?_ | refine T.seqK fun K hK => ?_ | (refine T.regionO fun ops => ?_) | refine T.condT rfl ?_ | refine T.condF rfl ?_ | refine T.block ?_ | refine T.skip ?_ | refine T.ret ?_ | refine T.exit ?_ | (refine hK _ _ ?_; clear hK K) | clear hK K | clear ops)
      refine TL.call rfl rfl rfl (Put_ok 3 p2 pv _ _ w5 hp2.by_ (By.ext hpv.by_ (Ext.trans hp1.below hp2.below)) (by omega) hpk) ?_
      rintro _ w6 ⟨p3, rfl, hp3⟩
      repeat (first | refine TL.move rfl rfl rfl ?_ | refine TL.assign rfl rfl rfl ?_ | refine TL.nilCheck rfl rfl rfl ?_ | refine TL.fieldAddr rfl rfl rfl ?_ | refine TL.convI rfl rfl rfl ?_ | refine TL.cmpI rfl rfl rfl rfl rfl ?_ | refine TL.arith rfl rfl rfl rfl rfl ?_ | refine TL.lenS rfl rfl rfl ?_ | refine TL.lenStr rfl rfl rfl ?_ | refine TL.not rfl rfl rfl ?_ | refine TL.skipG rfl rfl ?_ | refine TL.pickT rfl rfl rfl rfl ?_ | refine TL.pickF rfl rfl rfl rfl ?_ | refine TL.extract rfl rfl rfl rfl ?_ | refine TL.maxI rfl rfl rfl rfl ?_ | refine TL.minI rfl rfl rfl rfl ?_ | refine TL.nilCheckF rfl rfl rfl ?_ | refine TL.nil ?_ | refine T.seqK fun K hK => ?_ | (refine T.regionO fun ops => ?_) | refine T.condT rfl ?_ | refine T.condF rfl ?_ | refine T.block ?_ | refine T.skip ?_ | refine T.ret ?_ | refine T.exit ?_ | (refine hK _ _ ?_; clear hK K) | clear hK K | clear ops)
      have e : encP pr = (putB (putB (putB [] 1 pr.key) 2 pr.val) 3 (packB (pr.turns.map encT)), 0) := by
        simp only [encP, if_neg hc']; rw [hany]; simp
      refine ⟨_, rfl, hw1.trans (e14.trans (Ext.trans hp2.below hp3.below)), _, by rw [e], by rw [e]; exact By.any hp3.by_⟩
end Go.Proofs
