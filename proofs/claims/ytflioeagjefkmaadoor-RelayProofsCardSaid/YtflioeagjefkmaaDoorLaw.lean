/- What ferrymanlaw21.RelayProofs comes to: true. Conditions: none but the bounds of what is read. -/
import Derived.Test.YtflioeagjefkmaaDoorMak
import Derived.Test.YtflioeagjefkmaaDoorAwk
set_option linter.all false
namespace Go.Proofs
open Go.Fw Go.RowKit
attribute [local irreducible] TL T TS Ev Ret
set_option maxRecDepth 20000
theorem Lst.one {w w' w0 : World} {b : Nat} {v : Value} {l : List UInt8} {e : TypeId} (hal : Al w w' b (.cells [v].toArray e)) (hv : B0 w v l) (hb : Below w0.heap.size w0 w) : Lst bytesE w0.heap.size w0 w' e (.slice (some ⟨b, 0, none⟩) 1 1) [l] := by
  refine ⟨[[v]], ?_, ?_⟩
  · have h : Fw.Acc w.heap.size w w' e 1 (.slice (some ⟨b, 0, none⟩) 1 1) 1 [v] := hal.acc rfl (by simp [maxLen])
    have := h.since hb (Nat.le_refl _) |>.mono (B' := w0.heap.size) (Nat.le_refl _)
    exact this
  · exact Els.nil.snoc ⟨v, rfl, (By.ext hv.ltSize hal.below).sub fun k hk => ⟨trivial, fun hh => by simp [Value.ownBlock] at hh; have := hk.2; have := hal.num; omega⟩⟩
theorem mem_ok {o : Option Tr} {l : Prs} {n : Nat} (h : Gi o l n) (key : List UInt8) : (makeO key o).2 = decide (findI key l 0 ≥ 0) ∧ (gapO o key).isSome = !(makeO key o).2 := by
  have h1 := make_mem key o (by rw [h.lv]; exact h.rise)
  have h2 := find_mem key l 0
  have h3 := gapF_mem o key (lvO o) gp0
  rw [h.lv] at h1 h3
  have h3 : (gapO o key).isSome = true ↔ ∀ p ∈ l, p.1 ≠ key := by rw [gapO, h.lv]; exact h3
  refine ⟨?_, ?_⟩
  · by_cases hx : ∃ p ∈ l, p.1 = key
    · rw [h1.2 hx]; exact (decide_eq_true (h2.2 hx)).symm
    · have e1 : (makeO key o).2 = false := by cases hh : (makeO key o).2 with | false => rfl | true => exact absurd (h1.1 hh) hx
      rw [e1]; exact (decide_eq_false fun hh => hx (h2.1 hh)).symm
  · by_cases hx : ∃ p ∈ l, p.1 = key
    · rw [h1.2 hx]
      cases hh : (gapO o key).isSome with
      | false => rfl
      | true => obtain ⟨p, hp, he⟩ := hx; exact absurd he (h3.1 hh p hp)
    · have e1 : (makeO key o).2 = false := by cases hh : (makeO key o).2 with | false => rfl | true => exact absurd (h1.1 hh) hx
      rw [e1]
      exact h3.2 fun p hp he => hx ⟨p, hp, he⟩

set_option maxHeartbeats 8000000 in
theorem RelayProofs_ret (v kv wv : Value) (xs : List Ac) (key which : List UInt8) (w : World) (hW : KW w) (hl : Lsr actE Any w v xs) (hk : B0 w kv key) (hwh : B0 w wv which) (hn : xs.length ≤ 9223372036854775807) (hnw : which.length ≤ 9223372036854775807) :
    Ret Tryd.prog 3 #[v, kv, wv] w fun u w' => u = .bool true ∧ Ext w w' := by
  obtain ⟨ka, kc, rfl, _⟩ := hk.shape
  obtain ⟨wa, wc, rfl, _⟩ := hwh.shape
  refine Ret.of_T Tryd.func3 rfl Tryd.ntmps3 Tryd.results3 rfl ?_
  repeat (first | refine TL.move rfl rfl rfl ?_ | refine TL.assign rfl rfl rfl ?_ | refine TL.nilCheck rfl rfl rfl ?_ | refine TL.fieldAddr rfl rfl rfl ?_ | refine TL.convI rfl rfl rfl ?_ | refine TL.cmpI rfl rfl rfl rfl rfl ?_ | refine TL.arith rfl rfl rfl rfl rfl ?_ | refine TL.lenS rfl rfl rfl ?_ | refine TL.lenStr rfl rfl rfl ?_ | refine TL.not rfl rfl rfl ?_ | refine TL.skipG rfl rfl ?_ | refine TL.pickT rfl rfl rfl rfl ?_ | refine TL.pickF rfl rfl rfl rfl ?_ | refine TL.extract rfl rfl rfl rfl ?_ | refine TL.maxI rfl rfl rfl rfl ?_ | refine TL.minI rfl rfl rfl rfl ?_ | refine TL.nilCheckF rfl rfl rfl ?_ | refine TL.nil ?_ | refine T.seqK fun K hK => ?_ | (refine T.regionO fun ops => ?_) | refine T.condT rfl ?_ | refine T.condF rfl ?_ | refine T.block ?_ | refine T.skip ?_ | refine T.ret ?_ | refine T.exit ?_ | (refine hK _ _ ?_; clear hK K) | clear hK K | clear ops)
  refine TL.call rfl rfl rfl (Awake_ret w) ?_
  rintro _ w1 ⟨rfl, hw1⟩
  repeat (first | refine TL.move rfl rfl rfl ?_ | refine TL.assign rfl rfl rfl ?_ | refine TL.nilCheck rfl rfl rfl ?_ | refine TL.fieldAddr rfl rfl rfl ?_ | refine TL.convI rfl rfl rfl ?_ | refine TL.cmpI rfl rfl rfl rfl rfl ?_ | refine TL.arith rfl rfl rfl rfl rfl ?_ | refine TL.lenS rfl rfl rfl ?_ | refine TL.lenStr rfl rfl rfl ?_ | refine TL.not rfl rfl rfl ?_ | refine TL.skipG rfl rfl ?_ | refine TL.pickT rfl rfl rfl rfl ?_ | refine TL.pickF rfl rfl rfl rfl ?_ | refine TL.extract rfl rfl rfl rfl ?_ | refine TL.maxI rfl rfl rfl rfl ?_ | refine TL.minI rfl rfl rfl rfl ?_ | refine TL.nilCheckF rfl rfl rfl ?_ | refine TL.nil ?_ | refine T.seqK fun K hK => ?_ | (refine T.regionO fun ops => ?_) | refine T.condT rfl ?_ | refine T.condF rfl ?_ | refine T.block ?_ | refine T.skip ?_ | refine T.ret ?_ | refine T.exit ?_ | (refine hK _ _ ?_; clear hK K) | clear hK K | clear ops)
  refine T.cond rfl (fun hc => ?_) (fun hc => ?_)
  · repeat (first | refine TL.move rfl rfl rfl ?_ | refine TL.assign rfl rfl rfl ?_ | refine TL.nilCheck rfl rfl rfl ?_ | refine TL.fieldAddr rfl rfl rfl ?_ | refine TL.convI rfl rfl rfl ?_ | refine TL.cmpI rfl rfl rfl rfl rfl ?_ | refine TL.arith rfl rfl rfl rfl rfl ?_ | refine TL.lenS rfl rfl rfl ?_ | refine TL.lenStr rfl rfl rfl ?_ | refine TL.not rfl rfl rfl ?_ | refine TL.skipG rfl rfl ?_ | refine TL.pickT rfl rfl rfl rfl ?_ | refine TL.pickF rfl rfl rfl rfl ?_ | refine TL.extract rfl rfl rfl rfl ?_ | refine TL.maxI rfl rfl rfl rfl ?_ | refine TL.minI rfl rfl rfl rfl ?_ | refine TL.nilCheckF rfl rfl rfl ?_ | refine TL.nil ?_ | refine T.seqK fun K hK => ?_ | (refine T.regionO fun ops => ?_) | refine T.condT rfl ?_ | refine T.condF rfl ?_ | refine T.block ?_ | refine T.skip ?_ | refine T.ret ?_ | refine T.exit ?_ | (refine hK _ _ ?_; clear hK K) | clear hK K | clear ops)
    exact ⟨_, rfl, rfl, hw1⟩
  repeat (first | refine TL.move rfl rfl rfl ?_ | refine TL.assign rfl rfl rfl ?_ | refine TL.nilCheck rfl rfl rfl ?_ | refine TL.fieldAddr rfl rfl rfl ?_ | refine TL.convI rfl rfl rfl ?_ | refine TL.cmpI rfl rfl rfl rfl rfl ?_ | refine TL.arith rfl rfl rfl rfl rfl ?_ | refine TL.lenS rfl rfl rfl ?_ | refine TL.lenStr rfl rfl rfl ?_ | refine TL.not rfl rfl rfl ?_ | refine TL.skipG rfl rfl ?_ | refine TL.pickT rfl rfl rfl rfl ?_ | refine TL.pickF rfl rfl rfl rfl ?_ | refine TL.extract rfl rfl rfl rfl ?_ | refine TL.maxI rfl rfl rfl rfl ?_ | refine TL.minI rfl rfl rfl rfl ?_ | refine TL.nilCheckF rfl rfl rfl ?_ | refine TL.nil ?_ | refine T.seqK fun K hK => ?_ | (refine T.regionO fun ops => ?_) | refine T.condT rfl ?_ | refine T.condF rfl ?_ | refine T.block ?_ | refine T.skip ?_ | refine T.ret ?_ | refine T.exit ?_ | (refine hK _ _ ?_; clear hK K) | clear hK K | clear ops)
  refine TL.call rfl rfl rfl (Grow_ret v xs 30 w1 (hW.ext hw1) (hl.ext hw1) hn (by omega)) ?_
  rintro _ w2 ⟨hw12, tv, lv, rfl, ht, hlv, hgi⟩
  have hw2 : Ext w w2 := hw1.trans hw12
  obtain ⟨o, ho⟩ : ∃ o, o = (growG xs 0 30 (none, [])).1 := ⟨_, rfl⟩
  obtain ⟨l, hll⟩ : ∃ l, l = (growG xs 0 30 (none, [])).2 := ⟨_, rfl⟩
  rw [← ho] at ht hgi
  rw [← hll] at hlv hgi
  clear ho hll
  have hkey : key.length ≤ 96 := by have := of_decide_eq_false hc; omega
  obtain ⟨la, lc, rfl, _⟩ := hlv.shape
  have hf := hgi.fit
  have hs : szO o ≤ 2 ^ 30 := by have := hgi.sz; omega
  have hsm : small (lvO o) := by rw [hgi.lv]; exact hgi.small
  have hW2 := hW.ext hw2
  have hlw : Lsr pairE (fun k => Any k ∧ k < w2.heap.size) w2 (.slice la l.length lc) l := hlv.lt
  repeat (first | refine TL.move rfl rfl rfl ?_ | refine TL.assign rfl rfl rfl ?_ | refine TL.nilCheck rfl rfl rfl ?_ | refine TL.fieldAddr rfl rfl rfl ?_ | refine TL.convI rfl rfl rfl ?_ | refine TL.cmpI rfl rfl rfl rfl rfl ?_ | refine TL.arith rfl rfl rfl rfl rfl ?_ | refine TL.lenS rfl rfl rfl ?_ | refine TL.lenStr rfl rfl rfl ?_ | refine TL.not rfl rfl rfl ?_ | refine TL.skipG rfl rfl ?_ | refine TL.pickT rfl rfl rfl rfl ?_ | refine TL.pickF rfl rfl rfl rfl ?_ | refine TL.extract rfl rfl rfl rfl ?_ | refine TL.maxI rfl rfl rfl rfl ?_ | refine TL.minI rfl rfl rfl rfl ?_ | refine TL.nilCheckF rfl rfl rfl ?_ | refine TL.nil ?_ | refine T.seqK fun K hK => ?_ | (refine T.regionO fun ops => ?_) | refine T.condT rfl ?_ | refine T.condF rfl ?_ | refine T.block ?_ | refine T.skip ?_ | refine T.ret ?_ | refine T.exit ?_ | (refine hK _ _ ?_; clear hK K) | clear hK K | clear ops)
  refine TL.buildSlice rfl rfl rfl rfl rfl (by simp [Value.oneCell']) rfl fun b3 w3 hal => ?_
  have hks3 : Lst bytesE w2.heap.size w2 w3 23 (.slice (some ⟨b3, 0, none⟩) 1 1) [key] := Lst.one hal (By.ext hk hw2) (Below.refl _ _)
  clear hal
  repeat (first | refine TL.move rfl rfl rfl ?_ | refine TL.assign rfl rfl rfl ?_ | refine TL.nilCheck rfl rfl rfl ?_ | refine TL.fieldAddr rfl rfl rfl ?_ | refine TL.convI rfl rfl rfl ?_ | refine TL.cmpI rfl rfl rfl rfl rfl ?_ | refine TL.arith rfl rfl rfl rfl rfl ?_ | refine TL.lenS rfl rfl rfl ?_ | refine TL.lenStr rfl rfl rfl ?_ | refine TL.not rfl rfl rfl ?_ | refine TL.skipG rfl rfl ?_ | refine TL.pickT rfl rfl rfl rfl ?_ | refine TL.pickF rfl rfl rfl rfl ?_ | refine TL.extract rfl rfl rfl rfl ?_ | refine TL.maxI rfl rfl rfl rfl ?_ | refine TL.minI rfl rfl rfl rfl ?_ | refine TL.nilCheckF rfl rfl rfl ?_ | refine TL.nil ?_ | refine T.seqK fun K hK => ?_ | (refine T.regionO fun ops => ?_) | refine T.condT rfl ?_ | refine T.condF rfl ?_ | refine T.block ?_ | refine T.skip ?_ | refine T.ret ?_ | refine T.exit ?_ | (refine hK _ _ ?_; clear hK K) | clear hK K | clear ops)
  refine T.loop (fun m L w' => ∃ (k : Nat) (ov : Value) (ks : List (List UInt8)), Less [(7, tv), (8, .slice la l.length lc), (9, ov), (38, .slice wa which.length wc), (39, .int .i64 which.length), (40, .int .i64 k)] L ∧ Lst bytesE w2.heap.size w2 w' 23 ov ks ∧ ks.length ≤ 1 + min k 5 ∧ k + m = which.length) which.length
    ⟨0, _, [key], (by repeat (first | exact Less.nil _ | refine Less.cons rfl ?_)), hks3, by simp, by omega⟩ ?_
  rintro m L w4 ⟨k, ov, ks, hL, hks, hkl, hkm⟩
  have hw24 : Ext w2 w4 := hks.below
  obtain ⟨oa, oc, rfl⟩ := hks.shape
  refine T.sub hL ?_
  repeat (first | refine TL.move rfl rfl rfl ?_ | refine TL.assign rfl rfl rfl ?_ | refine TL.nilCheck rfl rfl rfl ?_ | refine TL.fieldAddr rfl rfl rfl ?_ | refine TL.convI rfl rfl rfl ?_ | refine TL.cmpI rfl rfl rfl rfl rfl ?_ | refine TL.arith rfl rfl rfl rfl rfl ?_ | refine TL.lenS rfl rfl rfl ?_ | refine TL.lenStr rfl rfl rfl ?_ | refine TL.not rfl rfl rfl ?_ | refine TL.skipG rfl rfl ?_ | refine TL.pickT rfl rfl rfl rfl ?_ | refine TL.pickF rfl rfl rfl rfl ?_ | refine TL.extract rfl rfl rfl rfl ?_ | refine TL.maxI rfl rfl rfl rfl ?_ | refine TL.minI rfl rfl rfl rfl ?_ | refine TL.nilCheckF rfl rfl rfl ?_ | refine TL.nil ?_ | refine T.seqK fun K hK => ?_ | (refine T.regionO fun ops => ?_) | refine T.condT rfl ?_ | refine T.condF rfl ?_ | refine T.block ?_ | refine T.skip ?_ | refine T.ret ?_ | refine T.exit ?_ | (refine hK _ _ ?_; clear hK K) | clear hK K | clear ops)
  refine T.cond rfl (fun hc => ?_) (fun hc => ?_)
  · have hk' : k < which.length := by simpa using hc
    obtain ⟨b, hb⟩ : ∃ b, which[k]? = some b := ⟨_, List.getElem?_eq_getElem hk'⟩
    have hbl := b.toNat_lt
    repeat (first | refine TL.move rfl rfl rfl ?_ | refine TL.assign rfl rfl rfl ?_ | refine TL.nilCheck rfl rfl rfl ?_ | refine TL.fieldAddr rfl rfl rfl ?_ | refine TL.convI rfl rfl rfl ?_ | refine TL.cmpI rfl rfl rfl rfl rfl ?_ | refine TL.arith rfl rfl rfl rfl rfl ?_ | refine TL.lenS rfl rfl rfl ?_ | refine TL.lenStr rfl rfl rfl ?_ | refine TL.not rfl rfl rfl ?_ | refine TL.skipG rfl rfl ?_ | refine TL.pickT rfl rfl rfl rfl ?_ | refine TL.pickF rfl rfl rfl rfl ?_ | refine TL.extract rfl rfl rfl rfl ?_ | refine TL.maxI rfl rfl rfl rfl ?_ | refine TL.minI rfl rfl rfl rfl ?_ | refine TL.nilCheckF rfl rfl rfl ?_ | refine TL.nil ?_ | refine T.seqK fun K hK => ?_ | refine T.region ?_ | refine T.condT rfl ?_ | refine T.condF rfl ?_ | refine T.block ?_ | refine T.skip ?_ | refine T.ret ?_ | refine T.exit ?_ | (refine hK _ _ ?_; clear hK K) | clear hK K)
    refine TL.elem1 (u := .int .u8 (b.toNat : Int)) rfl rfl (fun _ => rfl) rfl rfl rfl (Rd.ext hwh (hw2.trans hw24)) rfl (by simp [hb, vb]) fun pp => ?_
    repeat (first | refine TL.move rfl rfl rfl ?_ | refine TL.assign rfl rfl rfl ?_ | refine TL.nilCheck rfl rfl rfl ?_ | refine TL.fieldAddr rfl rfl rfl ?_ | refine TL.convI rfl rfl rfl ?_ | refine TL.cmpI rfl rfl rfl rfl rfl ?_ | refine TL.arith rfl rfl rfl rfl rfl ?_ | refine TL.lenS rfl rfl rfl ?_ | refine TL.lenStr rfl rfl rfl ?_ | refine TL.not rfl rfl rfl ?_ | refine TL.skipG rfl rfl ?_ | refine TL.pickT rfl rfl rfl rfl ?_ | refine TL.pickF rfl rfl rfl rfl ?_ | refine TL.extract rfl rfl rfl rfl ?_ | refine TL.maxI rfl rfl rfl rfl ?_ | refine TL.minI rfl rfl rfl rfl ?_ | refine TL.nilCheckF rfl rfl rfl ?_ | refine TL.nil ?_ | refine T.seqK fun K hK => ?_ | refine T.region ?_ | refine T.condT rfl ?_ | refine T.condF rfl ?_ | refine T.block ?_ | refine T.skip ?_ | refine T.ret ?_ | refine T.exit ?_ | (refine hK _ _ ?_; clear hK K) | clear hK K)
    by_cases h5 : k < 5
    · rw [show decide ((k : Int) < 5) = true from decide_eq_true (by omega)]
      repeat (first | refine TL.move rfl rfl rfl ?_ | refine TL.assign rfl rfl rfl ?_ | refine TL.nilCheck rfl rfl rfl ?_ | refine TL.fieldAddr rfl rfl rfl ?_ | refine TL.convI rfl rfl rfl ?_ | refine TL.cmpI rfl rfl rfl rfl rfl ?_ | refine TL.arith rfl rfl rfl rfl rfl ?_ | refine TL.lenS rfl rfl rfl ?_ | refine TL.lenStr rfl rfl rfl ?_ | refine TL.not rfl rfl rfl ?_ | refine TL.skipG rfl rfl ?_ | refine TL.pickT rfl rfl rfl rfl ?_ | refine TL.pickF rfl rfl rfl rfl ?_ | refine TL.extract rfl rfl rfl rfl ?_ | refine TL.maxI rfl rfl rfl rfl ?_ | refine TL.minI rfl rfl rfl rfl ?_ | refine TL.nilCheckF rfl rfl rfl ?_ | refine TL.nil ?_ | refine T.seqK fun K hK => ?_ | refine T.region ?_ | refine T.condT rfl ?_ | refine T.condF rfl ?_ | refine T.block ?_ | refine T.skip ?_ | refine T.ret ?_ | refine T.exit ?_ | (refine hK _ _ ?_; clear hK K) | clear hK K)
      by_cases hl0 : 0 < l.length
      · rw [show decide (((l.length : Nat) : Int) > 0) = true by simpa using hl0]
        repeat (first | refine TL.move rfl rfl rfl ?_ | refine TL.assign rfl rfl rfl ?_ | refine TL.nilCheck rfl rfl rfl ?_ | refine TL.fieldAddr rfl rfl rfl ?_ | refine TL.convI rfl rfl rfl ?_ | refine TL.cmpI rfl rfl rfl rfl rfl ?_ | refine TL.arith rfl rfl rfl rfl rfl ?_ | refine TL.lenS rfl rfl rfl ?_ | refine TL.lenStr rfl rfl rfl ?_ | refine TL.not rfl rfl rfl ?_ | refine TL.skipG rfl rfl ?_ | refine TL.pickT rfl rfl rfl rfl ?_ | refine TL.pickF rfl rfl rfl rfl ?_ | refine TL.extract rfl rfl rfl rfl ?_ | refine TL.maxI rfl rfl rfl rfl ?_ | refine TL.minI rfl rfl rfl rfl ?_ | refine TL.nilCheckF rfl rfl rfl ?_ | refine TL.nil ?_ | refine T.seqK fun K hK => ?_ | refine T.region ?_ | refine T.condT rfl ?_ | refine T.condF rfl ?_ | refine T.block ?_ | refine T.skip ?_ | refine T.ret ?_ | refine T.exit ?_ | (refine hK _ _ ?_; clear hK K) | clear hK K)
        refine TL.arith rfl rfl rfl rfl (by rw [wr_i64 (by omega) (by omega)]; exact arith_rem _ _ (by omega)) ?_
        have hj : b.toNat % l.length < l.length := Nat.mod_lt _ hl0
        obtain ⟨q, hq⟩ : ∃ q, l[b.toNat % l.length]? = some q := ⟨_, List.getElem?_eq_getElem hj⟩
        refine TL.indexL (E := pairE) rfl rfl rfl rfl rfl rfl (hlw.ext hw24) rfl hq fun bq oq us _ hus hcell => ?_
        obtain ⟨ku, vu, rfl, hku, hvu⟩ := hus
        repeat (first | refine TL.move rfl rfl rfl ?_ | refine TL.assign rfl rfl rfl ?_ | refine TL.nilCheck rfl rfl rfl ?_ | refine TL.fieldAddr rfl rfl rfl ?_ | refine TL.convI rfl rfl rfl ?_ | refine TL.cmpI rfl rfl rfl rfl rfl ?_ | refine TL.arith rfl rfl rfl rfl rfl ?_ | refine TL.lenS rfl rfl rfl ?_ | refine TL.lenStr rfl rfl rfl ?_ | refine TL.not rfl rfl rfl ?_ | refine TL.skipG rfl rfl ?_ | refine TL.pickT rfl rfl rfl rfl ?_ | refine TL.pickF rfl rfl rfl rfl ?_ | refine TL.extract rfl rfl rfl rfl ?_ | refine TL.maxI rfl rfl rfl rfl ?_ | refine TL.minI rfl rfl rfl rfl ?_ | refine TL.nilCheckF rfl rfl rfl ?_ | refine TL.nil ?_ | refine T.seqK fun K hK => ?_ | refine T.region ?_ | refine T.condT rfl ?_ | refine T.condF rfl ?_ | refine T.block ?_ | refine T.skip ?_ | refine T.ret ?_ | refine T.exit ?_ | (refine hK _ _ ?_; clear hK K) | clear hK K)
        refine TL.load1 rfl rfl rfl (hcell 0 ku rfl) ?_
        refine TL.buildSlice rfl rfl rfl rfl rfl (by intro u hu; simp only [List.mem_cons, List.not_mem_nil, or_false] at hu; subst hu; exact By.one' hku) rfl fun bb w5 hal => ?_
        have hrd : Rd (· = bb) w5 1 (.slice (some ⟨bb, 0, none⟩) 1 1) 1 _ := hal.rd rfl (by simp [maxLen])
        have hel : bytesE.rel (fun k => Any k ∧ k < w2.heap.size) w5 [ku] q.1 := ⟨_, rfl, By.ext hku hal.below⟩
        refine TL.pushE (E := bytesE) rfl rfl rfl rfl rfl (hks.keep hal.below) hrd hel (fun j hj hh => by have := (hks.blk j hh).1; have := hj.2; omega) rfl (by omega) (by unfold maxLen; omega) fun bv w6 h6 _ _ => ?_
        repeat (first | refine TL.move rfl rfl rfl ?_ | refine TL.assign rfl rfl rfl ?_ | refine TL.nilCheck rfl rfl rfl ?_ | refine TL.fieldAddr rfl rfl rfl ?_ | refine TL.convI rfl rfl rfl ?_ | refine TL.cmpI rfl rfl rfl rfl rfl ?_ | refine TL.arith rfl rfl rfl rfl rfl ?_ | refine TL.lenS rfl rfl rfl ?_ | refine TL.lenStr rfl rfl rfl ?_ | refine TL.not rfl rfl rfl ?_ | refine TL.skipG rfl rfl ?_ | refine TL.pickT rfl rfl rfl rfl ?_ | refine TL.pickF rfl rfl rfl rfl ?_ | refine TL.extract rfl rfl rfl rfl ?_ | refine TL.maxI rfl rfl rfl rfl ?_ | refine TL.minI rfl rfl rfl rfl ?_ | refine TL.nilCheckF rfl rfl rfl ?_ | refine TL.nil ?_ | refine T.seqK fun K hK => ?_ | refine T.region ?_ | refine T.condT rfl ?_ | refine T.condF rfl ?_ | refine T.block ?_ | refine T.skip ?_ | refine T.ret ?_ | refine T.exit ?_ | (refine hK _ _ ?_; clear hK K) | clear hK K)
        refine ⟨m - 1, by omega, k + 1, bv, _, ?_, h6, by simp; omega, by omega⟩
        repeat (first | exact Less.nil _ | refine Less.cons rfl ?_)
        refine Less.cons' rfl (by rw [wr_succ (by omega)]) ?_
        repeat (first | exact Less.nil _ | refine Less.cons rfl ?_)
      · rw [show decide (((l.length : Nat) : Int) > 0) = false by simpa using hl0]
        repeat (first | refine TL.move rfl rfl rfl ?_ | refine TL.assign rfl rfl rfl ?_ | refine TL.nilCheck rfl rfl rfl ?_ | refine TL.fieldAddr rfl rfl rfl ?_ | refine TL.convI rfl rfl rfl ?_ | refine TL.cmpI rfl rfl rfl rfl rfl ?_ | refine TL.arith rfl rfl rfl rfl rfl ?_ | refine TL.lenS rfl rfl rfl ?_ | refine TL.lenStr rfl rfl rfl ?_ | refine TL.not rfl rfl rfl ?_ | refine TL.skipG rfl rfl ?_ | refine TL.pickT rfl rfl rfl rfl ?_ | refine TL.pickF rfl rfl rfl rfl ?_ | refine TL.extract rfl rfl rfl rfl ?_ | refine TL.maxI rfl rfl rfl rfl ?_ | refine TL.minI rfl rfl rfl rfl ?_ | refine TL.nilCheckF rfl rfl rfl ?_ | refine TL.nil ?_ | refine T.seqK fun K hK => ?_ | refine T.region ?_ | refine T.condT rfl ?_ | refine T.condF rfl ?_ | refine T.block ?_ | refine T.skip ?_ | refine T.ret ?_ | refine T.exit ?_ | (refine hK _ _ ?_; clear hK K) | clear hK K)
        refine ⟨m - 1, by omega, k + 1, _, ks, ?_, hks, by omega, by omega⟩
        repeat (first | exact Less.nil _ | refine Less.cons rfl ?_)
        refine Less.cons' rfl (by rw [wr_succ (by omega)]) ?_
        repeat (first | exact Less.nil _ | refine Less.cons rfl ?_)
    · rw [show decide ((k : Int) < 5) = false from decide_eq_false (by omega)]
      repeat (first | refine TL.move rfl rfl rfl ?_ | refine TL.assign rfl rfl rfl ?_ | refine TL.nilCheck rfl rfl rfl ?_ | refine TL.fieldAddr rfl rfl rfl ?_ | refine TL.convI rfl rfl rfl ?_ | refine TL.cmpI rfl rfl rfl rfl rfl ?_ | refine TL.arith rfl rfl rfl rfl rfl ?_ | refine TL.lenS rfl rfl rfl ?_ | refine TL.lenStr rfl rfl rfl ?_ | refine TL.not rfl rfl rfl ?_ | refine TL.skipG rfl rfl ?_ | refine TL.pickT rfl rfl rfl rfl ?_ | refine TL.pickF rfl rfl rfl rfl ?_ | refine TL.extract rfl rfl rfl rfl ?_ | refine TL.maxI rfl rfl rfl rfl ?_ | refine TL.minI rfl rfl rfl rfl ?_ | refine TL.nilCheckF rfl rfl rfl ?_ | refine TL.nil ?_ | refine T.seqK fun K hK => ?_ | refine T.region ?_ | refine T.condT rfl ?_ | refine T.condF rfl ?_ | refine T.block ?_ | refine T.skip ?_ | refine T.ret ?_ | refine T.exit ?_ | (refine hK _ _ ?_; clear hK K) | clear hK K)
      refine ⟨m - 1, by omega, k + 1, _, ks, ?_, hks, by omega, by omega⟩
      repeat (first | exact Less.nil _ | refine Less.cons rfl ?_)
      refine Less.cons' rfl (by rw [wr_succ (by omega)]) ?_
      repeat (first | exact Less.nil _ | refine Less.cons rfl ?_)
  clear hc hkm hL
  repeat (first | refine TL.move rfl rfl rfl ?_ | refine TL.assign rfl rfl rfl ?_ | refine TL.nilCheck rfl rfl rfl ?_ | refine TL.fieldAddr rfl rfl rfl ?_ | refine TL.convI rfl rfl rfl ?_ | refine TL.cmpI rfl rfl rfl rfl rfl ?_ | refine TL.arith rfl rfl rfl rfl rfl ?_ | refine TL.lenS rfl rfl rfl ?_ | refine TL.lenStr rfl rfl rfl ?_ | refine TL.not rfl rfl rfl ?_ | refine TL.skipG rfl rfl ?_ | refine TL.pickT rfl rfl rfl rfl ?_ | refine TL.pickF rfl rfl rfl rfl ?_ | refine TL.extract rfl rfl rfl rfl ?_ | refine TL.maxI rfl rfl rfl rfl ?_ | refine TL.minI rfl rfl rfl rfl ?_ | refine TL.nilCheckF rfl rfl rfl ?_ | refine TL.nil ?_ | refine T.seqK fun K hK => ?_ | (refine T.regionO fun ops => ?_) | refine T.condT rfl ?_ | refine T.condF rfl ?_ | refine T.block ?_ | refine T.skip ?_ | refine T.ret ?_ | refine T.exit ?_ | (refine hK _ _ ?_; clear hK K) | clear hK K | clear ops)
  refine T.loop (fun m L w' => ∃ (j : Nat), Less [(7, tv), (8, .slice la l.length lc), (9, .slice oa ks.length oc), (65, .slice oa ks.length oc), (66, .int .i64 ks.length), (67, .int .i64 j)] L ∧ Ext w4 w' ∧ j + m = ks.length) ks.length
    ⟨0, (by repeat (first | exact Less.nil _ | refine Less.cons rfl ?_)), Ext.refl _, by omega⟩ ?_
  rintro m' L w5 ⟨j, hL, hw45, hjm⟩
  have hw25 : Ext w2 w5 := hw24.trans hw45
  have hksr := hks.lsr.ext hw45
  refine T.sub hL ?_
  repeat (first | refine TL.move rfl rfl rfl ?_ | refine TL.assign rfl rfl rfl ?_ | refine TL.nilCheck rfl rfl rfl ?_ | refine TL.fieldAddr rfl rfl rfl ?_ | refine TL.convI rfl rfl rfl ?_ | refine TL.cmpI rfl rfl rfl rfl rfl ?_ | refine TL.arith rfl rfl rfl rfl rfl ?_ | refine TL.lenS rfl rfl rfl ?_ | refine TL.lenStr rfl rfl rfl ?_ | refine TL.not rfl rfl rfl ?_ | refine TL.skipG rfl rfl ?_ | refine TL.pickT rfl rfl rfl rfl ?_ | refine TL.pickF rfl rfl rfl rfl ?_ | refine TL.extract rfl rfl rfl rfl ?_ | refine TL.maxI rfl rfl rfl rfl ?_ | refine TL.minI rfl rfl rfl rfl ?_ | refine TL.nilCheckF rfl rfl rfl ?_ | refine TL.nil ?_ | refine T.seqK fun K hK => ?_ | (refine T.regionO fun ops => ?_) | refine T.condT rfl ?_ | refine T.condF rfl ?_ | refine T.block ?_ | refine T.skip ?_ | refine T.ret ?_ | refine T.exit ?_ | (refine hK _ _ ?_; clear hK K) | clear hK K | clear ops)
  refine T.cond rfl (fun hc => ?_) (fun hc => ?_)
  · have hj : j < ks.length := by simpa using hc
    obtain ⟨vs, hvr, hvb⟩ := hksr.bb
    obtain ⟨kj, hkj⟩ : ∃ kj, ks[j]? = some kj := ⟨_, List.getElem?_eq_getElem hj⟩
    obtain ⟨xv, hxv⟩ : ∃ xv, vs[j]? = some xv := ⟨_, List.getElem?_eq_getElem (by rw [hvb.1]; exact hj)⟩
    have hx5 : B0 w5 xv kj := hvb.2 _ xv kj hxv hkj
    have hm := mem_ok hgi kj
    have hok := makeO_ok o kj hs hsm
    repeat (first | refine TL.move rfl rfl rfl ?_ | refine TL.assign rfl rfl rfl ?_ | refine TL.nilCheck rfl rfl rfl ?_ | refine TL.fieldAddr rfl rfl rfl ?_ | refine TL.convI rfl rfl rfl ?_ | refine TL.cmpI rfl rfl rfl rfl rfl ?_ | refine TL.arith rfl rfl rfl rfl rfl ?_ | refine TL.lenS rfl rfl rfl ?_ | refine TL.lenStr rfl rfl rfl ?_ | refine TL.not rfl rfl rfl ?_ | refine TL.skipG rfl rfl ?_ | refine TL.pickT rfl rfl rfl rfl ?_ | refine TL.pickF rfl rfl rfl rfl ?_ | refine TL.extract rfl rfl rfl rfl ?_ | refine TL.maxI rfl rfl rfl rfl ?_ | refine TL.minI rfl rfl rfl rfl ?_ | refine TL.nilCheckF rfl rfl rfl ?_ | refine TL.nil ?_ | refine T.seqK fun K hK => ?_ | (refine T.regionO fun ops => ?_) | refine T.condT rfl ?_ | refine T.condF rfl ?_ | refine T.block ?_ | refine T.skip ?_ | refine T.ret ?_ | refine T.exit ?_ | (refine hK _ _ ?_; clear hK K) | clear hK K | clear ops)
    refine TL.elem1 rfl rfl (fun _ => rfl) rfl rfl rfl hvr rfl hxv fun pp => ?_
    repeat (first | refine TL.move rfl rfl rfl ?_ | refine TL.assign rfl rfl rfl ?_ | refine TL.nilCheck rfl rfl rfl ?_ | refine TL.fieldAddr rfl rfl rfl ?_ | refine TL.convI rfl rfl rfl ?_ | refine TL.cmpI rfl rfl rfl rfl rfl ?_ | refine TL.arith rfl rfl rfl rfl rfl ?_ | refine TL.lenS rfl rfl rfl ?_ | refine TL.lenStr rfl rfl rfl ?_ | refine TL.not rfl rfl rfl ?_ | refine TL.skipG rfl rfl ?_ | refine TL.pickT rfl rfl rfl rfl ?_ | refine TL.pickF rfl rfl rfl rfl ?_ | refine TL.extract rfl rfl rfl rfl ?_ | refine TL.maxI rfl rfl rfl rfl ?_ | refine TL.minI rfl rfl rfl rfl ?_ | refine TL.nilCheckF rfl rfl rfl ?_ | refine TL.nil ?_ | refine T.seqK fun K hK => ?_ | (refine T.regionO fun ops => ?_) | refine T.condT rfl ?_ | refine T.condF rfl ?_ | refine T.block ?_ | refine T.skip ?_ | refine T.ret ?_ | refine T.exit ?_ | (refine hK _ _ ?_; clear hK K) | clear hK K | clear ops)
    refine TL.call rfl rfl rfl (One_ret o tv xv kj w5 (IsR.ext hw25 ht) hx5 hf hs hsm) ?_
    rintro one w6 ⟨hw56, hone⟩
    obtain ⟨o1a, o1c, rfl, _⟩ := hone.shape
    repeat (first | refine TL.move rfl rfl rfl ?_ | refine TL.assign rfl rfl rfl ?_ | refine TL.nilCheck rfl rfl rfl ?_ | refine TL.fieldAddr rfl rfl rfl ?_ | refine TL.convI rfl rfl rfl ?_ | refine TL.cmpI rfl rfl rfl rfl rfl ?_ | refine TL.arith rfl rfl rfl rfl rfl ?_ | refine TL.lenS rfl rfl rfl ?_ | refine TL.lenStr rfl rfl rfl ?_ | refine TL.not rfl rfl rfl ?_ | refine TL.skipG rfl rfl ?_ | refine TL.pickT rfl rfl rfl rfl ?_ | refine TL.pickF rfl rfl rfl rfl ?_ | refine TL.extract rfl rfl rfl rfl ?_ | refine TL.maxI rfl rfl rfl rfl ?_ | refine TL.minI rfl rfl rfl rfl ?_ | refine TL.nilCheckF rfl rfl rfl ?_ | refine TL.nil ?_ | refine T.seqK fun K hK => ?_ | (refine T.regionO fun ops => ?_) | refine T.condT rfl ?_ | refine T.condF rfl ?_ | refine T.block ?_ | refine T.skip ?_ | refine T.ret ?_ | refine T.exit ?_ | (refine hK _ _ ?_; clear hK K) | clear hK K | clear ops)
    refine TL.call rfl rfl rfl (Gap_ret o tv xv kj w6 (IsR.ext (hw25.trans hw56) ht) (By.ext hx5 hw56) hf hs hsm) ?_
    rintro gap w7 ⟨hw67, hgap⟩
    obtain ⟨g1a, g1c, rfl, _⟩ := hgap.shape
    have hw57 := hw56.trans hw67
    repeat (first | refine TL.move rfl rfl rfl ?_ | refine TL.assign rfl rfl rfl ?_ | refine TL.nilCheck rfl rfl rfl ?_ | refine TL.fieldAddr rfl rfl rfl ?_ | refine TL.convI rfl rfl rfl ?_ | refine TL.cmpI rfl rfl rfl rfl rfl ?_ | refine TL.arith rfl rfl rfl rfl rfl ?_ | refine TL.lenS rfl rfl rfl ?_ | refine TL.lenStr rfl rfl rfl ?_ | refine TL.not rfl rfl rfl ?_ | refine TL.skipG rfl rfl ?_ | refine TL.pickT rfl rfl rfl rfl ?_ | refine TL.pickF rfl rfl rfl rfl ?_ | refine TL.extract rfl rfl rfl rfl ?_ | refine TL.maxI rfl rfl rfl rfl ?_ | refine TL.minI rfl rfl rfl rfl ?_ | refine TL.nilCheckF rfl rfl rfl ?_ | refine TL.nil ?_ | refine T.seqK fun K hK => ?_ | (refine T.regionO fun ops => ?_) | refine T.condT rfl ?_ | refine T.condF rfl ?_ | refine T.block ?_ | refine T.skip ?_ | refine T.ret ?_ | refine T.exit ?_ | (refine hK _ _ ?_; clear hK K) | clear hK K | clear ops)
    refine TL.call rfl rfl rfl (Make_ret o tv xv kj w7 (IsR.ext (hw25.trans hw57) ht) (By.ext hx5 hw57) hf hs) ?_
    rintro _ w8 ⟨hw78, _, rfl, hP⟩
    obtain ⟨dk, dv, dt, rfl, h1, h2, h3⟩ := id hP
    obtain ⟨pta, ptc, rfl, _⟩ := h3.shape
    have hw58 := hw57.trans hw78
    repeat (first | refine TL.move rfl rfl rfl ?_ | refine TL.assign rfl rfl rfl ?_ | refine TL.nilCheck rfl rfl rfl ?_ | refine TL.fieldAddr rfl rfl rfl ?_ | refine TL.convI rfl rfl rfl ?_ | refine TL.cmpI rfl rfl rfl rfl rfl ?_ | refine TL.arith rfl rfl rfl rfl rfl ?_ | refine TL.lenS rfl rfl rfl ?_ | refine TL.lenStr rfl rfl rfl ?_ | refine TL.not rfl rfl rfl ?_ | refine TL.skipG rfl rfl ?_ | refine TL.pickT rfl rfl rfl rfl ?_ | refine TL.pickF rfl rfl rfl rfl ?_ | refine TL.extract rfl rfl rfl rfl ?_ | refine TL.maxI rfl rfl rfl rfl ?_ | refine TL.minI rfl rfl rfl rfl ?_ | refine TL.nilCheckF rfl rfl rfl ?_ | refine TL.nil ?_ | refine T.seqK fun K hK => ?_ | (refine T.regionO fun ops => ?_) | refine T.condT rfl ?_ | refine T.condF rfl ?_ | refine T.block ?_ | refine T.skip ?_ | refine T.ret ?_ | refine T.exit ?_ | (refine hK _ _ ?_; clear hK K) | clear hK K | clear ops)
    refine TL.alloc rfl rfl fun b16 w9 hal => ?_
    have hz : Row w9 b16 [nils, nils, nils] 35 (0, 0) := hal.at_
    refine TL.storeRA (A := []) (C := []) (old := [nils, nils, nils]) (xs := [dk, dv, .slice pta (makeO kj o).1.turns.length ptc]) rfl rfl rfl (by simpa using hz) rfl (by simp [Value.cells]) rfl rfl (by
      intro u hu
      simp at hu
      rcases hu with rfl | rfl | rfl
      · exact By.one h1
      · exact By.one h2
      · rfl) fun w10 hg10 hr10 hs10 => ?_
    have hr10 : Row w10 b16 [dk, dv, .slice pta (makeO kj o).1.turns.length ptc] 35 (0, 0) := hr10
    have hw810 : Ext w8 w10 := Below.trans hal.below (below_grown hg10 (by rw [hal.num]; exact Nat.le_refl _) hal.below.size)
    clear hal hz hg10 hs10
    have hw510 := hw58.trans hw810
    repeat (first | refine TL.move rfl rfl rfl ?_ | refine TL.assign rfl rfl rfl ?_ | refine TL.nilCheck rfl rfl rfl ?_ | refine TL.fieldAddr rfl rfl rfl ?_ | refine TL.convI rfl rfl rfl ?_ | refine TL.cmpI rfl rfl rfl rfl rfl ?_ | refine TL.arith rfl rfl rfl rfl rfl ?_ | refine TL.lenS rfl rfl rfl ?_ | refine TL.lenStr rfl rfl rfl ?_ | refine TL.not rfl rfl rfl ?_ | refine TL.skipG rfl rfl ?_ | refine TL.pickT rfl rfl rfl rfl ?_ | refine TL.pickF rfl rfl rfl rfl ?_ | refine TL.extract rfl rfl rfl rfl ?_ | refine TL.maxI rfl rfl rfl rfl ?_ | refine TL.minI rfl rfl rfl rfl ?_ | refine TL.nilCheckF rfl rfl rfl ?_ | refine TL.nil ?_ | refine T.seqK fun K hK => ?_ | (refine T.regionO fun ops => ?_) | refine T.condT rfl ?_ | refine T.condF rfl ?_ | refine T.block ?_ | refine T.skip ?_ | refine T.ret ?_ | refine T.exit ?_ | (refine hK _ _ ?_; clear hK K) | clear hK K | clear ops)
    refine TL.call rfl rfl rfl (None_ret o tv xv kj w10 (IsR.ext (hw25.trans hw510) ht) (By.ext hx5 hw510) hf hs) ?_
    rintro _ w11 ⟨hw1011, _, rfl, hG⟩
    obtain ⟨glp, grp, rfl, hg1, hg2⟩ := id hG
    obtain ⟨glq, rfl, _⟩ := hg1.ptr
    obtain ⟨grq, rfl, _⟩ := hg2.ptr
    repeat (first | refine TL.move rfl rfl rfl ?_ | refine TL.assign rfl rfl rfl ?_ | refine TL.nilCheck rfl rfl rfl ?_ | refine TL.fieldAddr rfl rfl rfl ?_ | refine TL.convI rfl rfl rfl ?_ | refine TL.cmpI rfl rfl rfl rfl rfl ?_ | refine TL.arith rfl rfl rfl rfl rfl ?_ | refine TL.lenS rfl rfl rfl ?_ | refine TL.lenStr rfl rfl rfl ?_ | refine TL.not rfl rfl rfl ?_ | refine TL.skipG rfl rfl ?_ | refine TL.pickT rfl rfl rfl rfl ?_ | refine TL.pickF rfl rfl rfl rfl ?_ | refine TL.extract rfl rfl rfl rfl ?_ | refine TL.maxI rfl rfl rfl rfl ?_ | refine TL.minI rfl rfl rfl rfl ?_ | refine TL.nilCheckF rfl rfl rfl ?_ | refine TL.nil ?_ | refine T.seqK fun K hK => ?_ | (refine T.regionO fun ops => ?_) | refine T.condT rfl ?_ | refine T.condF rfl ?_ | refine T.block ?_ | refine T.skip ?_ | refine T.ret ?_ | refine T.exit ?_ | (refine hK _ _ ?_; clear hK K) | clear hK K | clear ops)
    refine TL.alloc rfl rfl fun b18 w12 hal => ?_
    have hz : Row w12 b18 [nilp, nilp] 40 (0, 0) := hal.at_
    refine TL.storeRA (A := []) (C := []) (old := [nilp, nilp]) (xs := [.pointer glq, .pointer grq]) rfl rfl rfl (by simpa using hz) rfl (by simp [Value.cells]) rfl rfl (by simp [Value.oneCell']) fun w13 hg13 hr13 hs13 => ?_
    have hr13 : Row w13 b18 [.pointer glq, .pointer grq] 40 (0, 0) := hr13
    have hw1113 : Ext w11 w13 := Below.trans hal.below (below_grown hg13 (by rw [hal.num]; exact Nat.le_refl _) hal.below.size)
    clear hal hz hg13 hs13
    have hw1013 := hw1011.trans hw1113
    repeat (first | refine TL.move rfl rfl rfl ?_ | refine TL.assign rfl rfl rfl ?_ | refine TL.nilCheck rfl rfl rfl ?_ | refine TL.fieldAddr rfl rfl rfl ?_ | refine TL.convI rfl rfl rfl ?_ | refine TL.cmpI rfl rfl rfl rfl rfl ?_ | refine TL.arith rfl rfl rfl rfl rfl ?_ | refine TL.lenS rfl rfl rfl ?_ | refine TL.lenStr rfl rfl rfl ?_ | refine TL.not rfl rfl rfl ?_ | refine TL.skipG rfl rfl ?_ | refine TL.pickT rfl rfl rfl rfl ?_ | refine TL.pickF rfl rfl rfl rfl ?_ | refine TL.extract rfl rfl rfl rfl ?_ | refine TL.maxI rfl rfl rfl rfl ?_ | refine TL.minI rfl rfl rfl rfl ?_ | refine TL.nilCheckF rfl rfl rfl ?_ | refine TL.nil ?_ | refine T.seqK fun K hK => ?_ | (refine T.regionO fun ops => ?_) | refine T.condT rfl ?_ | refine T.condF rfl ?_ | refine T.block ?_ | refine T.skip ?_ | refine T.ret ?_ | refine T.exit ?_ | (refine hK _ _ ?_; clear hK K) | clear hK K | clear ops)
    refine TL.ev rfl rfl (Ev.loadRA (xs := [dk, dv, .slice pta (makeO kj o).1.turns.length ptc]) rfl (hr10.keepA hw1013) rfl rfl) ?_
    refine TL.call rfl rfl rfl (Encode_ret _ _ w13 ((hP.sub fun _ _ => trivial).ext (hw810.trans hw1013)) (by have := hok.key; omega) (by have := hok.val; omega) hok.turns) ?_
    rintro _ w14 ⟨hw1314, bq, rfl, hbq⟩
    repeat (first | refine TL.move rfl rfl rfl ?_ | refine TL.assign rfl rfl rfl ?_ | refine TL.nilCheck rfl rfl rfl ?_ | refine TL.fieldAddr rfl rfl rfl ?_ | refine TL.convI rfl rfl rfl ?_ | refine TL.cmpI rfl rfl rfl rfl rfl ?_ | refine TL.arith rfl rfl rfl rfl rfl ?_ | refine TL.lenS rfl rfl rfl ?_ | refine TL.lenStr rfl rfl rfl ?_ | refine TL.not rfl rfl rfl ?_ | refine TL.skipG rfl rfl ?_ | refine TL.pickT rfl rfl rfl rfl ?_ | refine TL.pickF rfl rfl rfl rfl ?_ | refine TL.extract rfl rfl rfl rfl ?_ | refine TL.maxI rfl rfl rfl rfl ?_ | refine TL.minI rfl rfl rfl rfl ?_ | refine TL.nilCheckF rfl rfl rfl ?_ | refine TL.nil ?_ | refine T.seqK fun K hK => ?_ | (refine T.regionO fun ops => ?_) | refine T.condT rfl ?_ | refine T.condF rfl ?_ | refine T.block ?_ | refine T.skip ?_ | refine T.ret ?_ | refine T.exit ?_ | (refine hK _ _ ?_; clear hK K) | clear hK K | clear ops)
    have hgok : (∀ p, ((gapO o kj).getD gp0).left = some p → p.ok) ∧ (∀ p, ((gapO o kj).getD gp0).right = some p → p.ok) := by
      cases hgo : gapO o kj with
      | none => exact ⟨fun p hp => (by cases hp), fun p hp => (by cases hp)⟩
      | some g => exact gapF_ok o kj hs hsm _ gp0 g ⟨fun p hp => (by cases hp), fun p hp => (by cases hp)⟩ hgo
    refine TL.ev rfl rfl (Ev.loadRA (xs := [.pointer glq, .pointer grq]) rfl (hr13.keepA hw1314) rfl rfl) ?_
    refine TL.call rfl rfl rfl (EncodeGap_ret ((gapO o kj).getD gp0) _ w14 ⟨_, _, rfl, (hg1.sub fun _ _ => trivial).keep (Same.ofBelow (Ext.trans hw1113 hw1314) _), (hg2.sub fun _ _ => trivial).keep (Same.ofBelow (Ext.trans hw1113 hw1314) _)⟩ hgok.1 hgok.2) ?_
    rintro _ w15 ⟨hw1415, cq, rfl, hcq⟩
    have hw515 : Ext w5 w15 := hw510.trans (hw1013.trans (hw1314.trans hw1415))
    repeat (first | refine TL.move rfl rfl rfl ?_ | refine TL.assign rfl rfl rfl ?_ | refine TL.nilCheck rfl rfl rfl ?_ | refine TL.fieldAddr rfl rfl rfl ?_ | refine TL.convI rfl rfl rfl ?_ | refine TL.cmpI rfl rfl rfl rfl rfl ?_ | refine TL.arith rfl rfl rfl rfl rfl ?_ | refine TL.lenS rfl rfl rfl ?_ | refine TL.lenStr rfl rfl rfl ?_ | refine TL.not rfl rfl rfl ?_ | refine TL.skipG rfl rfl ?_ | refine TL.pickT rfl rfl rfl rfl ?_ | refine TL.pickF rfl rfl rfl rfl ?_ | refine TL.extract rfl rfl rfl rfl ?_ | refine TL.maxI rfl rfl rfl rfl ?_ | refine TL.minI rfl rfl rfl rfl ?_ | refine TL.nilCheckF rfl rfl rfl ?_ | refine TL.nil ?_ | refine T.seqK fun K hK => ?_ | refine T.region ?_ | refine T.condT rfl ?_ | refine T.condF rfl ?_ | refine T.block ?_ | refine T.skip ?_ | refine T.ret ?_ | refine T.exit ?_ | (refine hK _ _ ?_; clear hK K) | clear hK K)
    refine TL.call rfl rfl rfl (Find_ret _ xv l kj w15 ((hlw.ext (hw25.trans hw515)).any) (By.ext hx5 hw515) (by have := hgi.len; omega)) ?_
    rintro _ w16 ⟨rfl, hw1516⟩
    have hw516 := hw515.trans hw1516
    have hone16 : B0 w16 (.slice o1a (oneF o kj).length o1c) (oneF o kj) := By.ext hone (hw67.trans (hw78.trans (hw810.trans (hw1013.trans (hw1314.trans (hw1415.trans hw1516))))))
    have hgap16 : B0 w16 (.slice g1a (gapB o kj).length g1c) (gapB o kj) := By.ext hgap (hw78.trans (hw810.trans (hw1013.trans (hw1314.trans (hw1415.trans hw1516)))))
    have hbq16 := By.ext hbq (hw1415.trans hw1516)
    have hcq16 := By.ext hcq hw1516
    repeat (first | refine TL.move rfl rfl rfl ?_ | refine TL.assign rfl rfl rfl ?_ | refine TL.nilCheck rfl rfl rfl ?_ | refine TL.fieldAddr rfl rfl rfl ?_ | refine TL.convI rfl rfl rfl ?_ | refine TL.cmpI rfl rfl rfl rfl rfl ?_ | refine TL.arith rfl rfl rfl rfl rfl ?_ | refine TL.lenS rfl rfl rfl ?_ | refine TL.lenStr rfl rfl rfl ?_ | refine TL.not rfl rfl rfl ?_ | refine TL.skipG rfl rfl ?_ | refine TL.pickT rfl rfl rfl rfl ?_ | refine TL.pickF rfl rfl rfl rfl ?_ | refine TL.extract rfl rfl rfl rfl ?_ | refine TL.maxI rfl rfl rfl rfl ?_ | refine TL.minI rfl rfl rfl rfl ?_ | refine TL.nilCheckF rfl rfl rfl ?_ | refine TL.nil ?_ | refine T.seqK fun K hK => ?_ | refine T.region ?_ | refine T.condT rfl ?_ | refine T.condF rfl ?_ | refine T.block ?_ | refine T.skip ?_ | refine T.ret ?_ | refine T.exit ?_ | (refine hK _ _ ?_; clear hK K) | clear hK K)
    rw [hm.2, hm.1]
    cases hd : decide (findI kj l 0 ≥ 0) with
    | true =>
      have hok2 : (makeO kj o).2 = true := by rw [hm.1, hd]
      have hno : gapO o kj = none := by
        have := hm.2; rw [hok2] at this
        cases hgo : gapO o kj with
        | none => rfl
        | some g => rw [hgo] at this; cases this
      have e1 : oneF o kj = (encP (makeO kj o).1).1 := by rw [oneF, if_pos hok2]
      have e2 : (gapB o kj).length = 0 := by rw [gapB, hno]; rfl
      refine TL.ev rfl rfl (Ev.neB rfl rfl rfl) ?_
      repeat (first | refine TL.move rfl rfl rfl ?_ | refine TL.assign rfl rfl rfl ?_ | refine TL.nilCheck rfl rfl rfl ?_ | refine TL.fieldAddr rfl rfl rfl ?_ | refine TL.convI rfl rfl rfl ?_ | refine TL.cmpI rfl rfl rfl rfl rfl ?_ | refine TL.arith rfl rfl rfl rfl rfl ?_ | refine TL.lenS rfl rfl rfl ?_ | refine TL.lenStr rfl rfl rfl ?_ | refine TL.not rfl rfl rfl ?_ | refine TL.skipG rfl rfl ?_ | refine TL.pickT rfl rfl rfl rfl ?_ | refine TL.pickF rfl rfl rfl rfl ?_ | refine TL.extract rfl rfl rfl rfl ?_ | refine TL.maxI rfl rfl rfl rfl ?_ | refine TL.minI rfl rfl rfl rfl ?_ | refine TL.nilCheckF rfl rfl rfl ?_ | refine TL.nil ?_ | refine T.seqK fun K hK => ?_ | refine T.region ?_ | refine T.condT rfl ?_ | refine T.condF rfl ?_ | refine T.block ?_ | refine T.skip ?_ | refine T.ret ?_ | refine T.exit ?_ | (refine hK _ _ ?_; clear hK K) | clear hK K)
      refine TL.ev rfl rfl (Ev.eqB rfl rfl rfl) ?_
      repeat (first | refine TL.move rfl rfl rfl ?_ | refine TL.assign rfl rfl rfl ?_ | refine TL.nilCheck rfl rfl rfl ?_ | refine TL.fieldAddr rfl rfl rfl ?_ | refine TL.convI rfl rfl rfl ?_ | refine TL.cmpI rfl rfl rfl rfl rfl ?_ | refine TL.arith rfl rfl rfl rfl rfl ?_ | refine TL.lenS rfl rfl rfl ?_ | refine TL.lenStr rfl rfl rfl ?_ | refine TL.not rfl rfl rfl ?_ | refine TL.skipG rfl rfl ?_ | refine TL.pickT rfl rfl rfl rfl ?_ | refine TL.pickF rfl rfl rfl rfl ?_ | refine TL.extract rfl rfl rfl rfl ?_ | refine TL.maxI rfl rfl rfl rfl ?_ | refine TL.minI rfl rfl rfl rfl ?_ | refine TL.nilCheckF rfl rfl rfl ?_ | refine TL.nil ?_ | refine T.seqK fun K hK => ?_ | refine T.region ?_ | refine T.condT rfl ?_ | refine T.condF rfl ?_ | refine T.block ?_ | refine T.skip ?_ | refine T.ret ?_ | refine T.exit ?_ | (refine hK _ _ ?_; clear hK K) | clear hK K)
      refine TL.ev rfl rfl (Ev.str rfl hone16) ?_
      repeat (first | refine TL.move rfl rfl rfl ?_ | refine TL.assign rfl rfl rfl ?_ | refine TL.nilCheck rfl rfl rfl ?_ | refine TL.fieldAddr rfl rfl rfl ?_ | refine TL.convI rfl rfl rfl ?_ | refine TL.cmpI rfl rfl rfl rfl rfl ?_ | refine TL.arith rfl rfl rfl rfl rfl ?_ | refine TL.lenS rfl rfl rfl ?_ | refine TL.lenStr rfl rfl rfl ?_ | refine TL.not rfl rfl rfl ?_ | refine TL.skipG rfl rfl ?_ | refine TL.pickT rfl rfl rfl rfl ?_ | refine TL.pickF rfl rfl rfl rfl ?_ | refine TL.extract rfl rfl rfl rfl ?_ | refine TL.maxI rfl rfl rfl rfl ?_ | refine TL.minI rfl rfl rfl rfl ?_ | refine TL.nilCheckF rfl rfl rfl ?_ | refine TL.nil ?_ | refine T.seqK fun K hK => ?_ | refine T.region ?_ | refine T.condT rfl ?_ | refine T.condF rfl ?_ | refine T.block ?_ | refine T.skip ?_ | refine T.ret ?_ | refine T.exit ?_ | (refine hK _ _ ?_; clear hK K) | clear hK K)
      refine TL.ev rfl rfl (Ev.str rfl hbq16) ?_
      refine TL.ev rfl rfl (Ev.neStr (r := false) rfl rfl (by rw [e1]; simp)) ?_
      repeat (first | refine TL.move rfl rfl rfl ?_ | refine TL.assign rfl rfl rfl ?_ | refine TL.nilCheck rfl rfl rfl ?_ | refine TL.fieldAddr rfl rfl rfl ?_ | refine TL.convI rfl rfl rfl ?_ | refine TL.cmpI rfl rfl rfl rfl rfl ?_ | refine TL.arith rfl rfl rfl rfl rfl ?_ | refine TL.lenS rfl rfl rfl ?_ | refine TL.lenStr rfl rfl rfl ?_ | refine TL.not rfl rfl rfl ?_ | refine TL.skipG rfl rfl ?_ | refine TL.pickT rfl rfl rfl rfl ?_ | refine TL.pickF rfl rfl rfl rfl ?_ | refine TL.extract rfl rfl rfl rfl ?_ | refine TL.maxI rfl rfl rfl rfl ?_ | refine TL.minI rfl rfl rfl rfl ?_ | refine TL.nilCheckF rfl rfl rfl ?_ | refine TL.nil ?_ | refine T.seqK fun K hK => ?_ | refine T.region ?_ | refine T.condT rfl ?_ | refine T.condF rfl ?_ | refine T.block ?_ | refine T.skip ?_ | refine T.ret ?_ | refine T.exit ?_ | (refine hK _ _ ?_; clear hK K) | clear hK K)
      rw [e2]
      repeat (first | refine TL.move rfl rfl rfl ?_ | refine TL.assign rfl rfl rfl ?_ | refine TL.nilCheck rfl rfl rfl ?_ | refine TL.fieldAddr rfl rfl rfl ?_ | refine TL.convI rfl rfl rfl ?_ | refine TL.cmpI rfl rfl rfl rfl rfl ?_ | refine TL.arith rfl rfl rfl rfl rfl ?_ | refine TL.lenS rfl rfl rfl ?_ | refine TL.lenStr rfl rfl rfl ?_ | refine TL.not rfl rfl rfl ?_ | refine TL.skipG rfl rfl ?_ | refine TL.pickT rfl rfl rfl rfl ?_ | refine TL.pickF rfl rfl rfl rfl ?_ | refine TL.extract rfl rfl rfl rfl ?_ | refine TL.maxI rfl rfl rfl rfl ?_ | refine TL.minI rfl rfl rfl rfl ?_ | refine TL.nilCheckF rfl rfl rfl ?_ | refine TL.nil ?_ | refine T.seqK fun K hK => ?_ | refine T.region ?_ | refine T.condT rfl ?_ | refine T.condF rfl ?_ | refine T.block ?_ | refine T.skip ?_ | refine T.ret ?_ | refine T.exit ?_ | (refine hK _ _ ?_; clear hK K) | clear hK K)
      refine ⟨m' - 1, by omega, j + 1, ?_, hw45.trans hw516, by omega⟩
      repeat (first | exact Less.nil _ | refine Less.cons rfl ?_)
      refine Less.cons' rfl (by rw [wr_succ (by omega)]) ?_
      repeat (first | exact Less.nil _ | refine Less.cons rfl ?_)
    | false =>
      have hok2 : (makeO kj o).2 = false := by rw [hm.1, hd]
      obtain ⟨g, hno⟩ : ∃ g, gapO o kj = some g := by
        have := hm.2; rw [hok2] at this
        cases hgo : gapO o kj with
        | none => rw [hgo] at this; cases this
        | some g => exact ⟨g, rfl⟩
      have e1 : gapB o kj = (encG ((gapO o kj).getD gp0)).1 := by rw [gapB, hno]; rfl
      have e2 : (oneF o kj).length = 0 := by rw [oneF, hok2]; rfl
      refine TL.ev rfl rfl (Ev.neB rfl rfl rfl) ?_
      repeat (first | refine TL.move rfl rfl rfl ?_ | refine TL.assign rfl rfl rfl ?_ | refine TL.nilCheck rfl rfl rfl ?_ | refine TL.fieldAddr rfl rfl rfl ?_ | refine TL.convI rfl rfl rfl ?_ | refine TL.cmpI rfl rfl rfl rfl rfl ?_ | refine TL.arith rfl rfl rfl rfl rfl ?_ | refine TL.lenS rfl rfl rfl ?_ | refine TL.lenStr rfl rfl rfl ?_ | refine TL.not rfl rfl rfl ?_ | refine TL.skipG rfl rfl ?_ | refine TL.pickT rfl rfl rfl rfl ?_ | refine TL.pickF rfl rfl rfl rfl ?_ | refine TL.extract rfl rfl rfl rfl ?_ | refine TL.maxI rfl rfl rfl rfl ?_ | refine TL.minI rfl rfl rfl rfl ?_ | refine TL.nilCheckF rfl rfl rfl ?_ | refine TL.nil ?_ | refine T.seqK fun K hK => ?_ | refine T.region ?_ | refine T.condT rfl ?_ | refine T.condF rfl ?_ | refine T.block ?_ | refine T.skip ?_ | refine T.ret ?_ | refine T.exit ?_ | (refine hK _ _ ?_; clear hK K) | clear hK K)
      refine TL.ev rfl rfl (Ev.eqB rfl rfl rfl) ?_
      repeat (first | refine TL.move rfl rfl rfl ?_ | refine TL.assign rfl rfl rfl ?_ | refine TL.nilCheck rfl rfl rfl ?_ | refine TL.fieldAddr rfl rfl rfl ?_ | refine TL.convI rfl rfl rfl ?_ | refine TL.cmpI rfl rfl rfl rfl rfl ?_ | refine TL.arith rfl rfl rfl rfl rfl ?_ | refine TL.lenS rfl rfl rfl ?_ | refine TL.lenStr rfl rfl rfl ?_ | refine TL.not rfl rfl rfl ?_ | refine TL.skipG rfl rfl ?_ | refine TL.pickT rfl rfl rfl rfl ?_ | refine TL.pickF rfl rfl rfl rfl ?_ | refine TL.extract rfl rfl rfl rfl ?_ | refine TL.maxI rfl rfl rfl rfl ?_ | refine TL.minI rfl rfl rfl rfl ?_ | refine TL.nilCheckF rfl rfl rfl ?_ | refine TL.nil ?_ | refine T.seqK fun K hK => ?_ | refine T.region ?_ | refine T.condT rfl ?_ | refine T.condF rfl ?_ | refine T.block ?_ | refine T.skip ?_ | refine T.ret ?_ | refine T.exit ?_ | (refine hK _ _ ?_; clear hK K) | clear hK K)
      refine TL.ev rfl rfl (Ev.str rfl hgap16) ?_
      repeat (first | refine TL.move rfl rfl rfl ?_ | refine TL.assign rfl rfl rfl ?_ | refine TL.nilCheck rfl rfl rfl ?_ | refine TL.fieldAddr rfl rfl rfl ?_ | refine TL.convI rfl rfl rfl ?_ | refine TL.cmpI rfl rfl rfl rfl rfl ?_ | refine TL.arith rfl rfl rfl rfl rfl ?_ | refine TL.lenS rfl rfl rfl ?_ | refine TL.lenStr rfl rfl rfl ?_ | refine TL.not rfl rfl rfl ?_ | refine TL.skipG rfl rfl ?_ | refine TL.pickT rfl rfl rfl rfl ?_ | refine TL.pickF rfl rfl rfl rfl ?_ | refine TL.extract rfl rfl rfl rfl ?_ | refine TL.maxI rfl rfl rfl rfl ?_ | refine TL.minI rfl rfl rfl rfl ?_ | refine TL.nilCheckF rfl rfl rfl ?_ | refine TL.nil ?_ | refine T.seqK fun K hK => ?_ | refine T.region ?_ | refine T.condT rfl ?_ | refine T.condF rfl ?_ | refine T.block ?_ | refine T.skip ?_ | refine T.ret ?_ | refine T.exit ?_ | (refine hK _ _ ?_; clear hK K) | clear hK K)
      refine TL.ev rfl rfl (Ev.str rfl hcq16) ?_
      refine TL.ev rfl rfl (Ev.neStr (r := false) rfl rfl (by rw [e1]; simp)) ?_
      repeat (first | refine TL.move rfl rfl rfl ?_ | refine TL.assign rfl rfl rfl ?_ | refine TL.nilCheck rfl rfl rfl ?_ | refine TL.fieldAddr rfl rfl rfl ?_ | refine TL.convI rfl rfl rfl ?_ | refine TL.cmpI rfl rfl rfl rfl rfl ?_ | refine TL.arith rfl rfl rfl rfl rfl ?_ | refine TL.lenS rfl rfl rfl ?_ | refine TL.lenStr rfl rfl rfl ?_ | refine TL.not rfl rfl rfl ?_ | refine TL.skipG rfl rfl ?_ | refine TL.pickT rfl rfl rfl rfl ?_ | refine TL.pickF rfl rfl rfl rfl ?_ | refine TL.extract rfl rfl rfl rfl ?_ | refine TL.maxI rfl rfl rfl rfl ?_ | refine TL.minI rfl rfl rfl rfl ?_ | refine TL.nilCheckF rfl rfl rfl ?_ | refine TL.nil ?_ | refine T.seqK fun K hK => ?_ | refine T.region ?_ | refine T.condT rfl ?_ | refine T.condF rfl ?_ | refine T.block ?_ | refine T.skip ?_ | refine T.ret ?_ | refine T.exit ?_ | (refine hK _ _ ?_; clear hK K) | clear hK K)
      rw [e2]
      repeat (first | refine TL.move rfl rfl rfl ?_ | refine TL.assign rfl rfl rfl ?_ | refine TL.nilCheck rfl rfl rfl ?_ | refine TL.fieldAddr rfl rfl rfl ?_ | refine TL.convI rfl rfl rfl ?_ | refine TL.cmpI rfl rfl rfl rfl rfl ?_ | refine TL.arith rfl rfl rfl rfl rfl ?_ | refine TL.lenS rfl rfl rfl ?_ | refine TL.lenStr rfl rfl rfl ?_ | refine TL.not rfl rfl rfl ?_ | refine TL.skipG rfl rfl ?_ | refine TL.pickT rfl rfl rfl rfl ?_ | refine TL.pickF rfl rfl rfl rfl ?_ | refine TL.extract rfl rfl rfl rfl ?_ | refine TL.maxI rfl rfl rfl rfl ?_ | refine TL.minI rfl rfl rfl rfl ?_ | refine TL.nilCheckF rfl rfl rfl ?_ | refine TL.nil ?_ | refine T.seqK fun K hK => ?_ | refine T.region ?_ | refine T.condT rfl ?_ | refine T.condF rfl ?_ | refine T.block ?_ | refine T.skip ?_ | refine T.ret ?_ | refine T.exit ?_ | (refine hK _ _ ?_; clear hK K) | clear hK K)
      refine ⟨m' - 1, by omega, j + 1, ?_, hw45.trans hw516, by omega⟩
      repeat (first | exact Less.nil _ | refine Less.cons rfl ?_)
      refine Less.cons' rfl (by rw [wr_succ (by omega)]) ?_
      repeat (first | exact Less.nil _ | refine Less.cons rfl ?_)
  · repeat (first | refine TL.move rfl rfl rfl ?_ | refine TL.assign rfl rfl rfl ?_ | refine TL.nilCheck rfl rfl rfl ?_ | refine TL.fieldAddr rfl rfl rfl ?_ | refine TL.convI rfl rfl rfl ?_ | refine TL.cmpI rfl rfl rfl rfl rfl ?_ | refine TL.arith rfl rfl rfl rfl rfl ?_ | refine TL.lenS rfl rfl rfl ?_ | refine TL.lenStr rfl rfl rfl ?_ | refine TL.not rfl rfl rfl ?_ | refine TL.skipG rfl rfl ?_ | refine TL.pickT rfl rfl rfl rfl ?_ | refine TL.pickF rfl rfl rfl rfl ?_ | refine TL.extract rfl rfl rfl rfl ?_ | refine TL.maxI rfl rfl rfl rfl ?_ | refine TL.minI rfl rfl rfl rfl ?_ | refine TL.nilCheckF rfl rfl rfl ?_ | refine TL.nil ?_ | refine T.seqK fun K hK => ?_ | (refine T.regionO fun ops => ?_) | refine T.condT rfl ?_ | refine T.condF rfl ?_ | refine T.block ?_ | refine T.skip ?_ | refine T.ret ?_ | refine T.exit ?_ | (refine hK _ _ ?_; clear hK K) | clear hK K | clear ops)
    refine TL.call rfl rfl rfl (MMake_ret o tv _ ks w5 (hW2.ext hw25) (IsR.ext hw25 ht) hksr hf hs (by omega)) ?_
    rintro tl w6 ⟨hw56, htl⟩
    refine TL.call rfl rfl rfl (MEncode_ret tl _ w6 htl (by have := makeM_len (o := o) (keys := ks); omega) (makeM_small hsm)) ?_
    rintro _ w7 ⟨hw67, q, rfl, hq⟩
    have hw27 := hw25.trans (hw56.trans hw67)
    repeat (first | refine TL.move rfl rfl rfl ?_ | refine TL.assign rfl rfl rfl ?_ | refine TL.nilCheck rfl rfl rfl ?_ | refine TL.fieldAddr rfl rfl rfl ?_ | refine TL.convI rfl rfl rfl ?_ | refine TL.cmpI rfl rfl rfl rfl rfl ?_ | refine TL.arith rfl rfl rfl rfl rfl ?_ | refine TL.lenS rfl rfl rfl ?_ | refine TL.lenStr rfl rfl rfl ?_ | refine TL.not rfl rfl rfl ?_ | refine TL.skipG rfl rfl ?_ | refine TL.pickT rfl rfl rfl rfl ?_ | refine TL.pickF rfl rfl rfl rfl ?_ | refine TL.extract rfl rfl rfl rfl ?_ | refine TL.maxI rfl rfl rfl rfl ?_ | refine TL.minI rfl rfl rfl rfl ?_ | refine TL.nilCheckF rfl rfl rfl ?_ | refine TL.nil ?_ | refine T.seqK fun K hK => ?_ | (refine T.regionO fun ops => ?_) | refine T.condT rfl ?_ | refine T.condF rfl ?_ | refine T.block ?_ | refine T.skip ?_ | refine T.ret ?_ | refine T.exit ?_ | (refine hK _ _ ?_; clear hK K) | clear hK K | clear ops)
    refine T.drawK 7 Tryd.mixed (by kernel_rfl) fun ops w8 hb8 hh8 K' hK' => ?_
    have hw28 := hw27.trans hb8
    simp only [List.take_succ_cons, List.take_zero]
    repeat (refine DR.v _ rfl (fun w' σ he => by first | exact Ev.move rfl | exact Ev.nilCheck rfl | exact Ev.fieldAddr rfl) ?_)
    refine DR.a (fun u w' => B0 w' u (encM (makeM o ks)).1) (fun u w1 w2 h e => By.ext h e) (fun w' σ he hσ => ?_) ?_
    · refine TL.call rfl rfl rfl (Many_ret o tv _ ks w' (hW2.ext (hw28.trans he)) (IsR.ext (hw28.trans he) ht) (hksr.ext (hw56.trans (hw67.trans (Ext.trans hb8 he)))) hf hs (by omega) hsm) ?_
      rintro u w'' ⟨g1, g2⟩
      exact TL.nil ⟨g1, u, rfl, g2⟩
    refine DR.vT (.string (bs (encM (makeM o ks)).1)) (fun w' σ he hσ => TL.ev rfl rfl (Ev.str rfl (hσ.get 150 rfl)) (TL.nil ⟨Ext.refl _, rfl⟩)) ?_
    repeat (refine DR.v _ rfl (fun w' σ he => by first | exact Ev.move rfl | exact Ev.nilCheck rfl | exact Ev.fieldAddr rfl) ?_)
    refine DR.v (.string (bs (encM (makeM o ks)).1)) rfl (fun w' σ he => Ev.str rfl (By.ext hq (Ext.trans hb8 he))) ?_
    refine DR.v (.bool true) rfl (fun w' σ he => Ev.eqStr rfl rfl (by simp)) ?_
    refine DR.nil (hK' _ fun w9 σ he hσ => ?_)
    simp only [List.drop_succ_cons, List.drop_zero]
    clear hK' K'
    refine TL.assign rfl rfl rfl ?_
    repeat (first | refine TL.move rfl rfl rfl ?_ | refine TL.assign rfl rfl rfl ?_ | refine TL.nilCheck rfl rfl rfl ?_ | refine TL.fieldAddr rfl rfl rfl ?_ | refine TL.convI rfl rfl rfl ?_ | refine TL.cmpI rfl rfl rfl rfl rfl ?_ | refine TL.arith rfl rfl rfl rfl rfl ?_ | refine TL.lenS rfl rfl rfl ?_ | refine TL.lenStr rfl rfl rfl ?_ | refine TL.not rfl rfl rfl ?_ | refine TL.skipG rfl rfl ?_ | refine TL.pickT rfl rfl rfl rfl ?_ | refine TL.pickF rfl rfl rfl rfl ?_ | refine TL.extract rfl rfl rfl rfl ?_ | refine TL.maxI rfl rfl rfl rfl ?_ | refine TL.minI rfl rfl rfl rfl ?_ | refine TL.nilCheckF rfl rfl rfl ?_ | refine TL.nil ?_ | refine T.seqK fun K hK => ?_ | (refine T.regionO fun ops => ?_) | refine T.condT rfl ?_ | refine T.condF rfl ?_ | refine T.block ?_ | refine T.skip ?_ | refine T.ret ?_ | refine T.exit ?_ | (refine hK _ _ ?_; clear hK K) | clear hK K | clear ops)
    exact ⟨_, rfl, rfl, hw2.trans (hw28.trans he)⟩
end Go.Proofs
