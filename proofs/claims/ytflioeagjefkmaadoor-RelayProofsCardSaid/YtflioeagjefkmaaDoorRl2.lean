/- What the lists of package relay come to at the events of its chapter's example. Conditions: as each theorem says. -/
import Derived.Test.YtflioeagjefkmaaDoorRel
import Derived.Test.YtflioeagjefkmaaDoorPcs
set_option linter.all false
namespace Go.Proofs
open Go.Fw Go.RowKit
attribute [local irreducible] TL T TS Ev Ret

set_option maxRecDepth 20000 in
set_option maxHeartbeats 1000000 in
theorem keepE_ret (v f : Value) (es : List (Nat × Bool)) (g : (Nat × Bool) → Bool) (w : World) (hl : Lsr evE Any w v es) (hf : AnsL Tryd.prog evE f w g) (hn : es.length ≤ 2 ^ 36) :
    Ret Tryd.prog 98 #[v, f] w fun u w' => Ext w w' ∧ Lsr evE Any w' u (es.filter g) := by
  obtain ⟨fi, fs, cs, rfl, hcal, hans⟩ := hf
  obtain ⟨va, vc, rfl, _⟩ := hl.shape
  refine Ret.of_T Tryd.func98 rfl Tryd.ntmps98 Tryd.results98 rfl ?_
  repeat (first | refine TL.move rfl rfl rfl ?_ | refine TL.assign rfl rfl rfl ?_ | refine TL.nilCheck rfl rfl rfl ?_ | refine TL.fieldAddr rfl rfl rfl ?_ | refine TL.convI rfl rfl rfl ?_ | refine TL.cmpI rfl rfl rfl rfl rfl ?_ | refine TL.arith rfl rfl rfl rfl rfl ?_ | refine TL.lenS rfl rfl rfl ?_ | refine TL.lenStr rfl rfl rfl ?_ | refine TL.not rfl rfl rfl ?_ | refine TL.skipG rfl rfl ?_ | refine TL.pickT rfl rfl rfl rfl ?_ | refine TL.pickF rfl rfl rfl rfl ?_ | refine TL.extract rfl rfl rfl rfl ?_ | refine TL.maxI rfl rfl rfl rfl ?_ | refine TL.minI rfl rfl rfl rfl ?_ | refine TL.nilCheckF rfl rfl rfl ?_ | refine TL.nil ?_ | refine T.seqK fun K hK => ?_ | (refine T.regionO fun ops => ?_) | refine T.condT rfl ?_ | refine T.condF rfl ?_ | refine T.block ?_ | refine T.skip ?_ | refine T.ret ?_ | refine T.exit ?_ | (refine hK _ _ ?_; clear hK K) | clear hK K | clear ops)
  refine T.loop (fun m L w' => ∃ (k : Nat) (ov : Value), Less [(1, .func (.func fi) fs cs), (5, ov), (8, .slice va es.length vc), (9, .int .i64 es.length), (10, .int .i64 k)] L ∧ Lst evE w.heap.size w w' 90 ov ((es.take k).filter g) ∧ k + m = es.length) es.length
    ⟨0, nils, (by repeat (first | exact Less.nil _ | refine Less.cons rfl ?_)), Lst.nil _ _ _ (Below.refl _ _) (Nat.le_refl _) _, by omega⟩ ?_
  rintro m L w1 ⟨k, ov, hL, ho, hkm⟩
  refine T.sub hL ?_
  have hw1 : Ext w w1 := ho.below
  have hol : ((es.take k).filter g).length ≤ k := Nat.le_trans (List.length_filter_le _ _) (by simp; omega)
  repeat (first | refine TL.move rfl rfl rfl ?_ | refine TL.assign rfl rfl rfl ?_ | refine TL.nilCheck rfl rfl rfl ?_ | refine TL.fieldAddr rfl rfl rfl ?_ | refine TL.convI rfl rfl rfl ?_ | refine TL.cmpI rfl rfl rfl rfl rfl ?_ | refine TL.arith rfl rfl rfl rfl rfl ?_ | refine TL.lenS rfl rfl rfl ?_ | refine TL.lenStr rfl rfl rfl ?_ | refine TL.not rfl rfl rfl ?_ | refine TL.skipG rfl rfl ?_ | refine TL.pickT rfl rfl rfl rfl ?_ | refine TL.pickF rfl rfl rfl rfl ?_ | refine TL.extract rfl rfl rfl rfl ?_ | refine TL.maxI rfl rfl rfl rfl ?_ | refine TL.minI rfl rfl rfl rfl ?_ | refine TL.nilCheckF rfl rfl rfl ?_ | refine TL.nil ?_ | refine T.seqK fun K hK => ?_ | (refine T.regionO fun ops => ?_) | refine T.condT rfl ?_ | refine T.condF rfl ?_ | refine T.block ?_ | refine T.skip ?_ | refine T.ret ?_ | refine T.exit ?_ | (refine hK _ _ ?_; clear hK K) | clear hK K | clear ops)
  refine T.cond rfl (fun hc => ?_) (fun hc => ?_)
  · have hk' : k < es.length := by simpa using hc
    obtain ⟨y, hy⟩ : ∃ y, es[k]? = some y := ⟨_, List.getElem?_eq_getElem hk'⟩
    obtain ⟨g1, g2⟩ := List.getElem?_eq_some_iff.1 hy
    have htk : es.take (k + 1) = es.take k ++ [y] := by rw [List.take_succ_eq_append_getElem g1, g2]
    repeat (first | refine TL.move rfl rfl rfl ?_ | refine TL.assign rfl rfl rfl ?_ | refine TL.nilCheck rfl rfl rfl ?_ | refine TL.fieldAddr rfl rfl rfl ?_ | refine TL.convI rfl rfl rfl ?_ | refine TL.cmpI rfl rfl rfl rfl rfl ?_ | refine TL.arith rfl rfl rfl rfl rfl ?_ | refine TL.lenS rfl rfl rfl ?_ | refine TL.lenStr rfl rfl rfl ?_ | refine TL.not rfl rfl rfl ?_ | refine TL.skipG rfl rfl ?_ | refine TL.pickT rfl rfl rfl rfl ?_ | refine TL.pickF rfl rfl rfl rfl ?_ | refine TL.extract rfl rfl rfl rfl ?_ | refine TL.maxI rfl rfl rfl rfl ?_ | refine TL.minI rfl rfl rfl rfl ?_ | refine TL.nilCheckF rfl rfl rfl ?_ | refine TL.nil ?_ | refine T.seqK fun K hK => ?_ | (refine T.regionO fun ops => ?_) | refine T.condT rfl ?_ | refine T.condF rfl ?_ | refine T.block ?_ | refine T.skip ?_ | refine T.ret ?_ | refine T.exit ?_ | (refine hK _ _ ?_; clear hK K) | clear hK K | clear ops)
    refine TL.elemE (E := evE) rfl rfl (fun _ => rfl) rfl rfl rfl rfl (hl.ext hw1) rfl hy rfl fun pp us hus => ?_
    refine TL.alloc rfl rfl fun b7 w2 hal => ?_
    have hz : Row w2 b7 E0 90 (0, 0) := hal.at_
    have hul := evE.len hus
    refine TL.storeRA (A := []) (C := []) (old := E0) (xs := us) rfl rfl rfl (by simpa using hz) rfl (by simp [Value.cells]) (by rw [hul]; rfl) (by rw [hul]; rfl) (evE.one hus) fun w3 hg3 h7 hs3 => ?_
    simp only [List.nil_append, List.append_nil] at h7
    have hw13 : Ext w1 w3 := Below.trans hal.below (below_grown hg3 (by rw [hal.num]; exact Nat.le_refl _) hal.below.size)
    clear hal hz hg3 hs3
    repeat (first | refine TL.move rfl rfl rfl ?_ | refine TL.assign rfl rfl rfl ?_ | refine TL.nilCheck rfl rfl rfl ?_ | refine TL.fieldAddr rfl rfl rfl ?_ | refine TL.convI rfl rfl rfl ?_ | refine TL.cmpI rfl rfl rfl rfl rfl ?_ | refine TL.arith rfl rfl rfl rfl rfl ?_ | refine TL.lenS rfl rfl rfl ?_ | refine TL.lenStr rfl rfl rfl ?_ | refine TL.not rfl rfl rfl ?_ | refine TL.skipG rfl rfl ?_ | refine TL.pickT rfl rfl rfl rfl ?_ | refine TL.pickF rfl rfl rfl rfl ?_ | refine TL.extract rfl rfl rfl rfl ?_ | refine TL.maxI rfl rfl rfl rfl ?_ | refine TL.minI rfl rfl rfl rfl ?_ | refine TL.nilCheckF rfl rfl rfl ?_ | refine TL.nil ?_ | refine T.seqK fun K hK => ?_ | (refine T.regionO fun ops => ?_) | refine T.condT rfl ?_ | refine T.condF rfl ?_ | refine T.block ?_ | refine T.skip ?_ | refine T.ret ?_ | refine T.exit ?_ | (refine hK _ _ ?_; clear hK K) | clear hK K | clear ops)
    refine TL.ev rfl rfl (Ev.loadRA (xs := us) rfl h7 (List.take_of_length_le (Nat.le_of_eq hul)) hul) ?_
    refine TL.callV (vs := [.agg us.toArray]) rfl rfl rfl rfl (hans w3 y us (hw1.trans hw13) hus) ?_
    rintro _ w4 ⟨rfl, hw34⟩
    have hw14 : Ext w1 w4 := hw13.trans hw34
    repeat (first | refine TL.move rfl rfl rfl ?_ | refine TL.assign rfl rfl rfl ?_ | refine TL.nilCheck rfl rfl rfl ?_ | refine TL.fieldAddr rfl rfl rfl ?_ | refine TL.convI rfl rfl rfl ?_ | refine TL.cmpI rfl rfl rfl rfl rfl ?_ | refine TL.arith rfl rfl rfl rfl rfl ?_ | refine TL.lenS rfl rfl rfl ?_ | refine TL.lenStr rfl rfl rfl ?_ | refine TL.not rfl rfl rfl ?_ | refine TL.skipG rfl rfl ?_ | refine TL.pickT rfl rfl rfl rfl ?_ | refine TL.pickF rfl rfl rfl rfl ?_ | refine TL.extract rfl rfl rfl rfl ?_ | refine TL.maxI rfl rfl rfl rfl ?_ | refine TL.minI rfl rfl rfl rfl ?_ | refine TL.nilCheckF rfl rfl rfl ?_ | refine TL.nil ?_ | refine T.seqK fun K hK => ?_ | (refine T.regionO fun ops => ?_) | refine T.condT rfl ?_ | refine T.condF rfl ?_ | refine T.block ?_ | refine T.skip ?_ | refine T.ret ?_ | refine T.exit ?_ | (refine hK _ _ ?_; clear hK K) | clear hK K | clear ops)
    refine T.cond rfl (fun hd => ?_) (fun hd => ?_)
    · repeat (first | refine TL.move rfl rfl rfl ?_ | refine TL.assign rfl rfl rfl ?_ | refine TL.nilCheck rfl rfl rfl ?_ | refine TL.fieldAddr rfl rfl rfl ?_ | refine TL.convI rfl rfl rfl ?_ | refine TL.cmpI rfl rfl rfl rfl rfl ?_ | refine TL.arith rfl rfl rfl rfl rfl ?_ | refine TL.lenS rfl rfl rfl ?_ | refine TL.lenStr rfl rfl rfl ?_ | refine TL.not rfl rfl rfl ?_ | refine TL.skipG rfl rfl ?_ | refine TL.pickT rfl rfl rfl rfl ?_ | refine TL.pickF rfl rfl rfl rfl ?_ | refine TL.extract rfl rfl rfl rfl ?_ | refine TL.maxI rfl rfl rfl rfl ?_ | refine TL.minI rfl rfl rfl rfl ?_ | refine TL.nilCheckF rfl rfl rfl ?_ | refine TL.nil ?_ | refine T.seqK fun K hK => ?_ | (refine T.regionO fun ops => ?_) | refine T.condT rfl ?_ | refine T.condF rfl ?_ | refine T.block ?_ | refine T.skip ?_ | refine T.ret ?_ | refine T.exit ?_ | (refine hK _ _ ?_; clear hK K) | clear hK K | clear ops)
      refine TL.ev rfl rfl (Ev.loadRA (xs := us) rfl (h7.keepA hw34) (List.take_of_length_le (Nat.le_of_eq hul)) hul) ?_
      refine TL.push1 (E := evE) (a := y) rfl rfl rfl (fun _ => rfl) rfl (fun _ => rfl) rfl (ho.keep hw14) hus rfl rfl (by omega) (by unfold maxLen; omega) fun u v' w5 h5 _ _ => ?_
      repeat (first | refine TL.move rfl rfl rfl ?_ | refine TL.assign rfl rfl rfl ?_ | refine TL.nilCheck rfl rfl rfl ?_ | refine TL.fieldAddr rfl rfl rfl ?_ | refine TL.convI rfl rfl rfl ?_ | refine TL.cmpI rfl rfl rfl rfl rfl ?_ | refine TL.arith rfl rfl rfl rfl rfl ?_ | refine TL.lenS rfl rfl rfl ?_ | refine TL.lenStr rfl rfl rfl ?_ | refine TL.not rfl rfl rfl ?_ | refine TL.skipG rfl rfl ?_ | refine TL.pickT rfl rfl rfl rfl ?_ | refine TL.pickF rfl rfl rfl rfl ?_ | refine TL.extract rfl rfl rfl rfl ?_ | refine TL.maxI rfl rfl rfl rfl ?_ | refine TL.minI rfl rfl rfl rfl ?_ | refine TL.nilCheckF rfl rfl rfl ?_ | refine TL.nil ?_ | refine T.seqK fun K hK => ?_ | (refine T.regionO fun ops => ?_) | refine T.condT rfl ?_ | refine T.condF rfl ?_ | refine T.block ?_ | refine T.skip ?_ | refine T.ret ?_ | refine T.exit ?_ | (refine hK _ _ ?_; clear hK K) | clear hK K | clear ops)
      refine ⟨m - 1, by omega, k + 1, v', ?_, ?_, by omega⟩
      · repeat (first | exact Less.nil _ | refine Less.cons rfl ?_)
        refine Less.cons' rfl (by rw [wr_succ (by omega)]) ?_
        repeat (first | exact Less.nil _ | refine Less.cons rfl ?_)
      · have e : (es.take (k + 1)).filter g = (es.take k).filter g ++ [y] := by rw [htk, List.filter_append]; simp only [List.filter_cons, hd, List.filter_nil]; rfl
        rw [e]; exact h5
    · repeat (first | refine TL.move rfl rfl rfl ?_ | refine TL.assign rfl rfl rfl ?_ | refine TL.nilCheck rfl rfl rfl ?_ | refine TL.fieldAddr rfl rfl rfl ?_ | refine TL.convI rfl rfl rfl ?_ | refine TL.cmpI rfl rfl rfl rfl rfl ?_ | refine TL.arith rfl rfl rfl rfl rfl ?_ | refine TL.lenS rfl rfl rfl ?_ | refine TL.lenStr rfl rfl rfl ?_ | refine TL.not rfl rfl rfl ?_ | refine TL.skipG rfl rfl ?_ | refine TL.pickT rfl rfl rfl rfl ?_ | refine TL.pickF rfl rfl rfl rfl ?_ | refine TL.extract rfl rfl rfl rfl ?_ | refine TL.maxI rfl rfl rfl rfl ?_ | refine TL.minI rfl rfl rfl rfl ?_ | refine TL.nilCheckF rfl rfl rfl ?_ | refine TL.nil ?_ | refine T.seqK fun K hK => ?_ | (refine T.regionO fun ops => ?_) | refine T.condT rfl ?_ | refine T.condF rfl ?_ | refine T.block ?_ | refine T.skip ?_ | refine T.ret ?_ | refine T.exit ?_ | (refine hK _ _ ?_; clear hK K) | clear hK K | clear ops)
      refine ⟨m - 1, by omega, k + 1, ov, ?_, ?_, by omega⟩
      · repeat (first | exact Less.nil _ | refine Less.cons rfl ?_)
        refine Less.cons' rfl (by rw [wr_succ (by omega)]) ?_
        repeat (first | exact Less.nil _ | refine Less.cons rfl ?_)
      · have e : (es.take (k + 1)).filter g = (es.take k).filter g := by rw [htk, List.filter_append]; simp only [List.filter_cons, hd, List.filter_nil]; simp
        rw [e]; exact ho.keep hw14
  · have hk' : k = es.length := by simp at hc; omega
    have ho' := ho.lsr
    repeat (first | refine TL.move rfl rfl rfl ?_ | refine TL.assign rfl rfl rfl ?_ | refine TL.nilCheck rfl rfl rfl ?_ | refine TL.fieldAddr rfl rfl rfl ?_ | refine TL.convI rfl rfl rfl ?_ | refine TL.cmpI rfl rfl rfl rfl rfl ?_ | refine TL.arith rfl rfl rfl rfl rfl ?_ | refine TL.lenS rfl rfl rfl ?_ | refine TL.lenStr rfl rfl rfl ?_ | refine TL.not rfl rfl rfl ?_ | refine TL.skipG rfl rfl ?_ | refine TL.pickT rfl rfl rfl rfl ?_ | refine TL.pickF rfl rfl rfl rfl ?_ | refine TL.extract rfl rfl rfl rfl ?_ | refine TL.maxI rfl rfl rfl rfl ?_ | refine TL.minI rfl rfl rfl rfl ?_ | refine TL.nilCheckF rfl rfl rfl ?_ | refine TL.nil ?_ | refine T.seqK fun K hK => ?_ | (refine T.regionO fun ops => ?_) | refine T.condT rfl ?_ | refine T.condF rfl ?_ | refine T.block ?_ | refine T.skip ?_ | refine T.ret ?_ | refine T.exit ?_ | (refine hK _ _ ?_; clear hK K) | clear hK K | clear ops)
    refine ⟨_, rfl, hw1, ?_⟩
    rw [hk', List.take_length] at ho'
    exact ho'

set_option maxRecDepth 20000 in
set_option maxHeartbeats 1000000 in
theorem keepP_ret (v f : Value) (es : List Unit) (g : Unit → Bool) (w : World) (hl : Lsr pkE Any w v es) (hf : AnsL Tryd.prog pkE f w g) (hn : es.length ≤ 2 ^ 36) :
    Ret Tryd.prog 68 #[v, f] w fun u w' => Ext w w' ∧ Lsr pkE Any w' u (es.filter g) := by
  obtain ⟨fi, fs, cs, rfl, hcal, hans⟩ := hf
  obtain ⟨va, vc, rfl, _⟩ := hl.shape
  refine Ret.of_T Tryd.func68 rfl Tryd.ntmps68 Tryd.results68 rfl ?_
  repeat (first | refine TL.move rfl rfl rfl ?_ | refine TL.assign rfl rfl rfl ?_ | refine TL.nilCheck rfl rfl rfl ?_ | refine TL.fieldAddr rfl rfl rfl ?_ | refine TL.convI rfl rfl rfl ?_ | refine TL.cmpI rfl rfl rfl rfl rfl ?_ | refine TL.arith rfl rfl rfl rfl rfl ?_ | refine TL.lenS rfl rfl rfl ?_ | refine TL.lenStr rfl rfl rfl ?_ | refine TL.not rfl rfl rfl ?_ | refine TL.skipG rfl rfl ?_ | refine TL.pickT rfl rfl rfl rfl ?_ | refine TL.pickF rfl rfl rfl rfl ?_ | refine TL.extract rfl rfl rfl rfl ?_ | refine TL.maxI rfl rfl rfl rfl ?_ | refine TL.minI rfl rfl rfl rfl ?_ | refine TL.nilCheckF rfl rfl rfl ?_ | refine TL.nil ?_ | refine T.seqK fun K hK => ?_ | (refine T.regionO fun ops => ?_) | refine T.condT rfl ?_ | refine T.condF rfl ?_ | refine T.block ?_ | refine T.skip ?_ | refine T.ret ?_ | refine T.exit ?_ | (refine hK _ _ ?_; clear hK K) | clear hK K | clear ops)
  refine T.loop (fun m L w' => ∃ (k : Nat) (ov : Value), Less [(1, .func (.func fi) fs cs), (5, ov), (8, .slice va es.length vc), (9, .int .i64 es.length), (10, .int .i64 k)] L ∧ Lst pkE w.heap.size w w' 85 ov ((es.take k).filter g) ∧ k + m = es.length) es.length
    ⟨0, nils, (by repeat (first | exact Less.nil _ | refine Less.cons rfl ?_)), Lst.nil _ _ _ (Below.refl _ _) (Nat.le_refl _) _, by omega⟩ ?_
  rintro m L w1 ⟨k, ov, hL, ho, hkm⟩
  refine T.sub hL ?_
  have hw1 : Ext w w1 := ho.below
  have hol : ((es.take k).filter g).length ≤ k := Nat.le_trans (List.length_filter_le _ _) (by simp; omega)
  repeat (first | refine TL.move rfl rfl rfl ?_ | refine TL.assign rfl rfl rfl ?_ | refine TL.nilCheck rfl rfl rfl ?_ | refine TL.fieldAddr rfl rfl rfl ?_ | refine TL.convI rfl rfl rfl ?_ | refine TL.cmpI rfl rfl rfl rfl rfl ?_ | refine TL.arith rfl rfl rfl rfl rfl ?_ | refine TL.lenS rfl rfl rfl ?_ | refine TL.lenStr rfl rfl rfl ?_ | refine TL.not rfl rfl rfl ?_ | refine TL.skipG rfl rfl ?_ | refine TL.pickT rfl rfl rfl rfl ?_ | refine TL.pickF rfl rfl rfl rfl ?_ | refine TL.extract rfl rfl rfl rfl ?_ | refine TL.maxI rfl rfl rfl rfl ?_ | refine TL.minI rfl rfl rfl rfl ?_ | refine TL.nilCheckF rfl rfl rfl ?_ | refine TL.nil ?_ | refine T.seqK fun K hK => ?_ | (refine T.regionO fun ops => ?_) | refine T.condT rfl ?_ | refine T.condF rfl ?_ | refine T.block ?_ | refine T.skip ?_ | refine T.ret ?_ | refine T.exit ?_ | (refine hK _ _ ?_; clear hK K) | clear hK K | clear ops)
  refine T.cond rfl (fun hc => ?_) (fun hc => ?_)
  · have hk' : k < es.length := by simpa using hc
    obtain ⟨y, hy⟩ : ∃ y, es[k]? = some y := ⟨_, List.getElem?_eq_getElem hk'⟩
    obtain ⟨g1, g2⟩ := List.getElem?_eq_some_iff.1 hy
    have htk : es.take (k + 1) = es.take k ++ [y] := by rw [List.take_succ_eq_append_getElem g1, g2]
    repeat (first | refine TL.move rfl rfl rfl ?_ | refine TL.assign rfl rfl rfl ?_ | refine TL.nilCheck rfl rfl rfl ?_ | refine TL.fieldAddr rfl rfl rfl ?_ | refine TL.convI rfl rfl rfl ?_ | refine TL.cmpI rfl rfl rfl rfl rfl ?_ | refine TL.arith rfl rfl rfl rfl rfl ?_ | refine TL.lenS rfl rfl rfl ?_ | refine TL.lenStr rfl rfl rfl ?_ | refine TL.not rfl rfl rfl ?_ | refine TL.skipG rfl rfl ?_ | refine TL.pickT rfl rfl rfl rfl ?_ | refine TL.pickF rfl rfl rfl rfl ?_ | refine TL.extract rfl rfl rfl rfl ?_ | refine TL.maxI rfl rfl rfl rfl ?_ | refine TL.minI rfl rfl rfl rfl ?_ | refine TL.nilCheckF rfl rfl rfl ?_ | refine TL.nil ?_ | refine T.seqK fun K hK => ?_ | (refine T.regionO fun ops => ?_) | refine T.condT rfl ?_ | refine T.condF rfl ?_ | refine T.block ?_ | refine T.skip ?_ | refine T.ret ?_ | refine T.exit ?_ | (refine hK _ _ ?_; clear hK K) | clear hK K | clear ops)
    refine TL.elemE (E := pkE) rfl rfl (fun _ => rfl) rfl rfl rfl rfl (hl.ext hw1) rfl hy rfl fun pp us hus => ?_
    refine TL.alloc rfl rfl fun b7 w2 hal => ?_
    have hz : Row w2 b7 [.int .i64 0, .int .u64 0, .int .u64 0, .string ⟨#[]⟩, .int .u64 0, .string ⟨#[]⟩, .string ⟨#[]⟩] 85 (0, 0) := hal.at_
    have hul := pkE.len hus
    refine TL.storeRA (A := []) (C := []) (old := [.int .i64 0, .int .u64 0, .int .u64 0, .string ⟨#[]⟩, .int .u64 0, .string ⟨#[]⟩, .string ⟨#[]⟩]) (xs := us) rfl rfl rfl (by simpa using hz) rfl (by simp [Value.cells]) (by rw [hul]; rfl) (by rw [hul]; rfl) (pkE.one hus) fun w3 hg3 h7 hs3 => ?_
    simp only [List.nil_append, List.append_nil] at h7
    have hw13 : Ext w1 w3 := Below.trans hal.below (below_grown hg3 (by rw [hal.num]; exact Nat.le_refl _) hal.below.size)
    clear hal hz hg3 hs3
    repeat (first | refine TL.move rfl rfl rfl ?_ | refine TL.assign rfl rfl rfl ?_ | refine TL.nilCheck rfl rfl rfl ?_ | refine TL.fieldAddr rfl rfl rfl ?_ | refine TL.convI rfl rfl rfl ?_ | refine TL.cmpI rfl rfl rfl rfl rfl ?_ | refine TL.arith rfl rfl rfl rfl rfl ?_ | refine TL.lenS rfl rfl rfl ?_ | refine TL.lenStr rfl rfl rfl ?_ | refine TL.not rfl rfl rfl ?_ | refine TL.skipG rfl rfl ?_ | refine TL.pickT rfl rfl rfl rfl ?_ | refine TL.pickF rfl rfl rfl rfl ?_ | refine TL.extract rfl rfl rfl rfl ?_ | refine TL.maxI rfl rfl rfl rfl ?_ | refine TL.minI rfl rfl rfl rfl ?_ | refine TL.nilCheckF rfl rfl rfl ?_ | refine TL.nil ?_ | refine T.seqK fun K hK => ?_ | (refine T.regionO fun ops => ?_) | refine T.condT rfl ?_ | refine T.condF rfl ?_ | refine T.block ?_ | refine T.skip ?_ | refine T.ret ?_ | refine T.exit ?_ | (refine hK _ _ ?_; clear hK K) | clear hK K | clear ops)
    refine TL.ev rfl rfl (Ev.loadRA (xs := us) rfl h7 (List.take_of_length_le (Nat.le_of_eq hul)) hul) ?_
    refine TL.callV (vs := [.agg us.toArray]) rfl rfl rfl rfl (hans w3 y us (hw1.trans hw13) hus) ?_
    rintro _ w4 ⟨rfl, hw34⟩
    have hw14 : Ext w1 w4 := hw13.trans hw34
    repeat (first | refine TL.move rfl rfl rfl ?_ | refine TL.assign rfl rfl rfl ?_ | refine TL.nilCheck rfl rfl rfl ?_ | refine TL.fieldAddr rfl rfl rfl ?_ | refine TL.convI rfl rfl rfl ?_ | refine TL.cmpI rfl rfl rfl rfl rfl ?_ | refine TL.arith rfl rfl rfl rfl rfl ?_ | refine TL.lenS rfl rfl rfl ?_ | refine TL.lenStr rfl rfl rfl ?_ | refine TL.not rfl rfl rfl ?_ | refine TL.skipG rfl rfl ?_ | refine TL.pickT rfl rfl rfl rfl ?_ | refine TL.pickF rfl rfl rfl rfl ?_ | refine TL.extract rfl rfl rfl rfl ?_ | refine TL.maxI rfl rfl rfl rfl ?_ | refine TL.minI rfl rfl rfl rfl ?_ | refine TL.nilCheckF rfl rfl rfl ?_ | refine TL.nil ?_ | refine T.seqK fun K hK => ?_ | (refine T.regionO fun ops => ?_) | refine T.condT rfl ?_ | refine T.condF rfl ?_ | refine T.block ?_ | refine T.skip ?_ | refine T.ret ?_ | refine T.exit ?_ | (refine hK _ _ ?_; clear hK K) | clear hK K | clear ops)
    refine T.cond rfl (fun hd => ?_) (fun hd => ?_)
    · repeat (first | refine TL.move rfl rfl rfl ?_ | refine TL.assign rfl rfl rfl ?_ | refine TL.nilCheck rfl rfl rfl ?_ | refine TL.fieldAddr rfl rfl rfl ?_ | refine TL.convI rfl rfl rfl ?_ | refine TL.cmpI rfl rfl rfl rfl rfl ?_ | refine TL.arith rfl rfl rfl rfl rfl ?_ | refine TL.lenS rfl rfl rfl ?_ | refine TL.lenStr rfl rfl rfl ?_ | refine TL.not rfl rfl rfl ?_ | refine TL.skipG rfl rfl ?_ | refine TL.pickT rfl rfl rfl rfl ?_ | refine TL.pickF rfl rfl rfl rfl ?_ | refine TL.extract rfl rfl rfl rfl ?_ | refine TL.maxI rfl rfl rfl rfl ?_ | refine TL.minI rfl rfl rfl rfl ?_ | refine TL.nilCheckF rfl rfl rfl ?_ | refine TL.nil ?_ | refine T.seqK fun K hK => ?_ | (refine T.regionO fun ops => ?_) | refine T.condT rfl ?_ | refine T.condF rfl ?_ | refine T.block ?_ | refine T.skip ?_ | refine T.ret ?_ | refine T.exit ?_ | (refine hK _ _ ?_; clear hK K) | clear hK K | clear ops)
      refine TL.ev rfl rfl (Ev.loadRA (xs := us) rfl (h7.keepA hw34) (List.take_of_length_le (Nat.le_of_eq hul)) hul) ?_
      refine TL.push1 (E := pkE) (a := y) rfl rfl rfl (fun _ => rfl) rfl (fun _ => rfl) rfl (ho.keep hw14) hus rfl rfl (by omega) (by unfold maxLen; omega) fun u v' w5 h5 _ _ => ?_
      repeat (first | refine TL.move rfl rfl rfl ?_ | refine TL.assign rfl rfl rfl ?_ | refine TL.nilCheck rfl rfl rfl ?_ | refine TL.fieldAddr rfl rfl rfl ?_ | refine TL.convI rfl rfl rfl ?_ | refine TL.cmpI rfl rfl rfl rfl rfl ?_ | refine TL.arith rfl rfl rfl rfl rfl ?_ | refine TL.lenS rfl rfl rfl ?_ | refine TL.lenStr rfl rfl rfl ?_ | refine TL.not rfl rfl rfl ?_ | refine TL.skipG rfl rfl ?_ | refine TL.pickT rfl rfl rfl rfl ?_ | refine TL.pickF rfl rfl rfl rfl ?_ | refine TL.extract rfl rfl rfl rfl ?_ | refine TL.maxI rfl rfl rfl rfl ?_ | refine TL.minI rfl rfl rfl rfl ?_ | refine TL.nilCheckF rfl rfl rfl ?_ | refine TL.nil ?_ | refine T.seqK fun K hK => ?_ | (refine T.regionO fun ops => ?_) | refine T.condT rfl ?_ | refine T.condF rfl ?_ | refine T.block ?_ | refine T.skip ?_ | refine T.ret ?_ | refine T.exit ?_ | (refine hK _ _ ?_; clear hK K) | clear hK K | clear ops)
      refine ⟨m - 1, by omega, k + 1, v', ?_, ?_, by omega⟩
      · repeat (first | exact Less.nil _ | refine Less.cons rfl ?_)
        refine Less.cons' rfl (by rw [wr_succ (by omega)]) ?_
        repeat (first | exact Less.nil _ | refine Less.cons rfl ?_)
      · have e : (es.take (k + 1)).filter g = (es.take k).filter g ++ [y] := by rw [htk, List.filter_append]; simp only [List.filter_cons, hd, List.filter_nil]; rfl
        rw [e]; exact h5
    · repeat (first | refine TL.move rfl rfl rfl ?_ | refine TL.assign rfl rfl rfl ?_ | refine TL.nilCheck rfl rfl rfl ?_ | refine TL.fieldAddr rfl rfl rfl ?_ | refine TL.convI rfl rfl rfl ?_ | refine TL.cmpI rfl rfl rfl rfl rfl ?_ | refine TL.arith rfl rfl rfl rfl rfl ?_ | refine TL.lenS rfl rfl rfl ?_ | refine TL.lenStr rfl rfl rfl ?_ | refine TL.not rfl rfl rfl ?_ | refine TL.skipG rfl rfl ?_ | refine TL.pickT rfl rfl rfl rfl ?_ | refine TL.pickF rfl rfl rfl rfl ?_ | refine TL.extract rfl rfl rfl rfl ?_ | refine TL.maxI rfl rfl rfl rfl ?_ | refine TL.minI rfl rfl rfl rfl ?_ | refine TL.nilCheckF rfl rfl rfl ?_ | refine TL.nil ?_ | refine T.seqK fun K hK => ?_ | (refine T.regionO fun ops => ?_) | refine T.condT rfl ?_ | refine T.condF rfl ?_ | refine T.block ?_ | refine T.skip ?_ | refine T.ret ?_ | refine T.exit ?_ | (refine hK _ _ ?_; clear hK K) | clear hK K | clear ops)
      refine ⟨m - 1, by omega, k + 1, ov, ?_, ?_, by omega⟩
      · repeat (first | exact Less.nil _ | refine Less.cons rfl ?_)
        refine Less.cons' rfl (by rw [wr_succ (by omega)]) ?_
        repeat (first | exact Less.nil _ | refine Less.cons rfl ?_)
      · have e : (es.take (k + 1)).filter g = (es.take k).filter g := by rw [htk, List.filter_append]; simp only [List.filter_cons, hd, List.filter_nil]; simp
        rw [e]; exact ho.keep hw14
  · have hk' : k = es.length := by simp at hc; omega
    have ho' := ho.lsr
    repeat (first | refine TL.move rfl rfl rfl ?_ | refine TL.assign rfl rfl rfl ?_ | refine TL.nilCheck rfl rfl rfl ?_ | refine TL.fieldAddr rfl rfl rfl ?_ | refine TL.convI rfl rfl rfl ?_ | refine TL.cmpI rfl rfl rfl rfl rfl ?_ | refine TL.arith rfl rfl rfl rfl rfl ?_ | refine TL.lenS rfl rfl rfl ?_ | refine TL.lenStr rfl rfl rfl ?_ | refine TL.not rfl rfl rfl ?_ | refine TL.skipG rfl rfl ?_ | refine TL.pickT rfl rfl rfl rfl ?_ | refine TL.pickF rfl rfl rfl rfl ?_ | refine TL.extract rfl rfl rfl rfl ?_ | refine TL.maxI rfl rfl rfl rfl ?_ | refine TL.minI rfl rfl rfl rfl ?_ | refine TL.nilCheckF rfl rfl rfl ?_ | refine TL.nil ?_ | refine T.seqK fun K hK => ?_ | (refine T.regionO fun ops => ?_) | refine T.condT rfl ?_ | refine T.condF rfl ?_ | refine T.block ?_ | refine T.skip ?_ | refine T.ret ?_ | refine T.exit ?_ | (refine hK _ _ ?_; clear hK K) | clear hK K | clear ops)
    refine ⟨_, rfl, hw1, ?_⟩
    rw [hk', List.take_length] at ho'
    exact ho'

set_option maxRecDepth 20000 in
set_option maxHeartbeats 1000000 in
theorem rcv1_ret (bt : Nat) (tv : Value) (es : List (Nat × Bool)) (w : World) (hr : Row w bt [tv] 91 (0, 0)) (hl : Lsr evE Any w tv es) (hn : es.length ≤ 2 ^ 36) :
    Ret Tryd.prog 70 #[.agg P0.toArray, .pointer (some ⟨bt, 0, none⟩)] w fun u w' => u = .bool (!(sameF es [2]).isSome) ∧ Ext w w' := by
  obtain ⟨ta, tc, rfl, _⟩ := hl.shape
  refine Ret.of_T Tryd.func70 rfl Tryd.ntmps70 Tryd.results70 rfl ?_
  repeat (first | refine TL.move rfl rfl rfl ?_ | refine TL.assign rfl rfl rfl ?_ | refine TL.nilCheck rfl rfl rfl ?_ | refine TL.fieldAddr rfl rfl rfl ?_ | refine TL.convI rfl rfl rfl ?_ | refine TL.cmpI rfl rfl rfl rfl rfl ?_ | refine TL.arith rfl rfl rfl rfl rfl ?_ | refine TL.lenS rfl rfl rfl ?_ | refine TL.lenStr rfl rfl rfl ?_ | refine TL.not rfl rfl rfl ?_ | refine TL.skipG rfl rfl ?_ | refine TL.pickT rfl rfl rfl rfl ?_ | refine TL.pickF rfl rfl rfl rfl ?_ | refine TL.extract rfl rfl rfl rfl ?_ | refine TL.maxI rfl rfl rfl rfl ?_ | refine TL.minI rfl rfl rfl rfl ?_ | refine TL.nilCheckF rfl rfl rfl ?_ | refine TL.nil ?_ | refine T.seqK fun K hK => ?_ | (refine T.regionO fun ops => ?_) | refine T.condT rfl ?_ | refine T.condF rfl ?_ | refine T.block ?_ | refine T.skip ?_ | refine T.ret ?_ | refine T.exit ?_ | (refine hK _ _ ?_; clear hK K) | clear hK K | clear ops)
  refine TL.box rfl rfl rfl fun b2 w1 hal => ?_
  have h2 : Row w1 b2 P0 85 (0, 0) := hal.row
  have hw1 : Ext w w1 := hal.below
  clear hal
  repeat (first | refine TL.move rfl rfl rfl ?_ | refine TL.assign rfl rfl rfl ?_ | refine TL.nilCheck rfl rfl rfl ?_ | refine TL.fieldAddr rfl rfl rfl ?_ | refine TL.convI rfl rfl rfl ?_ | refine TL.cmpI rfl rfl rfl rfl rfl ?_ | refine TL.arith rfl rfl rfl rfl rfl ?_ | refine TL.lenS rfl rfl rfl ?_ | refine TL.lenStr rfl rfl rfl ?_ | refine TL.not rfl rfl rfl ?_ | refine TL.skipG rfl rfl ?_ | refine TL.pickT rfl rfl rfl rfl ?_ | refine TL.pickF rfl rfl rfl rfl ?_ | refine TL.extract rfl rfl rfl rfl ?_ | refine TL.maxI rfl rfl rfl rfl ?_ | refine TL.minI rfl rfl rfl rfl ?_ | refine TL.nilCheckF rfl rfl rfl ?_ | refine TL.nil ?_ | refine T.seqK fun K hK => ?_ | refine T.region ?_ | refine T.condT rfl ?_ | refine T.condF rfl ?_ | refine T.block ?_ | refine T.skip ?_ | refine T.ret ?_ | refine T.exit ?_ | (refine hK _ _ ?_; clear hK K) | clear hK K)
  refine TL.loadR rfl rfl rfl (hr.keepA hw1) rfl ?_
  refine TL.ev rfl rfl (Ev.loadRA (xs := P0) rfl h2 rfl rfl) ?_
  refine TL.buildSlice rfl rfl rfl rfl rfl (by simp [Value.oneCell']) rfl fun b3 w2 hal => ?_
  have hks : Ks Any w2 (.slice (some ⟨b3, 0, none⟩) 1 1) [2] := (hal.rd rfl (by simp [maxLen])).sub fun _ _ => trivial
  have hw2 : Ext w w2 := hw1.trans hal.below
  have h22 := h2.keepA hal.below
  clear hal
  refine TL.call rfl rfl rfl (same_ret _ _ es [2] w2 (hl.ext hw2) hks (by omega) (by simp)) ?_
  rintro _ w3 ⟨hw23, rfl⟩
  have hw3 := hw2.trans hw23
  have h23 := h22.keepA hw23
  repeat (first | refine TL.move rfl rfl rfl ?_ | refine TL.assign rfl rfl rfl ?_ | refine TL.nilCheck rfl rfl rfl ?_ | refine TL.fieldAddr rfl rfl rfl ?_ | refine TL.convI rfl rfl rfl ?_ | refine TL.cmpI rfl rfl rfl rfl rfl ?_ | refine TL.arith rfl rfl rfl rfl rfl ?_ | refine TL.lenS rfl rfl rfl ?_ | refine TL.lenStr rfl rfl rfl ?_ | refine TL.not rfl rfl rfl ?_ | refine TL.skipG rfl rfl ?_ | refine TL.pickT rfl rfl rfl rfl ?_ | refine TL.pickF rfl rfl rfl rfl ?_ | refine TL.extract rfl rfl rfl rfl ?_ | refine TL.maxI rfl rfl rfl rfl ?_ | refine TL.minI rfl rfl rfl rfl ?_ | refine TL.nilCheckF rfl rfl rfl ?_ | refine TL.nil ?_ | refine T.seqK fun K hK => ?_ | refine T.region ?_ | refine T.condT rfl ?_ | refine T.condF rfl ?_ | refine T.block ?_ | refine T.skip ?_ | refine T.ret ?_ | refine T.exit ?_ | (refine hK _ _ ?_; clear hK K) | clear hK K)
  have hel : (evc (sameF es [2])).length = 10 := by cases sameF es [2] <;> rfl
  refine TL.alloc rfl rfl fun b4 w4 hal => ?_
  have hz : Row w4 b4 E0 90 (0, 0) := hal.at_
  refine TL.storeRA (A := []) (C := []) (old := E0) (xs := evc (sameF es [2])) rfl rfl rfl (by simpa using hz) rfl (by simp [Value.cells]) (by rw [hel]; rfl) (by rw [hel]) (by
    intro u hu
    cases hh : sameF es [2] with
    | none => rw [hh] at hu; exact (by simp [E0, Value.oneCell'] : ∀ u ∈ E0, u.oneCell' = true) u hu
    | some e => rw [hh] at hu; exact evE.one (F := Any) (w := w) (a := e) rfl u hu) fun w5 hg5 h5 hs5 => ?_
  have hw35 : Ext w3 w5 := Below.trans hal.below (below_grown hg5 (by rw [hal.num]; exact Nat.le_refl _) hal.below.size)
  have h25 := h23.keepA hw35
  clear hal hz hg5 hs5 h5
  repeat (first | refine TL.move rfl rfl rfl ?_ | refine TL.assign rfl rfl rfl ?_ | refine TL.nilCheck rfl rfl rfl ?_ | refine TL.fieldAddr rfl rfl rfl ?_ | refine TL.convI rfl rfl rfl ?_ | refine TL.cmpI rfl rfl rfl rfl rfl ?_ | refine TL.arith rfl rfl rfl rfl rfl ?_ | refine TL.lenS rfl rfl rfl ?_ | refine TL.lenStr rfl rfl rfl ?_ | refine TL.not rfl rfl rfl ?_ | refine TL.skipG rfl rfl ?_ | refine TL.pickT rfl rfl rfl rfl ?_ | refine TL.pickF rfl rfl rfl rfl ?_ | refine TL.extract rfl rfl rfl rfl ?_ | refine TL.maxI rfl rfl rfl rfl ?_ | refine TL.minI rfl rfl rfl rfl ?_ | refine TL.nilCheckF rfl rfl rfl ?_ | refine TL.nil ?_ | refine T.seqK fun K hK => ?_ | refine T.region ?_ | refine T.condT rfl ?_ | refine T.condF rfl ?_ | refine T.block ?_ | refine T.skip ?_ | refine T.ret ?_ | refine T.exit ?_ | (refine hK _ _ ?_; clear hK K) | clear hK K)
  exact ⟨_, rfl, rfl, hw3.trans hw35⟩

set_option maxRecDepth 20000 in
set_option maxHeartbeats 1000000 in
theorem tmo1_ret (bt : Nat) (tv : Value) (es : List (Nat × Bool)) (w : World) (hr : Row w bt [tv] 91 (0, 0)) (hl : Lsr evE Any w tv es) (hn : es.length ≤ 2 ^ 36) :
    Ret Tryd.prog 72 #[.agg P0.toArray, .pointer (some ⟨bt, 0, none⟩)] w fun u w' => u = .bool (!(sameF es [3, 4]).isSome) ∧ Ext w w' := by
  obtain ⟨ta, tc, rfl, _⟩ := hl.shape
  refine Ret.of_T Tryd.func72 rfl Tryd.ntmps72 Tryd.results72 rfl ?_
  repeat (first | refine TL.move rfl rfl rfl ?_ | refine TL.assign rfl rfl rfl ?_ | refine TL.nilCheck rfl rfl rfl ?_ | refine TL.fieldAddr rfl rfl rfl ?_ | refine TL.convI rfl rfl rfl ?_ | refine TL.cmpI rfl rfl rfl rfl rfl ?_ | refine TL.arith rfl rfl rfl rfl rfl ?_ | refine TL.lenS rfl rfl rfl ?_ | refine TL.lenStr rfl rfl rfl ?_ | refine TL.not rfl rfl rfl ?_ | refine TL.skipG rfl rfl ?_ | refine TL.pickT rfl rfl rfl rfl ?_ | refine TL.pickF rfl rfl rfl rfl ?_ | refine TL.extract rfl rfl rfl rfl ?_ | refine TL.maxI rfl rfl rfl rfl ?_ | refine TL.minI rfl rfl rfl rfl ?_ | refine TL.nilCheckF rfl rfl rfl ?_ | refine TL.nil ?_ | refine T.seqK fun K hK => ?_ | (refine T.regionO fun ops => ?_) | refine T.condT rfl ?_ | refine T.condF rfl ?_ | refine T.block ?_ | refine T.skip ?_ | refine T.ret ?_ | refine T.exit ?_ | (refine hK _ _ ?_; clear hK K) | clear hK K | clear ops)
  refine TL.box rfl rfl rfl fun b2 w1 hal => ?_
  have h2 : Row w1 b2 P0 85 (0, 0) := hal.row
  have hw1 : Ext w w1 := hal.below
  clear hal
  repeat (first | refine TL.move rfl rfl rfl ?_ | refine TL.assign rfl rfl rfl ?_ | refine TL.nilCheck rfl rfl rfl ?_ | refine TL.fieldAddr rfl rfl rfl ?_ | refine TL.convI rfl rfl rfl ?_ | refine TL.cmpI rfl rfl rfl rfl rfl ?_ | refine TL.arith rfl rfl rfl rfl rfl ?_ | refine TL.lenS rfl rfl rfl ?_ | refine TL.lenStr rfl rfl rfl ?_ | refine TL.not rfl rfl rfl ?_ | refine TL.skipG rfl rfl ?_ | refine TL.pickT rfl rfl rfl rfl ?_ | refine TL.pickF rfl rfl rfl rfl ?_ | refine TL.extract rfl rfl rfl rfl ?_ | refine TL.maxI rfl rfl rfl rfl ?_ | refine TL.minI rfl rfl rfl rfl ?_ | refine TL.nilCheckF rfl rfl rfl ?_ | refine TL.nil ?_ | refine T.seqK fun K hK => ?_ | refine T.region ?_ | refine T.condT rfl ?_ | refine T.condF rfl ?_ | refine T.block ?_ | refine T.skip ?_ | refine T.ret ?_ | refine T.exit ?_ | (refine hK _ _ ?_; clear hK K) | clear hK K)
  refine TL.loadR rfl rfl rfl (hr.keepA hw1) rfl ?_
  refine TL.ev rfl rfl (Ev.loadRA (xs := P0) rfl h2 rfl rfl) ?_
  refine TL.buildSlice rfl rfl rfl rfl rfl (by simp [Value.oneCell']) rfl fun b3 w2 hal => ?_
  have hks : Ks Any w2 (.slice (some ⟨b3, 0, none⟩) 2 2) [3, 4] := (hal.rd rfl (by simp [maxLen])).sub fun _ _ => trivial
  have hw2 : Ext w w2 := hw1.trans hal.below
  have h22 := h2.keepA hal.below
  clear hal
  refine TL.call rfl rfl rfl (same_ret _ _ es [3, 4] w2 (hl.ext hw2) hks (by omega) (by simp)) ?_
  rintro _ w3 ⟨hw23, rfl⟩
  have hw3 := hw2.trans hw23
  have h23 := h22.keepA hw23
  repeat (first | refine TL.move rfl rfl rfl ?_ | refine TL.assign rfl rfl rfl ?_ | refine TL.nilCheck rfl rfl rfl ?_ | refine TL.fieldAddr rfl rfl rfl ?_ | refine TL.convI rfl rfl rfl ?_ | refine TL.cmpI rfl rfl rfl rfl rfl ?_ | refine TL.arith rfl rfl rfl rfl rfl ?_ | refine TL.lenS rfl rfl rfl ?_ | refine TL.lenStr rfl rfl rfl ?_ | refine TL.not rfl rfl rfl ?_ | refine TL.skipG rfl rfl ?_ | refine TL.pickT rfl rfl rfl rfl ?_ | refine TL.pickF rfl rfl rfl rfl ?_ | refine TL.extract rfl rfl rfl rfl ?_ | refine TL.maxI rfl rfl rfl rfl ?_ | refine TL.minI rfl rfl rfl rfl ?_ | refine TL.nilCheckF rfl rfl rfl ?_ | refine TL.nil ?_ | refine T.seqK fun K hK => ?_ | refine T.region ?_ | refine T.condT rfl ?_ | refine T.condF rfl ?_ | refine T.block ?_ | refine T.skip ?_ | refine T.ret ?_ | refine T.exit ?_ | (refine hK _ _ ?_; clear hK K) | clear hK K)
  have hel : (evc (sameF es [3, 4])).length = 10 := by cases sameF es [3, 4] <;> rfl
  refine TL.alloc rfl rfl fun b4 w4 hal => ?_
  have hz : Row w4 b4 E0 90 (0, 0) := hal.at_
  refine TL.storeRA (A := []) (C := []) (old := E0) (xs := evc (sameF es [3, 4])) rfl rfl rfl (by simpa using hz) rfl (by simp [Value.cells]) (by rw [hel]; rfl) (by rw [hel]) (by
    intro u hu
    cases hh : sameF es [3, 4] with
    | none => rw [hh] at hu; exact (by simp [E0, Value.oneCell'] : ∀ u ∈ E0, u.oneCell' = true) u hu
    | some e => rw [hh] at hu; exact evE.one (F := Any) (w := w) (a := e) rfl u hu) fun w5 hg5 h5 hs5 => ?_
  have hw35 : Ext w3 w5 := Below.trans hal.below (below_grown hg5 (by rw [hal.num]; exact Nat.le_refl _) hal.below.size)
  have h25 := h23.keepA hw35
  clear hal hz hg5 hs5 h5
  repeat (first | refine TL.move rfl rfl rfl ?_ | refine TL.assign rfl rfl rfl ?_ | refine TL.nilCheck rfl rfl rfl ?_ | refine TL.fieldAddr rfl rfl rfl ?_ | refine TL.convI rfl rfl rfl ?_ | refine TL.cmpI rfl rfl rfl rfl rfl ?_ | refine TL.arith rfl rfl rfl rfl rfl ?_ | refine TL.lenS rfl rfl rfl ?_ | refine TL.lenStr rfl rfl rfl ?_ | refine TL.not rfl rfl rfl ?_ | refine TL.skipG rfl rfl ?_ | refine TL.pickT rfl rfl rfl rfl ?_ | refine TL.pickF rfl rfl rfl rfl ?_ | refine TL.extract rfl rfl rfl rfl ?_ | refine TL.maxI rfl rfl rfl rfl ?_ | refine TL.minI rfl rfl rfl rfl ?_ | refine TL.nilCheckF rfl rfl rfl ?_ | refine TL.nil ?_ | refine T.seqK fun K hK => ?_ | refine T.region ?_ | refine T.condT rfl ?_ | refine T.condF rfl ?_ | refine T.block ?_ | refine T.skip ?_ | refine T.ret ?_ | refine T.exit ?_ | (refine hK _ _ ?_; clear hK K) | clear hK K)
  cases hh : (sameF es [3, 4]).isSome with
  | true =>
    repeat (first | refine TL.move rfl rfl rfl ?_ | refine TL.assign rfl rfl rfl ?_ | refine TL.nilCheck rfl rfl rfl ?_ | refine TL.fieldAddr rfl rfl rfl ?_ | refine TL.convI rfl rfl rfl ?_ | refine TL.cmpI rfl rfl rfl rfl rfl ?_ | refine TL.arith rfl rfl rfl rfl rfl ?_ | refine TL.lenS rfl rfl rfl ?_ | refine TL.lenStr rfl rfl rfl ?_ | refine TL.not rfl rfl rfl ?_ | refine TL.skipG rfl rfl ?_ | refine TL.pickT rfl rfl rfl rfl ?_ | refine TL.pickF rfl rfl rfl rfl ?_ | refine TL.extract rfl rfl rfl rfl ?_ | refine TL.maxI rfl rfl rfl rfl ?_ | refine TL.minI rfl rfl rfl rfl ?_ | refine TL.nilCheckF rfl rfl rfl ?_ | refine TL.nil ?_ | refine T.seqK fun K hK => ?_ | refine T.region ?_ | refine T.condT rfl ?_ | refine T.condF rfl ?_ | refine T.block ?_ | refine T.skip ?_ | refine T.ret ?_ | refine T.exit ?_ | (refine hK _ _ ?_; clear hK K) | clear hK K)
    exact ⟨_, rfl, by rw [hh]; rfl, hw3.trans hw35⟩
  | false =>
    repeat (first | refine TL.move rfl rfl rfl ?_ | refine TL.assign rfl rfl rfl ?_ | refine TL.nilCheck rfl rfl rfl ?_ | refine TL.fieldAddr rfl rfl rfl ?_ | refine TL.convI rfl rfl rfl ?_ | refine TL.cmpI rfl rfl rfl rfl rfl ?_ | refine TL.arith rfl rfl rfl rfl rfl ?_ | refine TL.lenS rfl rfl rfl ?_ | refine TL.lenStr rfl rfl rfl ?_ | refine TL.not rfl rfl rfl ?_ | refine TL.skipG rfl rfl ?_ | refine TL.pickT rfl rfl rfl rfl ?_ | refine TL.pickF rfl rfl rfl rfl ?_ | refine TL.extract rfl rfl rfl rfl ?_ | refine TL.maxI rfl rfl rfl rfl ?_ | refine TL.minI rfl rfl rfl rfl ?_ | refine TL.nilCheckF rfl rfl rfl ?_ | refine TL.nil ?_ | refine T.seqK fun K hK => ?_ | refine T.region ?_ | refine T.condT rfl ?_ | refine T.condF rfl ?_ | refine T.block ?_ | refine T.skip ?_ | refine T.ret ?_ | refine T.exit ?_ | (refine hK _ _ ?_; clear hK K) | clear hK K)
    refine TL.loadR rfl rfl rfl h25 rfl ?_
    repeat (first | refine TL.move rfl rfl rfl ?_ | refine TL.assign rfl rfl rfl ?_ | refine TL.nilCheck rfl rfl rfl ?_ | refine TL.fieldAddr rfl rfl rfl ?_ | refine TL.convI rfl rfl rfl ?_ | refine TL.cmpI rfl rfl rfl rfl rfl ?_ | refine TL.arith rfl rfl rfl rfl rfl ?_ | refine TL.lenS rfl rfl rfl ?_ | refine TL.lenStr rfl rfl rfl ?_ | refine TL.not rfl rfl rfl ?_ | refine TL.skipG rfl rfl ?_ | refine TL.pickT rfl rfl rfl rfl ?_ | refine TL.pickF rfl rfl rfl rfl ?_ | refine TL.extract rfl rfl rfl rfl ?_ | refine TL.maxI rfl rfl rfl rfl ?_ | refine TL.minI rfl rfl rfl rfl ?_ | refine TL.nilCheckF rfl rfl rfl ?_ | refine TL.nil ?_ | refine T.seqK fun K hK => ?_ | refine T.region ?_ | refine T.condT rfl ?_ | refine T.condF rfl ?_ | refine T.block ?_ | refine T.skip ?_ | refine T.ret ?_ | refine T.exit ?_ | (refine hK _ _ ?_; clear hK K) | clear hK K)
    exact ⟨_, rfl, by rw [hh]; rfl, hw3.trans hw35⟩

theorem sent1_ret (e : Nat × Bool) (bc : Nat) (w : World) (hr : Row w bc [.int .i64 0] 3 (0, 0)) :
    Ret Tryd.prog 99 #[.agg (Ek e).toArray, .pointer (some ⟨bc, 0, none⟩)] w fun u w' => u = .bool ((e.1 : Int) == 1) ∧ Ext w w' := by
  refine Ret.of_T Tryd.func99 rfl Tryd.ntmps99 Tryd.results99 rfl ?_
  repeat (first | refine TL.move rfl rfl rfl ?_ | refine TL.assign rfl rfl rfl ?_ | refine TL.nilCheck rfl rfl rfl ?_ | refine TL.fieldAddr rfl rfl rfl ?_ | refine TL.convI rfl rfl rfl ?_ | refine TL.cmpI rfl rfl rfl rfl rfl ?_ | refine TL.arith rfl rfl rfl rfl rfl ?_ | refine TL.lenS rfl rfl rfl ?_ | refine TL.lenStr rfl rfl rfl ?_ | refine TL.not rfl rfl rfl ?_ | refine TL.skipG rfl rfl ?_ | refine TL.pickT rfl rfl rfl rfl ?_ | refine TL.pickF rfl rfl rfl rfl ?_ | refine TL.extract rfl rfl rfl rfl ?_ | refine TL.maxI rfl rfl rfl rfl ?_ | refine TL.minI rfl rfl rfl rfl ?_ | refine TL.nilCheckF rfl rfl rfl ?_ | refine TL.nil ?_ | refine T.seqK fun K hK => ?_ | (refine T.regionO fun ops => ?_) | refine T.condT rfl ?_ | refine T.condF rfl ?_ | refine T.block ?_ | refine T.skip ?_ | refine T.ret ?_ | refine T.exit ?_ | (refine hK _ _ ?_; clear hK K) | clear hK K | clear ops)
  refine TL.box rfl rfl rfl fun b3 w1 hal => ?_
  have hR : Row w1 b3 (Ek e) 90 (0, 0) := hal.row
  have hw1 : Ext w w1 := hal.below
  repeat (first | refine TL.move rfl rfl rfl ?_ | refine TL.assign rfl rfl rfl ?_ | refine TL.nilCheck rfl rfl rfl ?_ | refine TL.fieldAddr rfl rfl rfl ?_ | refine TL.convI rfl rfl rfl ?_ | refine TL.cmpI rfl rfl rfl rfl rfl ?_ | refine TL.arith rfl rfl rfl rfl rfl ?_ | refine TL.lenS rfl rfl rfl ?_ | refine TL.lenStr rfl rfl rfl ?_ | refine TL.not rfl rfl rfl ?_ | refine TL.skipG rfl rfl ?_ | refine TL.pickT rfl rfl rfl rfl ?_ | refine TL.pickF rfl rfl rfl rfl ?_ | refine TL.extract rfl rfl rfl rfl ?_ | refine TL.maxI rfl rfl rfl rfl ?_ | refine TL.minI rfl rfl rfl rfl ?_ | refine TL.nilCheckF rfl rfl rfl ?_ | refine TL.nil ?_ | refine T.seqK fun K hK => ?_ | refine T.region ?_ | refine T.condT rfl ?_ | refine T.condF rfl ?_ | refine T.block ?_ | refine T.skip ?_ | refine T.ret ?_ | refine T.exit ?_ | (refine hK _ _ ?_; clear hK K) | clear hK K)
  refine TL.loadR (v := .int .u8 (e.1 : Int)) rfl rfl rfl hR rfl ?_
  refine TL.cmpI rfl rfl rfl rfl rfl ?_
  cases hh : ((e.1 : Int) == 1) with
  | false =>
    repeat (first | refine TL.move rfl rfl rfl ?_ | refine TL.assign rfl rfl rfl ?_ | refine TL.nilCheck rfl rfl rfl ?_ | refine TL.fieldAddr rfl rfl rfl ?_ | refine TL.convI rfl rfl rfl ?_ | refine TL.cmpI rfl rfl rfl rfl rfl ?_ | refine TL.arith rfl rfl rfl rfl rfl ?_ | refine TL.lenS rfl rfl rfl ?_ | refine TL.lenStr rfl rfl rfl ?_ | refine TL.not rfl rfl rfl ?_ | refine TL.skipG rfl rfl ?_ | refine TL.pickT rfl rfl rfl rfl ?_ | refine TL.pickF rfl rfl rfl rfl ?_ | refine TL.extract rfl rfl rfl rfl ?_ | refine TL.maxI rfl rfl rfl rfl ?_ | refine TL.minI rfl rfl rfl rfl ?_ | refine TL.nilCheckF rfl rfl rfl ?_ | refine TL.nil ?_ | refine T.seqK fun K hK => ?_ | refine T.region ?_ | refine T.condT rfl ?_ | refine T.condF rfl ?_ | refine T.block ?_ | refine T.skip ?_ | refine T.ret ?_ | refine T.exit ?_ | (refine hK _ _ ?_; clear hK K) | clear hK K)
    exact ⟨_, rfl, by rw [hh], hw1⟩
  | true =>
    repeat (first | refine TL.move rfl rfl rfl ?_ | refine TL.assign rfl rfl rfl ?_ | refine TL.nilCheck rfl rfl rfl ?_ | refine TL.fieldAddr rfl rfl rfl ?_ | refine TL.convI rfl rfl rfl ?_ | refine TL.cmpI rfl rfl rfl rfl rfl ?_ | refine TL.arith rfl rfl rfl rfl rfl ?_ | refine TL.lenS rfl rfl rfl ?_ | refine TL.lenStr rfl rfl rfl ?_ | refine TL.not rfl rfl rfl ?_ | refine TL.skipG rfl rfl ?_ | refine TL.pickT rfl rfl rfl rfl ?_ | refine TL.pickF rfl rfl rfl rfl ?_ | refine TL.extract rfl rfl rfl rfl ?_ | refine TL.maxI rfl rfl rfl rfl ?_ | refine TL.minI rfl rfl rfl rfl ?_ | refine TL.nilCheckF rfl rfl rfl ?_ | refine TL.nil ?_ | refine T.seqK fun K hK => ?_ | refine T.region ?_ | refine T.condT rfl ?_ | refine T.condF rfl ?_ | refine T.block ?_ | refine T.skip ?_ | refine T.ret ?_ | refine T.exit ?_ | (refine hK _ _ ?_; clear hK K) | clear hK K)
    refine TL.loadR (v := .int .i64 0) rfl rfl rfl hR rfl ?_
    refine TL.loadR rfl rfl rfl (hr.keepA hw1) rfl ?_
    repeat (first | refine TL.move rfl rfl rfl ?_ | refine TL.assign rfl rfl rfl ?_ | refine TL.nilCheck rfl rfl rfl ?_ | refine TL.fieldAddr rfl rfl rfl ?_ | refine TL.convI rfl rfl rfl ?_ | refine TL.cmpI rfl rfl rfl rfl rfl ?_ | refine TL.arith rfl rfl rfl rfl rfl ?_ | refine TL.lenS rfl rfl rfl ?_ | refine TL.lenStr rfl rfl rfl ?_ | refine TL.not rfl rfl rfl ?_ | refine TL.skipG rfl rfl ?_ | refine TL.pickT rfl rfl rfl rfl ?_ | refine TL.pickF rfl rfl rfl rfl ?_ | refine TL.extract rfl rfl rfl rfl ?_ | refine TL.maxI rfl rfl rfl rfl ?_ | refine TL.minI rfl rfl rfl rfl ?_ | refine TL.nilCheckF rfl rfl rfl ?_ | refine TL.nil ?_ | refine T.seqK fun K hK => ?_ | refine T.region ?_ | refine T.condT rfl ?_ | refine T.condF rfl ?_ | refine T.block ?_ | refine T.skip ?_ | refine T.ret ?_ | refine T.exit ?_ | (refine hK _ _ ?_; clear hK K) | clear hK K)
    exact ⟨_, rfl, by rw [hh]; rfl, hw1⟩

def sentF (es : List (Nat × Bool)) : List Unit := (es.filter fun e => (e.1 : Int) == 1).map fun _ => ()
set_option maxRecDepth 20000 in
set_option maxHeartbeats 1000000 in
theorem sent_ret (v : Value) (es : List (Nat × Bool)) (w : World) (hl : Lsr evE Any w v es) (hn : es.length ≤ 2 ^ 36) :
    Ret Tryd.prog 69 #[v, .int .i64 0] w fun u w' => Ext w w' ∧ Lsr pkE Any w' u (sentF es) := by
  refine Ret.of_T Tryd.func69 rfl Tryd.ntmps69 Tryd.results69 rfl ?_
  repeat (first | refine TL.move rfl rfl rfl ?_ | refine TL.assign rfl rfl rfl ?_ | refine TL.nilCheck rfl rfl rfl ?_ | refine TL.fieldAddr rfl rfl rfl ?_ | refine TL.convI rfl rfl rfl ?_ | refine TL.cmpI rfl rfl rfl rfl rfl ?_ | refine TL.arith rfl rfl rfl rfl rfl ?_ | refine TL.lenS rfl rfl rfl ?_ | refine TL.lenStr rfl rfl rfl ?_ | refine TL.not rfl rfl rfl ?_ | refine TL.skipG rfl rfl ?_ | refine TL.pickT rfl rfl rfl rfl ?_ | refine TL.pickF rfl rfl rfl rfl ?_ | refine TL.extract rfl rfl rfl rfl ?_ | refine TL.maxI rfl rfl rfl rfl ?_ | refine TL.minI rfl rfl rfl rfl ?_ | refine TL.nilCheckF rfl rfl rfl ?_ | refine TL.nil ?_ | refine T.seqK fun K hK => ?_ | (refine T.regionO fun ops => ?_) | refine T.condT rfl ?_ | refine T.condF rfl ?_ | refine T.block ?_ | refine T.skip ?_ | refine T.ret ?_ | refine T.exit ?_ | (refine hK _ _ ?_; clear hK K) | clear hK K | clear ops)
  refine TL.box rfl rfl rfl fun b3 w1 hal => ?_
  have h3 : Row w1 b3 [.int .i64 0] 3 (0, 0) := hal.row
  have hw1 : Ext w w1 := hal.below
  clear hal
  repeat (first | refine TL.move rfl rfl rfl ?_ | refine TL.assign rfl rfl rfl ?_ | refine TL.nilCheck rfl rfl rfl ?_ | refine TL.fieldAddr rfl rfl rfl ?_ | refine TL.convI rfl rfl rfl ?_ | refine TL.cmpI rfl rfl rfl rfl rfl ?_ | refine TL.arith rfl rfl rfl rfl rfl ?_ | refine TL.lenS rfl rfl rfl ?_ | refine TL.lenStr rfl rfl rfl ?_ | refine TL.not rfl rfl rfl ?_ | refine TL.skipG rfl rfl ?_ | refine TL.pickT rfl rfl rfl rfl ?_ | refine TL.pickF rfl rfl rfl rfl ?_ | refine TL.extract rfl rfl rfl rfl ?_ | refine TL.maxI rfl rfl rfl rfl ?_ | refine TL.minI rfl rfl rfl rfl ?_ | refine TL.nilCheckF rfl rfl rfl ?_ | refine TL.nil ?_ | refine T.seqK fun K hK => ?_ | (refine T.regionO fun ops => ?_) | refine T.condT rfl ?_ | refine T.condF rfl ?_ | refine T.block ?_ | refine T.skip ?_ | refine T.ret ?_ | refine T.exit ?_ | (refine hK _ _ ?_; clear hK K) | clear hK K | clear ops)
  refine TL.ev rfl rfl (Ev.makeFunc (xs := []) (us := []) rfl rfl) ?_
  refine TL.call rfl rfl rfl (keepE_ret _ _ es (fun e => (e.1 : Int) == 1) w1 (hl.ext hw1) ⟨_, _, _, rfl, inferInstance, fun w' a us he hu => ?_⟩ hn) ?_
  · have hu' : us = Ek a := hu
    subst hu'
    simpa using sent1_ret a b3 w' (h3.keepA he)
  rintro kv w2 ⟨hw12, hk⟩
  obtain ⟨fs, hfs⟩ : ∃ fs, fs = es.filter (fun e => (e.1 : Int) == 1) := ⟨_, rfl⟩
  rw [← hfs] at hk
  have hfl : fs.length ≤ 2 ^ 36 := by rw [hfs]; exact Nat.le_trans (List.length_filter_le _ _) hn
  obtain ⟨ka, kc, rfl, _⟩ := hk.shape
  have hw2 := hw1.trans hw12
  repeat (first | refine TL.move rfl rfl rfl ?_ | refine TL.assign rfl rfl rfl ?_ | refine TL.nilCheck rfl rfl rfl ?_ | refine TL.fieldAddr rfl rfl rfl ?_ | refine TL.convI rfl rfl rfl ?_ | refine TL.cmpI rfl rfl rfl rfl rfl ?_ | refine TL.arith rfl rfl rfl rfl rfl ?_ | refine TL.lenS rfl rfl rfl ?_ | refine TL.lenStr rfl rfl rfl ?_ | refine TL.not rfl rfl rfl ?_ | refine TL.skipG rfl rfl ?_ | refine TL.pickT rfl rfl rfl rfl ?_ | refine TL.pickF rfl rfl rfl rfl ?_ | refine TL.extract rfl rfl rfl rfl ?_ | refine TL.maxI rfl rfl rfl rfl ?_ | refine TL.minI rfl rfl rfl rfl ?_ | refine TL.nilCheckF rfl rfl rfl ?_ | refine TL.nil ?_ | refine T.seqK fun K hK => ?_ | (refine T.regionO fun ops => ?_) | refine T.condT rfl ?_ | refine T.condF rfl ?_ | refine T.block ?_ | refine T.skip ?_ | refine T.ret ?_ | refine T.exit ?_ | (refine hK _ _ ?_; clear hK K) | clear hK K | clear ops)
  refine T.loop (fun m L w' => ∃ (k : Nat) (ov : Value), Less [(5, ov), (10, .slice ka fs.length kc), (11, .int .i64 fs.length), (12, .int .i64 k)] L ∧ Lst pkE w2.heap.size w2 w' 85 ov ((fs.take k).map fun _ => ()) ∧ k + m = fs.length) fs.length
    ⟨0, nils, (by repeat (first | exact Less.nil _ | refine Less.cons rfl ?_)), Lst.nil _ _ _ (Below.refl _ _) (Nat.le_refl _) _, by omega⟩ ?_
  rintro m L w3 ⟨k, ov, hL, ho, hkm⟩
  refine T.sub hL ?_
  have hw23 : Ext w2 w3 := ho.below
  repeat (first | refine TL.move rfl rfl rfl ?_ | refine TL.assign rfl rfl rfl ?_ | refine TL.nilCheck rfl rfl rfl ?_ | refine TL.fieldAddr rfl rfl rfl ?_ | refine TL.convI rfl rfl rfl ?_ | refine TL.cmpI rfl rfl rfl rfl rfl ?_ | refine TL.arith rfl rfl rfl rfl rfl ?_ | refine TL.lenS rfl rfl rfl ?_ | refine TL.lenStr rfl rfl rfl ?_ | refine TL.not rfl rfl rfl ?_ | refine TL.skipG rfl rfl ?_ | refine TL.pickT rfl rfl rfl rfl ?_ | refine TL.pickF rfl rfl rfl rfl ?_ | refine TL.extract rfl rfl rfl rfl ?_ | refine TL.maxI rfl rfl rfl rfl ?_ | refine TL.minI rfl rfl rfl rfl ?_ | refine TL.nilCheckF rfl rfl rfl ?_ | refine TL.nil ?_ | refine T.seqK fun K hK => ?_ | (refine T.regionO fun ops => ?_) | refine T.condT rfl ?_ | refine T.condF rfl ?_ | refine T.block ?_ | refine T.skip ?_ | refine T.ret ?_ | refine T.exit ?_ | (refine hK _ _ ?_; clear hK K) | clear hK K | clear ops)
  refine T.cond rfl (fun hc => ?_) (fun hc => ?_)
  · have hk' : k < fs.length := by simpa using hc
    obtain ⟨y, hy⟩ : ∃ y, fs[k]? = some y := ⟨_, List.getElem?_eq_getElem hk'⟩
    obtain ⟨g1, g2⟩ := List.getElem?_eq_some_iff.1 hy
    have htk : fs.take (k + 1) = fs.take k ++ [y] := by rw [List.take_succ_eq_append_getElem g1, g2]
    repeat (first | refine TL.move rfl rfl rfl ?_ | refine TL.assign rfl rfl rfl ?_ | refine TL.nilCheck rfl rfl rfl ?_ | refine TL.fieldAddr rfl rfl rfl ?_ | refine TL.convI rfl rfl rfl ?_ | refine TL.cmpI rfl rfl rfl rfl rfl ?_ | refine TL.arith rfl rfl rfl rfl rfl ?_ | refine TL.lenS rfl rfl rfl ?_ | refine TL.lenStr rfl rfl rfl ?_ | refine TL.not rfl rfl rfl ?_ | refine TL.skipG rfl rfl ?_ | refine TL.pickT rfl rfl rfl rfl ?_ | refine TL.pickF rfl rfl rfl rfl ?_ | refine TL.extract rfl rfl rfl rfl ?_ | refine TL.maxI rfl rfl rfl rfl ?_ | refine TL.minI rfl rfl rfl rfl ?_ | refine TL.nilCheckF rfl rfl rfl ?_ | refine TL.nil ?_ | refine T.seqK fun K hK => ?_ | (refine T.regionO fun ops => ?_) | refine T.condT rfl ?_ | refine T.condF rfl ?_ | refine T.block ?_ | refine T.skip ?_ | refine T.ret ?_ | refine T.exit ?_ | (refine hK _ _ ?_; clear hK K) | clear hK K | clear ops)
    refine TL.elemE (E := evE) rfl rfl (fun _ => rfl) rfl rfl rfl rfl (hk.ext hw23) rfl hy rfl fun pp us hus => ?_
    have hu' : us = Ek y := hus
    subst hu'
    refine TL.alloc rfl rfl fun b7 w4 hal => ?_
    have hz : Row w4 b7 E0 90 (0, 0) := hal.at_
    refine TL.storeRA (A := []) (C := []) (old := E0) (xs := Ek y) rfl rfl rfl (by simpa using hz) rfl (by simp [Value.cells]) rfl rfl (evE.one (F := Any) (w := w4) (a := y) rfl) fun w5 hg5 h7 hs5 => ?_
    have h7 : Row w5 b7 (Ek y) 90 (0, 0) := h7
    have hw35 : Ext w3 w5 := Below.trans hal.below (below_grown hg5 (by rw [hal.num]; exact Nat.le_refl _) hal.below.size)
    clear hal hz hg5 hs5
    repeat (first | refine TL.move rfl rfl rfl ?_ | refine TL.assign rfl rfl rfl ?_ | refine TL.nilCheck rfl rfl rfl ?_ | refine TL.fieldAddr rfl rfl rfl ?_ | refine TL.convI rfl rfl rfl ?_ | refine TL.cmpI rfl rfl rfl rfl rfl ?_ | refine TL.arith rfl rfl rfl rfl rfl ?_ | refine TL.lenS rfl rfl rfl ?_ | refine TL.lenStr rfl rfl rfl ?_ | refine TL.not rfl rfl rfl ?_ | refine TL.skipG rfl rfl ?_ | refine TL.pickT rfl rfl rfl rfl ?_ | refine TL.pickF rfl rfl rfl rfl ?_ | refine TL.extract rfl rfl rfl rfl ?_ | refine TL.maxI rfl rfl rfl rfl ?_ | refine TL.minI rfl rfl rfl rfl ?_ | refine TL.nilCheckF rfl rfl rfl ?_ | refine TL.nil ?_ | refine T.seqK fun K hK => ?_ | (refine T.regionO fun ops => ?_) | refine T.condT rfl ?_ | refine T.condF rfl ?_ | refine T.block ?_ | refine T.skip ?_ | refine T.ret ?_ | refine T.exit ?_ | (refine hK _ _ ?_; clear hK K) | clear hK K | clear ops)
    refine TL.ev rfl rfl (Ev.loadRA (xs := P0) rfl h7 rfl rfl) ?_
    refine TL.push1 (E := pkE) (a := ()) rfl rfl rfl (fun _ => rfl) rfl (fun _ => rfl) rfl (ho.keep hw35) rfl rfl rfl (by simp; omega) (by simp [maxLen]; omega) fun u v' w6 h6 _ _ => ?_
    repeat (first | refine TL.move rfl rfl rfl ?_ | refine TL.assign rfl rfl rfl ?_ | refine TL.nilCheck rfl rfl rfl ?_ | refine TL.fieldAddr rfl rfl rfl ?_ | refine TL.convI rfl rfl rfl ?_ | refine TL.cmpI rfl rfl rfl rfl rfl ?_ | refine TL.arith rfl rfl rfl rfl rfl ?_ | refine TL.lenS rfl rfl rfl ?_ | refine TL.lenStr rfl rfl rfl ?_ | refine TL.not rfl rfl rfl ?_ | refine TL.skipG rfl rfl ?_ | refine TL.pickT rfl rfl rfl rfl ?_ | refine TL.pickF rfl rfl rfl rfl ?_ | refine TL.extract rfl rfl rfl rfl ?_ | refine TL.maxI rfl rfl rfl rfl ?_ | refine TL.minI rfl rfl rfl rfl ?_ | refine TL.nilCheckF rfl rfl rfl ?_ | refine TL.nil ?_ | refine T.seqK fun K hK => ?_ | (refine T.regionO fun ops => ?_) | refine T.condT rfl ?_ | refine T.condF rfl ?_ | refine T.block ?_ | refine T.skip ?_ | refine T.ret ?_ | refine T.exit ?_ | (refine hK _ _ ?_; clear hK K) | clear hK K | clear ops)
    refine ⟨m - 1, by omega, k + 1, v', ?_, ?_, by omega⟩
    · repeat (first | exact Less.nil _ | refine Less.cons rfl ?_)
      refine Less.cons' rfl (by rw [wr_succ (by omega)]) ?_
      repeat (first | exact Less.nil _ | refine Less.cons rfl ?_)
    · rw [htk, List.map_append]; exact h6
  · have hk' : k = fs.length := by simp at hc; omega
    have ho' := ho.lsr
    repeat (first | refine TL.move rfl rfl rfl ?_ | refine TL.assign rfl rfl rfl ?_ | refine TL.nilCheck rfl rfl rfl ?_ | refine TL.fieldAddr rfl rfl rfl ?_ | refine TL.convI rfl rfl rfl ?_ | refine TL.cmpI rfl rfl rfl rfl rfl ?_ | refine TL.arith rfl rfl rfl rfl rfl ?_ | refine TL.lenS rfl rfl rfl ?_ | refine TL.lenStr rfl rfl rfl ?_ | refine TL.not rfl rfl rfl ?_ | refine TL.skipG rfl rfl ?_ | refine TL.pickT rfl rfl rfl rfl ?_ | refine TL.pickF rfl rfl rfl rfl ?_ | refine TL.extract rfl rfl rfl rfl ?_ | refine TL.maxI rfl rfl rfl rfl ?_ | refine TL.minI rfl rfl rfl rfl ?_ | refine TL.nilCheckF rfl rfl rfl ?_ | refine TL.nil ?_ | refine T.seqK fun K hK => ?_ | (refine T.regionO fun ops => ?_) | refine T.condT rfl ?_ | refine T.condF rfl ?_ | refine T.block ?_ | refine T.skip ?_ | refine T.ret ?_ | refine T.exit ?_ | (refine hK _ _ ?_; clear hK K) | clear hK K | clear ops)
    refine ⟨_, rfl, hw2.trans hw23, ?_⟩
    rw [hk', List.take_length, hfs] at ho'
    exact ho'
end Go.Proofs
