/- What tree.inner comes to. Conditions: as the theorem says. -/
import Derived.Test.YtflioeagjefkmaaDoorLeaf
set_option linter.all false
namespace Go.Proofs
open Go.Fw Go.RowKit
attribute [local irreducible] TL T TS Ev Ret

section
variable (kv vv : Value) (t : Tr) (pl pr : Value)
theorem tcs100 : (tcs kv vv t pl pr)[0 + 100]? = some pl := by simp [tcs, ncs, Tr.lh_len, Tr.rh_len, Tr.hash_len]
theorem tcs101 : (tcs kv vv t pl pr)[0 + 101]? = some pr := by simp [tcs, ncs, Tr.lh_len, Tr.rh_len, Tr.hash_len]
theorem tcs_hash : ((tcs kv vv t pl pr).drop (0 + 68)).take 32 = t.hash.map vb := by
  have h : (ncs kv vv t.ht t.sz t.lh t.rh).length = 0 + 68 := ncs_len _ _ _ _ _ _ (Tr.lh_len t) (Tr.rh_len t)
  rw [tcs, List.append_assoc, List.drop_left' h, List.take_left' (by simp [Tr.hash_len])]
theorem tcs_node : ((tcs kv vv t pl pr).drop (0 + 0)).take 68 = ncs kv vv t.ht t.sz t.lh t.rh := by
  have h : (ncs kv vv t.ht t.sz t.lh t.rh).length = 68 := ncs_len _ _ _ _ _ _ (Tr.lh_len t) (Tr.rh_len t)
  simp [tcs, List.take_append, h]
end
theorem max_nat (a b : Nat) : (if (b : Int) > (a : Int) then (b : Int) else (a : Int)) = ((max a b : Nat) : Int) := by split <;> omega

set_option maxRecDepth 20000 in
set_option maxHeartbeats 2000000 in
theorem inner_ret (l r : Tr) (pl pr : Value) (w : World) (hW : KW w) (hl : IsT w l pl) (hr : IsT w r pr) (h1 : l.ht < 2 ^ 60) (h2 : r.ht < 2 ^ 60) (h3 : l.sz + r.sz < 2 ^ 60) (h4 : r.least.length ≤ 2 ^ 30) :
    Ret Tryd.prog 105 #[pl, pr] w fun u w' => Ext w w' ∧ IsT w' (.node l r) u := by
  obtain ⟨bl, kvl, vvl, pll, plr, rfl, hrl, _⟩ := id hl.out
  obtain ⟨br, kvr, vvr, prl, prr, rfl, hrr, _⟩ := id hr.out
  refine Ret.of_T Tryd.func105 rfl Tryd.ntmps105 Tryd.results105 rfl ?_
  repeat (first | refine TL.move rfl rfl rfl ?_ | refine TL.assign rfl rfl rfl ?_ | refine TL.nilCheck rfl rfl rfl ?_ | refine TL.fieldAddr rfl rfl rfl ?_ | refine TL.convI rfl rfl rfl ?_ | refine TL.cmpI rfl rfl rfl rfl rfl ?_ | refine TL.arith rfl rfl rfl rfl rfl ?_ | refine TL.lenS rfl rfl rfl ?_ | refine TL.lenStr rfl rfl rfl ?_ | refine TL.not rfl rfl rfl ?_ | refine TL.skipG rfl rfl ?_ | refine TL.pickT rfl rfl rfl rfl ?_ | refine TL.pickF rfl rfl rfl rfl ?_ | refine TL.extract rfl rfl rfl rfl ?_ | refine TL.maxI rfl rfl rfl rfl ?_ | refine TL.minI rfl rfl rfl rfl ?_ | refine TL.nilCheckF rfl rfl rfl ?_ | refine TL.nil ?_ | refine T.seqK fun K hK => ?_ | (refine T.regionO fun ops => ?_) | refine T.condT rfl ?_ | refine T.condF rfl ?_ | refine T.block ?_ | refine T.skip ?_ | refine T.ret ?_ | refine T.exit ?_ | (refine hK _ _ ?_; clear hK K) | clear hK K | clear ops)
  refine TL.ev rfl rfl (Ev.build (out := ncs nils nils 0 0 z32 z32 ++ z32.map vb ++ [.pointer (some ⟨bl, 0, none⟩), .pointer (some ⟨br, 0, none⟩)]) rfl rfl) ?_
  refine TL.box rfl rfl rfl fun b w1 hal => ?_
  have hR1 : Row w1 b (ncs nils nils 0 0 z32 z32 ++ z32.map vb ++ [.pointer (some ⟨bl, 0, none⟩), .pointer (some ⟨br, 0, none⟩)]) 132 (0, 0) := hal.row
  have hb1 : Ext w w1 := hal.below
  have hbb : w.heap.size ≤ b := by rw [hal.num]; exact Nat.le_refl _
  clear hal
  repeat (first | refine TL.move rfl rfl rfl ?_ | refine TL.assign rfl rfl rfl ?_ | refine TL.nilCheck rfl rfl rfl ?_ | refine TL.fieldAddr rfl rfl rfl ?_ | refine TL.convI rfl rfl rfl ?_ | refine TL.cmpI rfl rfl rfl rfl rfl ?_ | refine TL.arith rfl rfl rfl rfl rfl ?_ | refine TL.lenS rfl rfl rfl ?_ | refine TL.lenStr rfl rfl rfl ?_ | refine TL.not rfl rfl rfl ?_ | refine TL.skipG rfl rfl ?_ | refine TL.pickT rfl rfl rfl rfl ?_ | refine TL.pickF rfl rfl rfl rfl ?_ | refine TL.extract rfl rfl rfl rfl ?_ | refine TL.maxI rfl rfl rfl rfl ?_ | refine TL.minI rfl rfl rfl rfl ?_ | refine TL.nilCheckF rfl rfl rfl ?_ | refine TL.nil ?_ | refine T.seqK fun K hK => ?_ | (refine T.regionO fun ops => ?_) | refine T.condT rfl ?_ | refine T.condF rfl ?_ | refine T.block ?_ | refine T.skip ?_ | refine T.ret ?_ | refine T.exit ?_ | (refine hK _ _ ?_; clear hK K) | clear hK K | clear ops)
  refine T.drawK 37 Tryd.mixed (by kernel_rfl) fun ops w2 hb2 hh2 K hK => ?_
  simp only [List.take_succ_cons, List.take_zero]
  have hw2 : Ext w w2 := hb1.trans hb2
  have hR2 := hR1.keepA hb2
  have hl2 := IsT.ext hw2 hl
  have hr2 := IsT.ext hw2 hr
  have hrl2 := hrl.keepA hw2
  have hrr2 := hrr.keepA hw2
  clear hR1 hb1 hb2 hh2
  refine DR.v _ rfl (fun w' σ he => Ev.move rfl) ?_
  refine DR.v _ rfl (fun w' σ he => Ev.move rfl) ?_
  refine DR.a (fun u w' => (∃ a c, u = .slice a r.least.length c) ∧ B0 w u r.least) (fun u w1 w2 h e => h) (fun w' σ he hσ => ?_) ?_
  · refine TL.call rfl rfl rfl (least_ret r _ w w' (hw2.trans he) hr) ?_
    rintro u w3 ⟨e1, e2, rfl⟩
    exact TL.nil ⟨Ext.refl _, u, rfl, e1, e2⟩
  iterate 4 refine DR.v _ rfl (fun w' σ he => by first | exact Ev.move rfl | exact Ev.nilCheck rfl | exact Ev.fieldAddr rfl) ?_
  refine DR.v (.int .i64 l.ht) rfl (fun w' σ he => Ev.loadR rfl (hrl2.keepA he) rfl) ?_
  iterate 4 refine DR.v _ rfl (fun w' σ he => by first | exact Ev.move rfl | exact Ev.nilCheck rfl | exact Ev.fieldAddr rfl) ?_
  refine DR.v (.int .i64 r.ht) rfl (fun w' σ he => Ev.loadR rfl (hrr2.keepA he) rfl) ?_
  refine DR.v (.int .i64 ((max l.ht r.ht : Nat) : Int)) rfl (fun w' σ he => Ev.norm (by rw [max_nat]) (Ev.maxI rfl rfl)) ?_
  refine DR.v (.int .i64 (((Tr.node l r).ht : Nat) : Int)) rfl (fun w' σ he => Ev.norm (by rw [wr_i64 (by omega) (by omega)]; simp [Tr.ht]) (Ev.arith rfl rfl rfl)) ?_
  iterate 4 refine DR.v _ rfl (fun w' σ he => by first | exact Ev.move rfl | exact Ev.nilCheck rfl | exact Ev.fieldAddr rfl) ?_
  refine DR.v (.int .u64 l.sz) rfl (fun w' σ he => Ev.loadR rfl (hrl2.keepA he) rfl) ?_
  iterate 4 refine DR.v _ rfl (fun w' σ he => by first | exact Ev.move rfl | exact Ev.nilCheck rfl | exact Ev.fieldAddr rfl) ?_
  refine DR.v (.int .u64 r.sz) rfl (fun w' σ he => Ev.loadR rfl (hrr2.keepA he) rfl) ?_
  refine DR.v (.int .u64 (((Tr.node l r).sz : Nat) : Int)) rfl (fun w' σ he => Ev.norm (by rw [wr_u64 (by omega) (by omega)]; simp [Tr.sz]) (Ev.arith rfl rfl rfl)) ?_
  iterate 3 refine DR.v _ rfl (fun w' σ he => by first | exact Ev.move rfl | exact Ev.nilCheck rfl | exact Ev.fieldAddr rfl) ?_
  refine DR.v (.agg (l.hash.map vb).toArray) rfl (fun w' σ he => Ev.loadRA rfl (hrl2.keepA he) (tcs_hash _ _ _ _ _) (by simp [Tr.hash_len])) ?_
  iterate 3 refine DR.v _ rfl (fun w' σ he => by first | exact Ev.move rfl | exact Ev.nilCheck rfl | exact Ev.fieldAddr rfl) ?_
  refine DR.v (.agg (r.hash.map vb).toArray) rfl (fun w' σ he => Ev.loadRA rfl (hrr2.keepA he) (tcs_hash _ _ _ _ _) (by simp [Tr.hash_len])) ?_
  refine DR.a (fun u w' => ∃ a c, u = .agg (ncs (.slice a r.least.length c) nils (Tr.node l r).ht (Tr.node l r).sz l.hash r.hash).toArray ∧ B0 w (.slice a r.least.length c) r.least) (fun u w1 w2 h e => h) (fun w' σ he hσ => ?_) ?_
  · obtain ⟨⟨a, c, e1⟩, e2⟩ := hσ.get 12 rfl
    rw [e1] at e2
    refine TL.ev rfl rfl (Ev.build (out := ncs (.slice a r.least.length c) nils (Tr.node l r).ht (Tr.node l r).sz l.hash r.hash) rfl ?_) (TL.nil ⟨Ext.refl _, _, rfl, a, c, rfl, e2⟩)
    rw [e1]
    simp [fillW, Value.cells, ncs, Tr.hash_len]
  refine DR.v _ rfl (fun w' σ he => Ev.nilCheck rfl) ?_
  refine DR.v _ rfl (fun w' σ he => Ev.fieldAddr rfl) ?_
  refine DR.nil (hK _ fun w3 σ he hσ => ?_)
  simp only [List.drop_succ_cons, List.drop_zero]
  clear hK K
  obtain ⟨a, c, e1, e2⟩ := hσ.get 44 rfl
  refine TL.storeRA (A := []) (C := z32.map vb ++ [.pointer (some ⟨bl, 0, none⟩), .pointer (some ⟨br, 0, none⟩)]) (old := ncs nils nils 0 0 z32 z32) (xs := ncs (.slice a r.least.length c) nils (Tr.node l r).ht (Tr.node l r).sz l.hash r.hash)
    rfl rfl rfl (hR2.keepA he) rfl (by rw [e1]; simp [Value.cells]) (by rw [ncs_len _ _ _ _ _ _ (Tr.hash_len l) (Tr.hash_len r)]; rfl) (by rw [ncs_len _ _ _ _ _ _ (Tr.hash_len l) (Tr.hash_len r)]) (by
      intro u hu
      simp only [ncs, List.mem_append, List.mem_cons, List.not_mem_nil, or_false] at hu
      rcases hu with ((rfl | rfl | rfl | rfl) | hu) | hu
      · rfl
      · rfl
      · rfl
      · rfl
      · exact vb_all _ u hu
      · exact vb_all _ u hu) fun w4 hgr hR4 hsz => ?_
  have hw3 : Ext w w3 := hw2.trans he
  have hw4 : Ext w w4 := Below.trans hw3 (below_grown hgr hbb hw3.size)
  have hb3 : b < w3.heap.size := (hR2.keepA he).lt
  have hk4 := By.ext e2 hw4
  have hl4 := IsT.ext hw4 hl
  have hr4 := IsT.ext hw4 hr
  have hln : (ncs (.slice a r.least.length c) nils (Tr.node l r).ht (Tr.node l r).sz l.hash r.hash).length = 68 := ncs_len _ _ _ _ _ _ (Tr.hash_len l) (Tr.hash_len r)
  repeat (first | refine TL.move rfl rfl rfl ?_ | refine TL.assign rfl rfl rfl ?_ | refine TL.nilCheck rfl rfl rfl ?_ | refine TL.fieldAddr rfl rfl rfl ?_ | refine TL.convI rfl rfl rfl ?_ | refine TL.cmpI rfl rfl rfl rfl rfl ?_ | refine TL.arith rfl rfl rfl rfl rfl ?_ | refine TL.lenS rfl rfl rfl ?_ | refine TL.lenStr rfl rfl rfl ?_ | refine TL.not rfl rfl rfl ?_ | refine TL.skipG rfl rfl ?_ | refine TL.pickT rfl rfl rfl rfl ?_ | refine TL.pickF rfl rfl rfl rfl ?_ | refine TL.extract rfl rfl rfl rfl ?_ | refine TL.maxI rfl rfl rfl rfl ?_ | refine TL.minI rfl rfl rfl rfl ?_ | refine TL.nilCheckF rfl rfl rfl ?_ | refine TL.nil ?_ | refine T.seqK fun K hK => ?_ | (refine T.regionO fun ops => ?_) | refine T.condT rfl ?_ | refine T.condF rfl ?_ | refine T.block ?_ | refine T.skip ?_ | refine T.ret ?_ | refine T.exit ?_ | (refine hK _ _ ?_; clear hK K) | clear hK K | clear ops)
  refine TL.ev rfl rfl (Ev.loadRA (xs := ncs (.slice a r.least.length c) nils (Tr.node l r).ht (Tr.node l r).sz l.hash r.hash) rfl hR4 (by simp [List.take_append, hln]) hln) ?_
  refine TL.call rfl rfl rfl (Hash_ret _ _ r.least [] l.hash r.hash (Tr.node l r).ht (Tr.node l r).sz w4 (hW.ext hw4) hk4 (By.nil0 _) (Tr.hash_len _) (Tr.hash_len _) h4 (by simp) (by simp [Tr.ht]; omega) (by simp [Tr.sz]; omega)) ?_
  rintro _ w5 ⟨rfl, hb5⟩
  repeat (first | refine TL.move rfl rfl rfl ?_ | refine TL.assign rfl rfl rfl ?_ | refine TL.nilCheck rfl rfl rfl ?_ | refine TL.fieldAddr rfl rfl rfl ?_ | refine TL.convI rfl rfl rfl ?_ | refine TL.cmpI rfl rfl rfl rfl rfl ?_ | refine TL.arith rfl rfl rfl rfl rfl ?_ | refine TL.lenS rfl rfl rfl ?_ | refine TL.lenStr rfl rfl rfl ?_ | refine TL.not rfl rfl rfl ?_ | refine TL.skipG rfl rfl ?_ | refine TL.pickT rfl rfl rfl rfl ?_ | refine TL.pickF rfl rfl rfl rfl ?_ | refine TL.extract rfl rfl rfl rfl ?_ | refine TL.maxI rfl rfl rfl rfl ?_ | refine TL.minI rfl rfl rfl rfl ?_ | refine TL.nilCheckF rfl rfl rfl ?_ | refine TL.nil ?_ | refine T.seqK fun K hK => ?_ | (refine T.regionO fun ops => ?_) | refine T.condT rfl ?_ | refine T.condF rfl ?_ | refine T.block ?_ | refine T.skip ?_ | refine T.ret ?_ | refine T.exit ?_ | (refine hK _ _ ?_; clear hK K) | clear hK K | clear ops)
  refine TL.storeRA (A := ncs (.slice a r.least.length c) nils (Tr.node l r).ht (Tr.node l r).sz l.hash r.hash) (C := [.pointer (some ⟨bl, 0, none⟩), .pointer (some ⟨br, 0, none⟩)]) (old := z32.map vb) (xs := (Tr.node l r).hash.map vb)
    rfl rfl rfl (by simpa using hR4.keepA hb5) (by rw [hln]) (by simp [Value.cells]; rfl) (by simp [Tr.hash_len, z32]) (by simp [Tr.hash_len]) (vb_all _) fun w6 hgr6 hR6 hsz6 => ?_
  repeat (first | refine TL.move rfl rfl rfl ?_ | refine TL.assign rfl rfl rfl ?_ | refine TL.nilCheck rfl rfl rfl ?_ | refine TL.fieldAddr rfl rfl rfl ?_ | refine TL.convI rfl rfl rfl ?_ | refine TL.cmpI rfl rfl rfl rfl rfl ?_ | refine TL.arith rfl rfl rfl rfl rfl ?_ | refine TL.lenS rfl rfl rfl ?_ | refine TL.lenStr rfl rfl rfl ?_ | refine TL.not rfl rfl rfl ?_ | refine TL.skipG rfl rfl ?_ | refine TL.pickT rfl rfl rfl rfl ?_ | refine TL.pickF rfl rfl rfl rfl ?_ | refine TL.extract rfl rfl rfl rfl ?_ | refine TL.maxI rfl rfl rfl rfl ?_ | refine TL.minI rfl rfl rfl rfl ?_ | refine TL.nilCheckF rfl rfl rfl ?_ | refine TL.nil ?_ | refine T.seqK fun K hK => ?_ | (refine T.regionO fun ops => ?_) | refine T.condT rfl ?_ | refine T.condF rfl ?_ | refine T.block ?_ | refine T.skip ?_ | refine T.ret ?_ | refine T.exit ?_ | (refine hK _ _ ?_; clear hK K) | clear hK K | clear ops)
  have hw5 : Ext w w5 := hw4.trans hb5
  have hw6 : Ext w w6 := Below.trans hw5 (below_grown hgr6 hbb hw5.size)
  exact ⟨_, rfl, hw6, b, _, _, _, rfl, hR6, By.ext e2 hw6, IsT.ext hw6 hl, IsT.ext hw6 hr⟩
end Go.Proofs
