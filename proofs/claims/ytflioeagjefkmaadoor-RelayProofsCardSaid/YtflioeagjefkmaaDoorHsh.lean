/- What tree.Hash comes to. Conditions: as the theorem says. -/
import Derived.Test.YtflioeagjefkmaaDoorTre
set_option linter.all false
namespace Go.Proofs
open Go.Fw Go.RowKit
attribute [local irreducible] TL T TS Ev Ret

theorem Ev.norm {P : Program} {n : Nat} {L : Sl} {o : Oper} {v v' : Value} {w : World} (e : v = v') (h : Ev P n L o v w) : Ev P n L o v' w := e ▸ h
theorem oc_slice (a : Option Addr) (m c : Nat) : (Value.slice a m c).oneCell' = true := rfl
set_option maxRecDepth 20000 in
set_option maxHeartbeats 1000000 in
theorem Hash_ret (kv vv : Value) (k v L R : List UInt8) (h s : Nat) (w : World) (hW : KW w) (hk : B0 w kv k) (hv : B0 w vv v) (hL : L.length = 32) (hR : R.length = 32) (hlk : k.length ≤ 2 ^ 30) (hlv : v.length ≤ 2 ^ 30) (hh : h < 2 ^ 62) (hs : s < 2 ^ 64) :
    Ret Tryd.prog 78 #[.agg (ncs kv vv h s L R).toArray] w fun r w' => r = .agg ((hashF k v h s L R).map vb).toArray ∧ Ext w w' := by
  obtain ⟨ka, kc, rfl, hk0⟩ := id hk
  obtain ⟨va, vc, rfl, hv0⟩ := id hv
  refine Ret.of_T2 Tryd.func78 rfl Tryd.ntmps78 Tryd.results78 rfl ?_
  repeat (first | refine TL.move rfl rfl rfl ?_ | refine TL.assign rfl rfl rfl ?_ | refine TL.nilCheck rfl rfl rfl ?_ | refine TL.fieldAddr rfl rfl rfl ?_ | refine TL.convI rfl rfl rfl ?_ | refine TL.cmpI rfl rfl rfl rfl rfl ?_ | refine TL.arith rfl rfl rfl rfl rfl ?_ | refine TL.lenS rfl rfl rfl ?_ | refine TL.lenStr rfl rfl rfl ?_ | refine TL.not rfl rfl rfl ?_ | refine TL.skipG rfl rfl ?_ | refine TL.pickT rfl rfl rfl rfl ?_ | refine TL.pickF rfl rfl rfl rfl ?_ | refine TL.extract rfl rfl rfl rfl ?_ | refine TL.maxI rfl rfl rfl rfl ?_ | refine TL.minI rfl rfl rfl rfl ?_ | refine TL.nilCheckF rfl rfl rfl ?_ | refine TL.nil ?_ | refine T.seqK fun K hK => ?_ | (refine T.regionO fun ops => ?_) | refine T.condT rfl ?_ | refine T.condF rfl ?_ | refine T.block ?_ | refine T.skip ?_ | refine T.ret ?_ | refine T.exit ?_ | (refine hK _ _ ?_; clear hK K) | clear hK K | clear ops)
  refine TL.box rfl rfl rfl fun b1 w1 hal1 => ?_
  have hN1 : Row w1 b1 (ncs (.slice ka k.length kc) (.slice va v.length vc) h s L R) 110 (0, 0) := hal1.row
  refine TL.alloc rfl rfl fun b2 w2 hal2 => ?_
  have hO2 : Row w2 b2 ([] ++ (List.replicate 32 0).map vb ++ []) 54 (0, 0) := hal2.at_
  have hN2 := hN1.keepA hal2.below
  have hb2 : w.heap.size ≤ b2 := by rw [hal2.num]; exact hal1.below.size
  have hbel2 : Ext w w2 := Ext.trans hal1.below hal2.below
  repeat (first | refine TL.move rfl rfl rfl ?_ | refine TL.assign rfl rfl rfl ?_ | refine TL.nilCheck rfl rfl rfl ?_ | refine TL.fieldAddr rfl rfl rfl ?_ | refine TL.convI rfl rfl rfl ?_ | refine TL.cmpI rfl rfl rfl rfl rfl ?_ | refine TL.arith rfl rfl rfl rfl rfl ?_ | refine TL.lenS rfl rfl rfl ?_ | refine TL.lenStr rfl rfl rfl ?_ | refine TL.not rfl rfl rfl ?_ | refine TL.skipG rfl rfl ?_ | refine TL.pickT rfl rfl rfl rfl ?_ | refine TL.pickF rfl rfl rfl rfl ?_ | refine TL.extract rfl rfl rfl rfl ?_ | refine TL.maxI rfl rfl rfl rfl ?_ | refine TL.minI rfl rfl rfl rfl ?_ | refine TL.nilCheckF rfl rfl rfl ?_ | refine TL.nil ?_ | refine T.seqK fun K hK => ?_ | (refine T.regionO fun ops => ?_) | refine T.condT rfl ?_ | refine T.condF rfl ?_ | refine T.block ?_ | refine T.skip ?_ | refine T.ret ?_ | refine T.exit ?_ | (refine hK _ _ ?_; clear hK K) | clear hK K | clear ops)
  refine TL.loadR rfl rfl rfl hN2 rfl ?_
  repeat (first | refine TL.move rfl rfl rfl ?_ | refine TL.assign rfl rfl rfl ?_ | refine TL.nilCheck rfl rfl rfl ?_ | refine TL.fieldAddr rfl rfl rfl ?_ | refine TL.convI rfl rfl rfl ?_ | refine TL.cmpI rfl rfl rfl rfl rfl ?_ | refine TL.arith rfl rfl rfl rfl rfl ?_ | refine TL.lenS rfl rfl rfl ?_ | refine TL.lenStr rfl rfl rfl ?_ | refine TL.not rfl rfl rfl ?_ | refine TL.skipG rfl rfl ?_ | refine TL.pickT rfl rfl rfl rfl ?_ | refine TL.pickF rfl rfl rfl rfl ?_ | refine TL.extract rfl rfl rfl rfl ?_ | refine TL.maxI rfl rfl rfl rfl ?_ | refine TL.minI rfl rfl rfl rfl ?_ | refine TL.nilCheckF rfl rfl rfl ?_ | refine TL.nil ?_ | refine T.seqK fun K hK => ?_ | (refine T.regionO fun ops => ?_) | refine T.condT rfl ?_ | refine T.condF rfl ?_ | refine T.block ?_ | refine T.skip ?_ | refine T.ret ?_ | refine T.exit ?_ | (refine hK _ _ ?_; clear hK K) | clear hK K | clear ops)
  refine T.cond rfl (fun hc => ?_) (fun hc => ?_)
  · have h0 : h = 0 := by simpa using hc
    subst h0
    repeat (first | refine TL.move rfl rfl rfl ?_ | refine TL.assign rfl rfl rfl ?_ | refine TL.nilCheck rfl rfl rfl ?_ | refine TL.fieldAddr rfl rfl rfl ?_ | refine TL.convI rfl rfl rfl ?_ | refine TL.cmpI rfl rfl rfl rfl rfl ?_ | refine TL.arith rfl rfl rfl rfl rfl ?_ | refine TL.lenS rfl rfl rfl ?_ | refine TL.lenStr rfl rfl rfl ?_ | refine TL.not rfl rfl rfl ?_ | refine TL.skipG rfl rfl ?_ | refine TL.pickT rfl rfl rfl rfl ?_ | refine TL.pickF rfl rfl rfl rfl ?_ | refine TL.extract rfl rfl rfl rfl ?_ | refine TL.maxI rfl rfl rfl rfl ?_ | refine TL.minI rfl rfl rfl rfl ?_ | refine TL.nilCheckF rfl rfl rfl ?_ | refine TL.nil ?_ | refine T.seqK fun K hK => ?_ | (refine T.regionO fun ops => ?_) | refine T.condT rfl ?_ | refine T.condF rfl ?_ | refine T.block ?_ | refine T.skip ?_ | refine T.ret ?_ | refine T.exit ?_ | (refine hK _ _ ?_; clear hK K) | clear hK K | clear ops)
    refine TL.loadR rfl rfl rfl hN2 rfl ?_
    refine TL.buildSlice rfl rfl rfl rfl rfl (by simp [oc_slice]) rfl fun b3 w3 hal3 => ?_
    have hbel3 := Ext.trans hbel2 hal3.below
    refine TL.call rfl rfl rfl (Sum_ret (F := Any) (G := Any) _ [v] w3 (hW.ext hbel3) (Al.bb hal3 rfl (by simp [maxLen]) (Bys.cons (hv.ext hbel2) Bys.nil)) (by simp) (by simp; omega)) ?_
    rintro _ w4 ⟨rfl, hb4⟩
    refine TL.alloc rfl rfl fun b5 w5 hal5 => ?_
    have hz5 : Row w5 b5 ([] ++ (List.replicate 32 0).map vb ++ []) 54 (0, 0) := hal5.at_
    refine TL.storeRA (xs := (shaF [v].flatten).map vb) rfl rfl rfl hz5 rfl (by simp [Value.cells]) (by simp [shaF_len]) (by simp [shaF_len]) (vb_all _) fun w6 hgr6 hH6 hsz6 => ?_
    simp only [List.flatten_cons, List.flatten_nil, List.append_nil, List.nil_append] at hH6
    have hbel5 : Ext w w5 := hbel3.trans (Ext.trans hb4 hal5.below)
    have hb5 : w.heap.size ≤ b5 := by rw [hal5.num]; exact (hbel3.trans hb4).size
    have hbel6 : Ext w w6 := Below.trans hbel5 (below_grown hgr6 hb5 hbel5.size)
    have h56 : ∀ {b l t}, Row w4 b l t (0, 0) → Row w6 b l t (0, 0) := fun hr => (hr.keepA hal5.below).keepG hgr6 (by have := hr.lt; rw [hal5.num]; simp; omega)
    have hN6 := h56 ((hN2.keepA hal3.below).keepA hb4)
    have hO6 := h56 ((hO2.keepA hal3.below).keepA hb4)
    repeat (first | refine TL.move rfl rfl rfl ?_ | refine TL.assign rfl rfl rfl ?_ | refine TL.nilCheck rfl rfl rfl ?_ | refine TL.fieldAddr rfl rfl rfl ?_ | refine TL.convI rfl rfl rfl ?_ | refine TL.cmpI rfl rfl rfl rfl rfl ?_ | refine TL.arith rfl rfl rfl rfl rfl ?_ | refine TL.lenS rfl rfl rfl ?_ | refine TL.lenStr rfl rfl rfl ?_ | refine TL.not rfl rfl rfl ?_ | refine TL.skipG rfl rfl ?_ | refine TL.pickT rfl rfl rfl rfl ?_ | refine TL.pickF rfl rfl rfl rfl ?_ | refine TL.extract rfl rfl rfl rfl ?_ | refine TL.maxI rfl rfl rfl rfl ?_ | refine TL.minI rfl rfl rfl rfl ?_ | refine TL.nilCheckF rfl rfl rfl ?_ | refine TL.nil ?_ | refine T.seqK fun K hK => ?_ | (refine T.regionO fun ops => ?_) | refine T.condT rfl ?_ | refine T.condF rfl ?_ | refine T.block ?_ | refine T.skip ?_ | refine T.ret ?_ | refine T.exit ?_ | (refine hK _ _ ?_; clear hK K) | clear hK K | clear ops)
    refine T.drawK 10 Tryd.mixed (by kernel_rfl) fun ops w7 hb7 hh7 K hK => ?_
    simp only [List.take_succ_cons, List.take_zero]
    have hbel7 : Ext w w7 := hbel6.trans hb7
    have hN7 := hN6.keepA hb7
    have hO7 := hO6.keepA hb7
    have hH7 := hH6.keepA hb7
    clear hgr6 hz5 hsz6 h56 hb4 hal5 hal3 hal2 hal1 hh7 hN1 hN2 hO2 hN6 hO6 hH6 hbel2 hbel3 hbel5 hbel6
    refine DR.v _ rfl (fun w' σ he => Ev.fieldAddr rfl) ?_
    refine DR.v _ rfl (fun w' σ he => Ev.loadR rfl (hN7.keepA he) rfl) ?_
    refine DR.v _ rfl (fun w' σ he => Ev.lenS rfl) ?_
    refine DR.v (vb (UInt8.ofNat k.length)) rfl (fun w' σ he => Ev.norm (by rw [wr_u8_nat]; rfl) (Ev.convI rfl)) ?_
    refine DR.a (fun u w' => B0 w' u [0, UInt8.ofNat k.length]) (fun u w1 w2 h e => By.ext h e) (fun w' σ he hσ => ?_) ?_
    · refine TL.buildSlice (vs := [vb 0, vb _]) rfl rfl rfl rfl rfl (by simp [vb_oneCell]) rfl fun b w3 hal => TL.nil ⟨hal.below, _, rfl, ?_⟩
      exact By.any (F := (· = b)) (hal.rd rfl (by simp [maxLen]))
    refine DR.v _ rfl (fun w' σ he => Ev.fieldAddr rfl) ?_
    refine DR.v _ rfl (fun w' σ he => Ev.loadR rfl (hN7.keepA he) rfl) ?_
    refine DR.v _ rfl (fun w' σ he => Ev.sliceArr rfl) ?_
    refine DR.a (fun u w' => BB Any Any w' u [[0, UInt8.ofNat k.length], k, shaF v]) (fun u w1 w2 h e => BB.ext h e) (fun w' σ he hσ => ?_) ?_
    · have h15 := hσ.get 15 rfl
      obtain ⟨sa, sc, hs15, _⟩ := h15.shape
      refine TL.buildSlice (vs := [σ 15, _, _]) rfl rfl rfl rfl rfl (by rw [hs15]; simp [oc_slice]) rfl fun b w3 hal => TL.nil ⟨hal.below, _, rfl, ?_⟩
      refine Al.bb (G := Any) hal rfl (by simp [maxLen]) (Bys.cons h15 (Bys.cons (By.ext hk (Ext.trans hbel7 he)) (Bys.cons ?_ Bys.nil)))
      have := Row.by_ (A := []) (C := []) (l := shaF v) (t := 54) (fr := (0, 0)) (by simpa using hH7.keepA he) (by simp [shaF_len, maxLen])
      rw [shaF_len] at this
      exact this
    refine DR.vT (.agg ((hashF k v 0 s L R).map vb).toArray) (fun w' σ he hσ => ?_) ?_
    · have h19 := hσ.get 19 rfl
      refine TL.call (vs := [σ 19]) rfl rfl rfl (Sum_ret (F := Any) (G := Any) _ [[0, UInt8.ofNat k.length], k, shaF v] w' (hW.ext (Ext.trans hbel7 he)) h19 (by simp) (by simp [shaF_len]; omega)) ?_
      rintro _ w4 ⟨rfl, hb4⟩
      exact TL.nil ⟨hb4, rfl⟩
    refine DR.nil (hK _ fun w' σ he hσ => ?_)
    simp only [List.drop_succ_cons, List.drop_zero]
    clear hK K
    refine TL.storeRA (A := []) (C := []) (old := (List.replicate 32 0).map vb) (xs := (hashF k v 0 s L R).map vb) rfl rfl rfl (hO7.keepA he) rfl (by simp [Value.cells]) (by simp [hashF_len]) (by simp [hashF_len]) (vb_all _) fun w12 hgr12 hO12 hsz => ?_
    repeat (first | refine TL.move rfl rfl rfl ?_ | refine TL.assign rfl rfl rfl ?_ | refine TL.nilCheck rfl rfl rfl ?_ | refine TL.fieldAddr rfl rfl rfl ?_ | refine TL.convI rfl rfl rfl ?_ | refine TL.cmpI rfl rfl rfl rfl rfl ?_ | refine TL.arith rfl rfl rfl rfl rfl ?_ | refine TL.lenS rfl rfl rfl ?_ | refine TL.lenStr rfl rfl rfl ?_ | refine TL.not rfl rfl rfl ?_ | refine TL.skipG rfl rfl ?_ | refine TL.pickT rfl rfl rfl rfl ?_ | refine TL.pickF rfl rfl rfl rfl ?_ | refine TL.extract rfl rfl rfl rfl ?_ | refine TL.maxI rfl rfl rfl rfl ?_ | refine TL.minI rfl rfl rfl rfl ?_ | refine TL.nilCheckF rfl rfl rfl ?_ | refine TL.nil ?_ | refine T.seqK fun K hK => ?_ | (refine T.regionO fun ops => ?_) | refine T.condT rfl ?_ | refine T.condF rfl ?_ | refine T.block ?_ | refine T.skip ?_ | refine T.ret ?_ | refine T.exit ?_ | (refine hK _ _ ?_; clear hK K) | clear hK K | clear ops)
    refine ⟨_, ResV.cellA (xs := (hashF k v 0 s L R).map vb) rfl (by simp [hashF_len]) (fun j u hu => by rw [hO12.cell]; simpa using hu), rfl, ?_⟩
    exact Below.trans (Ext.trans hbel7 he) (below_grown hgr12 hb2 (Ext.trans hbel7 he).size)
  · have h0 : h ≠ 0 := by rintro rfl; simp at hc
    repeat (first | refine TL.move rfl rfl rfl ?_ | refine TL.assign rfl rfl rfl ?_ | refine TL.nilCheck rfl rfl rfl ?_ | refine TL.fieldAddr rfl rfl rfl ?_ | refine TL.convI rfl rfl rfl ?_ | refine TL.cmpI rfl rfl rfl rfl rfl ?_ | refine TL.arith rfl rfl rfl rfl rfl ?_ | refine TL.lenS rfl rfl rfl ?_ | refine TL.lenStr rfl rfl rfl ?_ | refine TL.not rfl rfl rfl ?_ | refine TL.skipG rfl rfl ?_ | refine TL.pickT rfl rfl rfl rfl ?_ | refine TL.pickF rfl rfl rfl rfl ?_ | refine TL.extract rfl rfl rfl rfl ?_ | refine TL.maxI rfl rfl rfl rfl ?_ | refine TL.minI rfl rfl rfl rfl ?_ | refine TL.nilCheckF rfl rfl rfl ?_ | refine TL.nil ?_ | refine T.seqK fun K hK => ?_ | (refine T.regionO fun ops => ?_) | refine T.condT rfl ?_ | refine T.condF rfl ?_ | refine T.block ?_ | refine T.skip ?_ | refine T.ret ?_ | refine T.exit ?_ | (refine hK _ _ ?_; clear hK K) | clear hK K | clear ops)
    refine T.drawK 13 Tryd.mixed (by kernel_rfl) fun ops w7 hb7 hh7 K hK => ?_
    simp only [List.take_succ_cons, List.take_zero]
    have hbel7 : Ext w w7 := hbel2.trans hb7
    have hN7 := hN2.keepA hb7
    have hO7 := hO2.keepA hb7
    clear hal2 hal1 hh7 hN1 hN2 hO2 hbel2
    refine DR.v _ rfl (fun w' σ he => Ev.fieldAddr rfl) ?_
    refine DR.v _ rfl (fun w' σ he => Ev.loadR rfl (hN7.keepA he) rfl) ?_
    refine DR.v (vb (UInt8.ofNat h)) rfl (fun w' σ he => Ev.norm (by rw [wr_u8_nat]; rfl) (Ev.convI rfl)) ?_
    refine DR.a (fun u w' => B0 w' u [1, UInt8.ofNat h]) (fun u w1 w2 h e => By.ext h e) (fun w' σ he hσ => ?_) ?_
    · refine TL.buildSlice (vs := [vb 1, vb _]) rfl rfl rfl rfl rfl (by simp [vb_oneCell]) rfl fun b w3 hal => TL.nil ⟨hal.below, _, rfl, ?_⟩
      exact By.any (F := (· = b)) (hal.rd rfl (by simp [maxLen]))
    refine DR.v _ rfl (fun w' σ he => Ev.fieldAddr rfl) ?_
    refine DR.v _ rfl (fun w' σ he => Ev.loadR rfl (hN7.keepA he) rfl) ?_
    refine DR.a (fun u w' => B0 w' u (be8 s 8)) (fun u w1 w2 h e => By.ext h e) (fun w' σ he hσ => ?_) ?_
    · refine TL.call rfl rfl rfl (Size_ret s hs w') ?_
      rintro r w3 ⟨h1, h2⟩
      exact TL.nil ⟨h1, _, rfl, h2⟩
    refine DR.v _ rfl (fun w' σ he => Ev.fieldAddr rfl) ?_
    refine DR.v _ rfl (fun w' σ he => Ev.sliceArr rfl) ?_
    refine DR.v _ rfl (fun w' σ he => Ev.fieldAddr rfl) ?_
    refine DR.v _ rfl (fun w' σ he => Ev.sliceArr rfl) ?_
    refine DR.a (fun u w' => BB Any Any w' u [[1, UInt8.ofNat h], be8 s 8, L, R]) (fun u w1 w2 h e => BB.ext h e) (fun w' σ he hσ => ?_) ?_
    · have h1 := hσ.get 24 rfl
      have h2 := hσ.get 27 rfl
      obtain ⟨_, _, hs1, _⟩ := h1.shape
      obtain ⟨_, _, hs2, _⟩ := h2.shape
      refine TL.buildSlice (vs := [σ 24, σ 27, _, _]) rfl rfl rfl rfl rfl (by rw [hs1, hs2]; simp [oc_slice]) rfl fun b w3 hal => TL.nil ⟨hal.below, _, rfl, ?_⟩
      have hN := hN7.keepA he
      have hl := Row.by_ (A := [.slice ka k.length kc, .slice va v.length vc, .int .i64 h, .int .u64 s]) (C := R.map vb) (l := L) hN (by simp [hL, maxLen])
      have hr := Row.by_ (A := [.slice ka k.length kc, .slice va v.length vc, .int .i64 h, .int .u64 s] ++ L.map vb) (C := []) (l := R) (t := 110) (fr := (0, 0)) (by rw [List.append_nil]; exact hN) (by simp [hR, maxLen])
      simp only [List.length_append, List.length_map, hL, hR, List.length_cons, List.length_nil] at hl hr
      exact Al.bb (G := Any) hal rfl (by simp [maxLen]) (Bys.cons h1 (Bys.cons h2 (Bys.cons hl (Bys.cons hr Bys.nil))))
    refine DR.vT (.agg ((hashF k v h s L R).map vb).toArray) (fun w' σ he hσ => ?_) ?_
    · have h1 := hσ.get 32 rfl
      refine TL.call (vs := [σ 32]) rfl rfl rfl (Sum_ret (F := Any) (G := Any) _ [[1, UInt8.ofNat h], be8 s 8, L, R] w' (hW.ext (Ext.trans hbel7 he)) h1 (by simp) (by simp [be8_len, hL, hR])) ?_
      rintro _ w4 ⟨rfl, hb4⟩
      exact TL.nil ⟨hb4, by simp [lk, hashF, h0]⟩
    refine DR.nil (hK _ fun w' σ he hσ => ?_)
    simp only [List.drop_succ_cons, List.drop_zero]
    clear hK K
    refine TL.storeRA (A := []) (C := []) (old := (List.replicate 32 0).map vb) (xs := (hashF k v h s L R).map vb) rfl rfl rfl (hO7.keepA he) rfl (by simp [Value.cells]) (by simp [hashF_len]) (by simp [hashF_len]) (vb_all _) fun w12 hgr12 hO12 hsz => ?_
    repeat (first | refine TL.move rfl rfl rfl ?_ | refine TL.assign rfl rfl rfl ?_ | refine TL.nilCheck rfl rfl rfl ?_ | refine TL.fieldAddr rfl rfl rfl ?_ | refine TL.convI rfl rfl rfl ?_ | refine TL.cmpI rfl rfl rfl rfl rfl ?_ | refine TL.arith rfl rfl rfl rfl rfl ?_ | refine TL.lenS rfl rfl rfl ?_ | refine TL.lenStr rfl rfl rfl ?_ | refine TL.not rfl rfl rfl ?_ | refine TL.skipG rfl rfl ?_ | refine TL.pickT rfl rfl rfl rfl ?_ | refine TL.pickF rfl rfl rfl rfl ?_ | refine TL.extract rfl rfl rfl rfl ?_ | refine TL.maxI rfl rfl rfl rfl ?_ | refine TL.minI rfl rfl rfl rfl ?_ | refine TL.nilCheckF rfl rfl rfl ?_ | refine TL.nil ?_ | refine T.seqK fun K hK => ?_ | (refine T.regionO fun ops => ?_) | refine T.condT rfl ?_ | refine T.condF rfl ?_ | refine T.block ?_ | refine T.skip ?_ | refine T.ret ?_ | refine T.exit ?_ | (refine hK _ _ ?_; clear hK K) | clear hK K | clear ops)
    refine ⟨_, ResV.cellA (xs := (hashF k v h s L R).map vb) rfl (by simp [hashF_len]) (fun j u hu => by rw [hO12.cell]; simpa using hu), rfl, ?_⟩
    exact Below.trans (Ext.trans hbel7 he) (below_grown hgr12 hb2 (Ext.trans hbel7 he).size)
end Go.Proofs
