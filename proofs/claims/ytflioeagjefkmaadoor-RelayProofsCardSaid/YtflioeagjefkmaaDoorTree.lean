/- What the exported functions of tree come to. Conditions: as each theorem says. -/
import Derived.Test.YtflioeagjefkmaaDoorCut
import Derived.Test.YtflioeagjefkmaaDoorFwH
set_option linter.all false
namespace Go.Proofs
open Go.Fw Go.RowKit
attribute [local irreducible] TL T TS Ev Ret

/-- what a node shows -/
structure Nd where
  k : List UInt8
  v : List UInt8
  h : Nat
  s : Nat
  L : List UInt8
  R : List UInt8
def Nd.hash (d : Nd) : List UInt8 := hashF d.k d.v d.h d.s d.L d.R
def Tr.nd (t : Tr) : Nd := ⟨t.key, t.val, t.ht, t.sz, t.lh, t.rh⟩
def nd0 : Nd := ⟨[], [], 0, 0, z32, z32⟩
structure Nd.ok (d : Nd) : Prop where
  L : d.L.length = 32
  R : d.R.length = 32
  k : d.k.length ≤ 2 ^ 30
  v : d.v.length ≤ 2 ^ 30
  h : d.h < 2 ^ 60
  s : d.s < 2 ^ 60
theorem Tr.nd_ok {t : Tr} (hf : t.fit) (hs : t.sz < 2 ^ 60) : t.nd.ok := ⟨Tr.lh_len t, Tr.rh_len t, Tr.key_le hf, Tr.val_le hf, by have := Tr.ht_lt t; simp only [Tr.nd]; omega, hs⟩
theorem nd0_ok : nd0.ok := ⟨rfl, rfl, by simp [nd0], by simp [nd0], by simp [nd0], by simp [nd0]⟩
/-- an api.Node as a value -/
def IsN (w : World) (d : Nd) (u : Value) : Prop := ∃ kv vv, u = .agg (ncs kv vv d.h d.s d.L d.R).toArray ∧ B0 w kv d.k ∧ B0 w vv d.v
/-- as IsN, where its bytes lie is told -/
def IsNF (F : Nat → Prop) (w : World) (d : Nd) (u : Value) : Prop := ∃ kv vv, u = .agg (ncs kv vv d.h d.s d.L d.R).toArray ∧ By F w kv d.k ∧ By F w vv d.v
theorem IsNF.isN {F : Nat → Prop} {w : World} {d : Nd} {u : Value} (h : IsNF F w d u) : IsN w d u := let ⟨a, b, h1, h2, h3⟩ := h; ⟨a, b, h1, By.any h2, By.any h3⟩
theorem By.nilF (F : Nat → Prop) (w : World) : By F w nils [] := ⟨none, 0, rfl, by simp, Nat.le_refl _, Nat.zero_le _, fun _ => rfl, fun h => absurd rfl h⟩
theorem IsN.ext {w w' : World} {d : Nd} {u : Value} (he : Ext w w') (h : IsN w d u) : IsN w' d u := let ⟨kv, vv, h1, h2, h3⟩ := h; ⟨kv, vv, h1, By.ext h2 he, By.ext h3 he⟩

set_option maxRecDepth 20000 in
set_option maxHeartbeats 2000000 in
theorem copied_ret (d : Nd) (hd : d.ok) (u : Value) (w : World) (hu : IsN w d u) : Ret Tryd.prog 106 #[u] w fun u' w' => Ext w w' ∧ ∃ kv vv, u' = .agg (ncs kv vv d.h d.s d.L d.R).toArray ∧ By (w.heap.size ≤ ·) w' kv d.k ∧ By (w.heap.size ≤ ·) w' vv d.v := by
  obtain ⟨k, v, h, s, L, R⟩ := d
  obtain ⟨hL, hR, hk, hv, hh, hs⟩ := hd
  obtain ⟨kv, vv, rfl, hkv, hvv⟩ := hu
  simp only at hkv hvv hL hR hk hv ⊢
  refine Ret.of_T2 Tryd.func106 rfl Tryd.ntmps106 Tryd.results106 rfl ?_
  repeat (first | refine TL.move rfl rfl rfl ?_ | refine TL.assign rfl rfl rfl ?_ | refine TL.nilCheck rfl rfl rfl ?_ | refine TL.fieldAddr rfl rfl rfl ?_ | refine TL.convI rfl rfl rfl ?_ | refine TL.cmpI rfl rfl rfl rfl rfl ?_ | refine TL.arith rfl rfl rfl rfl rfl ?_ | refine TL.lenS rfl rfl rfl ?_ | refine TL.lenStr rfl rfl rfl ?_ | refine TL.not rfl rfl rfl ?_ | refine TL.skipG rfl rfl ?_ | refine TL.pickT rfl rfl rfl rfl ?_ | refine TL.pickF rfl rfl rfl rfl ?_ | refine TL.extract rfl rfl rfl rfl ?_ | refine TL.maxI rfl rfl rfl rfl ?_ | refine TL.minI rfl rfl rfl rfl ?_ | refine TL.nilCheckF rfl rfl rfl ?_ | refine TL.nil ?_ | refine T.seqK fun K hK => ?_ | (refine T.regionO fun ops => ?_) | refine T.condT rfl ?_ | refine T.condF rfl ?_ | refine T.block ?_ | refine T.skip ?_ | refine T.ret ?_ | refine T.exit ?_ | (refine hK _ _ ?_; clear hK K) | clear hK K | clear ops)
  refine TL.box rfl rfl rfl fun b1 w1 hal1 => ?_
  have hN1 : Row w1 b1 (ncs kv vv h s L R) 110 (0, 0) := hal1.row
  refine TL.alloc rfl rfl fun b2 w2 hal2 => ?_
  have hO2 : Row w2 b2 (ncs nils nils 0 0 z32 z32) 110 (0, 0) := hal2.at_
  have hN2 := hN1.keepA hal2.below
  have hb1 : w.heap.size ≤ b1 := by rw [hal1.num]; exact Nat.le_refl _
  have hb2 : w.heap.size ≤ b2 := by rw [hal2.num]; exact hal1.below.size
  have hb12 : b1 < b2 := by rw [hal2.num]; exact hN1.lt
  have hbel2 : Ext w w2 := Ext.trans hal1.below hal2.below
  clear hal1 hal2
  repeat (first | refine TL.move rfl rfl rfl ?_ | refine TL.assign rfl rfl rfl ?_ | refine TL.nilCheck rfl rfl rfl ?_ | refine TL.fieldAddr rfl rfl rfl ?_ | refine TL.convI rfl rfl rfl ?_ | refine TL.cmpI rfl rfl rfl rfl rfl ?_ | refine TL.arith rfl rfl rfl rfl rfl ?_ | refine TL.lenS rfl rfl rfl ?_ | refine TL.lenStr rfl rfl rfl ?_ | refine TL.not rfl rfl rfl ?_ | refine TL.skipG rfl rfl ?_ | refine TL.pickT rfl rfl rfl rfl ?_ | refine TL.pickF rfl rfl rfl rfl ?_ | refine TL.extract rfl rfl rfl rfl ?_ | refine TL.maxI rfl rfl rfl rfl ?_ | refine TL.minI rfl rfl rfl rfl ?_ | refine TL.nilCheckF rfl rfl rfl ?_ | refine TL.nil ?_ | refine T.seqK fun K hK => ?_ | (refine T.regionO fun ops => ?_) | refine T.condT rfl ?_ | refine T.condF rfl ?_ | refine T.block ?_ | refine T.skip ?_ | refine T.ret ?_ | refine T.exit ?_ | (refine hK _ _ ?_; clear hK K) | clear hK K | clear ops)
  refine T.drawK 7 Tryd.mixed (by kernel_rfl) fun ops w3 hb3 hh3 K hK => ?_
  have hN3 := hN2.keepA hb3
  have hO3 := hO2.keepA hb3
  have hw3 : Ext w w3 := Ext.trans hbel2 hb3
  have hlt2 : b2 < w3.heap.size := hO3.lt
  simp only [List.take_succ_cons, List.take_zero]
  refine DR.v _ rfl (fun w' σ he => Ev.fieldAddr rfl) ?_
  refine DR.v _ rfl (fun w' σ he => Ev.loadR rfl (hN3.keepA he) rfl) ?_
  refine DR.a (fun u w' => By (w3.heap.size ≤ ·) w' u k) (fun u w1 w2 h e => By.ext h e) (fun w' σ he hσ => ?_) ?_
  · refine TL.call rfl rfl rfl (Clone_ret kv k w' (By.ext hkv (hw3.trans he)) (by omega)) ?_
    rintro u w5 h5
    exact TL.nil ⟨h5.below, u, rfl, (h5.by_).sub fun k hk => Nat.le_trans he.size hk⟩
  refine DR.v _ rfl (fun w' σ he => Ev.fieldAddr rfl) ?_
  refine DR.v _ rfl (fun w' σ he => Ev.loadR rfl (hN3.keepA he) rfl) ?_
  refine DR.a (fun u w' => By (w3.heap.size ≤ ·) w' u v) (fun u w1 w2 h e => By.ext h e) (fun w' σ he hσ => ?_) ?_
  · refine TL.call rfl rfl rfl (Clone_ret vv v w' (By.ext hvv (hw3.trans he)) (by omega)) ?_
    rintro u w5 h5
    exact TL.nil ⟨h5.below, u, rfl, (h5.by_).sub fun k hk => Nat.le_trans he.size hk⟩
  refine DR.v _ rfl (fun w' σ he => Ev.fieldAddr rfl) ?_
  refine DR.nil (hK _ fun w4 σ he hσ => ?_)
  simp only [List.drop_succ_cons, List.drop_zero]
  clear hK K
  have hw4 : Ext w w4 := hw3.trans he
  have hN4 := hN3.keepA he
  have hO4 := hO3.keepA he
  have h5 := hσ.get 5 rfl
  have h8 := hσ.get 8 rfl
  obtain ⟨a5, c5, e5, _⟩ := h5.shape
  obtain ⟨a8, c8, e8, _⟩ := h8.shape
  refine TL.storeRS (i := 0) rfl rfl rfl hN4 rfl (by simp [ncs]) (by rw [e5]; rfl) fun w5 hg5 hN5 hs5 => ?_
  repeat (first | refine TL.move rfl rfl rfl ?_ | refine TL.assign rfl rfl rfl ?_ | refine TL.nilCheck rfl rfl rfl ?_ | refine TL.fieldAddr rfl rfl rfl ?_ | refine TL.convI rfl rfl rfl ?_ | refine TL.cmpI rfl rfl rfl rfl rfl ?_ | refine TL.arith rfl rfl rfl rfl rfl ?_ | refine TL.lenS rfl rfl rfl ?_ | refine TL.lenStr rfl rfl rfl ?_ | refine TL.not rfl rfl rfl ?_ | refine TL.skipG rfl rfl ?_ | refine TL.pickT rfl rfl rfl rfl ?_ | refine TL.pickF rfl rfl rfl rfl ?_ | refine TL.extract rfl rfl rfl rfl ?_ | refine TL.maxI rfl rfl rfl rfl ?_ | refine TL.minI rfl rfl rfl rfl ?_ | refine TL.nilCheckF rfl rfl rfl ?_)
  refine TL.storeRS (i := 1) rfl rfl rfl hN5 rfl (by simp [ncs]) (by rw [e8]; rfl) fun w6 hg6 hN6 hs6 => ?_
  have hw5 : Ext w w5 := Below.trans hw4 (below_grown hg5 hb1 hw4.size)
  have hw6 : Ext w w6 := Below.trans hw5 (below_grown hg6 hb1 hw5.size)
  have hO6 := (hO4.keepG hg5 (by simp; omega)).keepG hg6 (by simp; omega)
  have hN6' : Row w6 b1 (ncs (σ 5) (σ 8) h s L R) 110 (0, 0) := hN6
  have hln : (ncs (σ 5) (σ 8) h s L R).length = 68 := ncs_len _ _ _ _ _ _ hL hR
  repeat (first | refine TL.move rfl rfl rfl ?_ | refine TL.assign rfl rfl rfl ?_ | refine TL.nilCheck rfl rfl rfl ?_ | refine TL.fieldAddr rfl rfl rfl ?_ | refine TL.convI rfl rfl rfl ?_ | refine TL.cmpI rfl rfl rfl rfl rfl ?_ | refine TL.arith rfl rfl rfl rfl rfl ?_ | refine TL.lenS rfl rfl rfl ?_ | refine TL.lenStr rfl rfl rfl ?_ | refine TL.not rfl rfl rfl ?_ | refine TL.skipG rfl rfl ?_ | refine TL.pickT rfl rfl rfl rfl ?_ | refine TL.pickF rfl rfl rfl rfl ?_ | refine TL.extract rfl rfl rfl rfl ?_ | refine TL.maxI rfl rfl rfl rfl ?_ | refine TL.minI rfl rfl rfl rfl ?_ | refine TL.nilCheckF rfl rfl rfl ?_ | refine TL.nil ?_ | refine T.seqK fun K hK => ?_ | (refine T.regionO fun ops => ?_) | refine T.condT rfl ?_ | refine T.condF rfl ?_ | refine T.block ?_ | refine T.skip ?_ | refine T.ret ?_ | refine T.exit ?_ | (refine hK _ _ ?_; clear hK K) | clear hK K | clear ops)
  refine TL.ev rfl rfl (Ev.loadRA (xs := ncs (σ 5) (σ 8) h s L R) rfl hN6' (List.take_of_length_le (by simp [hln])) hln) ?_
  refine TL.storeRA (A := []) (C := []) (old := ncs nils nils 0 0 z32 z32) (xs := ncs (σ 5) (σ 8) h s L R) rfl rfl rfl (by simpa using hO6) rfl (by simp [Value.cells]) (by rw [hln]; rfl) hln (by
      intro u hu
      simp only [ncs, List.mem_append, List.mem_cons, List.not_mem_nil, or_false] at hu
      rcases hu with ((rfl | rfl | rfl | rfl) | hu) | hu
      · rw [e5]; rfl
      · rw [e8]; rfl
      · rfl
      · rfl
      · exact vb_all _ u hu
      · exact vb_all _ u hu) fun w7 hg7 hO7 hs7 => ?_
  repeat (first | refine TL.move rfl rfl rfl ?_ | refine TL.assign rfl rfl rfl ?_ | refine TL.nilCheck rfl rfl rfl ?_ | refine TL.fieldAddr rfl rfl rfl ?_ | refine TL.convI rfl rfl rfl ?_ | refine TL.cmpI rfl rfl rfl rfl rfl ?_ | refine TL.arith rfl rfl rfl rfl rfl ?_ | refine TL.lenS rfl rfl rfl ?_ | refine TL.lenStr rfl rfl rfl ?_ | refine TL.not rfl rfl rfl ?_ | refine TL.skipG rfl rfl ?_ | refine TL.pickT rfl rfl rfl rfl ?_ | refine TL.pickF rfl rfl rfl rfl ?_ | refine TL.extract rfl rfl rfl rfl ?_ | refine TL.maxI rfl rfl rfl rfl ?_ | refine TL.minI rfl rfl rfl rfl ?_ | refine TL.nilCheckF rfl rfl rfl ?_ | refine TL.nil ?_ | refine T.seqK fun K hK => ?_ | (refine T.regionO fun ops => ?_) | refine T.condT rfl ?_ | refine T.condF rfl ?_ | refine T.block ?_ | refine T.skip ?_ | refine T.ret ?_ | refine T.exit ?_ | (refine hK _ _ ?_; clear hK K) | clear hK K | clear ops)
  have hw7 : Ext w w7 := Below.trans hw6 (below_grown hg7 hb2 hw6.size)
  refine ⟨_, ResV.cellA (xs := ncs (σ 5) (σ 8) h s L R) rfl hln (fun j u hu => by rw [hO7.cell]; simpa using hu), hw7, σ 5, σ 8, rfl, ?_, ?_⟩
  · exact By.sub (F := fun k => w3.heap.size ≤ k) (((By.keep h5 (Same.ofGrown hg5 fun k hk => by simp; omega)).keep (Same.ofGrown hg6 fun k hk => by simp; omega)).keep (Same.ofGrown hg7 fun k hk => by simp; omega)) fun k hk => Nat.le_trans hw3.size hk
  · exact By.sub (F := fun k => w3.heap.size ≤ k) (((By.keep h8 (Same.ofGrown hg5 fun k hk => by simp; omega)).keep (Same.ofGrown hg6 fun k hk => by simp; omega)).keep (Same.ofGrown hg7 fun k hk => by simp; omega)) fun k hk => Nat.le_trans hw3.size hk
end Go.Proofs
