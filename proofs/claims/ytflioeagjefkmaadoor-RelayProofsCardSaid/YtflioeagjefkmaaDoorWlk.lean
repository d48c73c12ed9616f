/- What tree.walk and Tree.All come to. Conditions: as each theorem says. -/
import Derived.Test.YtflioeagjefkmaaDoorTrn
import Derived.Test.YtflioeagjefkmaaDoorFwI
set_option linter.all false
namespace Go.Proofs
open Go.Fw Go.RowKit
attribute [local irreducible] TL T TS Ev Ret

def Tr.leaves : Tr → List (List UInt8 × List UInt8)
  | .leaf k v => [(k, v)]
  | .node l r => l.leaves ++ r.leaves
theorem Tr.leaves_len (t : Tr) : t.leaves.length = t.sz := by
  induction t with
  | leaf k v => rfl
  | node l r ihl ihr => simp [Tr.leaves, Tr.sz, ihl, ihr]
abbrev LP (w0 w : World) (v : Value) (ps : List (List UInt8 × List UInt8)) : Prop := LstG pairE (w0.heap.size ≤ ·) w0.heap.size w0 w 31 v ps

set_option maxRecDepth 20000 in
theorem walkNil_ret (out : Value) (w : World) : Ret Tryd.prog 77 #[nilp, out] w fun u w' => u = out ∧ w' = w := by
  refine Ret.of_T Tryd.func77 rfl Tryd.ntmps77 Tryd.results77 rfl ?_
  repeat (first | refine TL.move rfl rfl rfl ?_ | refine TL.assign rfl rfl rfl ?_ | refine TL.nilCheck rfl rfl rfl ?_ | refine TL.fieldAddr rfl rfl rfl ?_ | refine TL.convI rfl rfl rfl ?_ | refine TL.cmpI rfl rfl rfl rfl rfl ?_ | refine TL.arith rfl rfl rfl rfl rfl ?_ | refine TL.lenS rfl rfl rfl ?_ | refine TL.lenStr rfl rfl rfl ?_ | refine TL.not rfl rfl rfl ?_ | refine TL.skipG rfl rfl ?_ | refine TL.pickT rfl rfl rfl rfl ?_ | refine TL.pickF rfl rfl rfl rfl ?_ | refine TL.extract rfl rfl rfl rfl ?_ | refine TL.maxI rfl rfl rfl rfl ?_ | refine TL.minI rfl rfl rfl rfl ?_ | refine TL.nilCheckF rfl rfl rfl ?_ | refine TL.nil ?_ | refine T.seqK fun K hK => ?_ | (refine T.regionO fun ops => ?_) | refine T.condT rfl ?_ | refine T.condF rfl ?_ | refine T.block ?_ | refine T.skip ?_ | refine T.ret ?_ | refine T.exit ?_ | (refine hK _ _ ?_; clear hK K) | clear hK K | clear ops)
  refine TL.eqPtr rfl rfl rfl rfl ?_
  repeat (first | refine TL.move rfl rfl rfl ?_ | refine TL.assign rfl rfl rfl ?_ | refine TL.nilCheck rfl rfl rfl ?_ | refine TL.fieldAddr rfl rfl rfl ?_ | refine TL.convI rfl rfl rfl ?_ | refine TL.cmpI rfl rfl rfl rfl rfl ?_ | refine TL.arith rfl rfl rfl rfl rfl ?_ | refine TL.lenS rfl rfl rfl ?_ | refine TL.lenStr rfl rfl rfl ?_ | refine TL.not rfl rfl rfl ?_ | refine TL.skipG rfl rfl ?_ | refine TL.pickT rfl rfl rfl rfl ?_ | refine TL.pickF rfl rfl rfl rfl ?_ | refine TL.extract rfl rfl rfl rfl ?_ | refine TL.maxI rfl rfl rfl rfl ?_ | refine TL.minI rfl rfl rfl rfl ?_ | refine TL.nilCheckF rfl rfl rfl ?_ | refine TL.nil ?_ | refine T.seqK fun K hK => ?_ | (refine T.regionO fun ops => ?_) | refine T.condT rfl ?_ | refine T.condF rfl ?_ | refine T.block ?_ | refine T.skip ?_ | refine T.ret ?_ | refine T.exit ?_ | (refine hK _ _ ?_; clear hK K) | clear hK K | clear ops)
  exact ⟨_, rfl, rfl, rfl⟩

set_option maxRecDepth 20000 in
set_option maxHeartbeats 2000000 in
theorem walk_ret (w0 : World) : ∀ (t : Tr) (p out : Value) (w : World) (xs : List (List UInt8 × List UInt8)) (_ : IsT w0 t p) (_ : t.fit) (_ : LP w0 w out xs) (_ : xs.length + t.sz ≤ 2 ^ 36),
    Ret Tryd.prog 77 #[p, out] w fun u w' => LP w0 w' u (xs ++ t.leaves) ∧ Below w0.heap.size w w' := by
  intro t
  induction t with
  | leaf k v =>
    intro p out w xs ht hf hl hs
    obtain ⟨b0, kv, vv, pl, pr, rfl, hrow, hkey, hval, hc⟩ := id ht.out
    have hb := hl.below
    have hrow1 := hrow.keepA hb
    have hk1 := By.ext hkey hb
    have hv1 := By.ext hval hb
    refine Ret.of_T Tryd.func77 rfl Tryd.ntmps77 Tryd.results77 rfl ?_
    repeat (first | refine TL.move rfl rfl rfl ?_ | refine TL.assign rfl rfl rfl ?_ | refine TL.nilCheck rfl rfl rfl ?_ | refine TL.fieldAddr rfl rfl rfl ?_ | refine TL.convI rfl rfl rfl ?_ | refine TL.cmpI rfl rfl rfl rfl rfl ?_ | refine TL.arith rfl rfl rfl rfl rfl ?_ | refine TL.lenS rfl rfl rfl ?_ | refine TL.lenStr rfl rfl rfl ?_ | refine TL.not rfl rfl rfl ?_ | refine TL.skipG rfl rfl ?_ | refine TL.pickT rfl rfl rfl rfl ?_ | refine TL.pickF rfl rfl rfl rfl ?_ | refine TL.extract rfl rfl rfl rfl ?_ | refine TL.maxI rfl rfl rfl rfl ?_ | refine TL.minI rfl rfl rfl rfl ?_ | refine TL.nilCheckF rfl rfl rfl ?_ | refine TL.nil ?_ | refine T.seqK fun K hK => ?_ | (refine T.regionO fun ops => ?_) | refine T.condT rfl ?_ | refine T.condF rfl ?_ | refine T.block ?_ | refine T.skip ?_ | refine T.ret ?_ | refine T.exit ?_ | (refine hK _ _ ?_; clear hK K) | clear hK K | clear ops)
    refine TL.eqPtr rfl rfl rfl rfl ?_
    repeat (first | refine TL.move rfl rfl rfl ?_ | refine TL.assign rfl rfl rfl ?_ | refine TL.nilCheck rfl rfl rfl ?_ | refine TL.fieldAddr rfl rfl rfl ?_ | refine TL.convI rfl rfl rfl ?_ | refine TL.cmpI rfl rfl rfl rfl rfl ?_ | refine TL.arith rfl rfl rfl rfl rfl ?_ | refine TL.lenS rfl rfl rfl ?_ | refine TL.lenStr rfl rfl rfl ?_ | refine TL.not rfl rfl rfl ?_ | refine TL.skipG rfl rfl ?_ | refine TL.pickT rfl rfl rfl rfl ?_ | refine TL.pickF rfl rfl rfl rfl ?_ | refine TL.extract rfl rfl rfl rfl ?_ | refine TL.maxI rfl rfl rfl rfl ?_ | refine TL.minI rfl rfl rfl rfl ?_ | refine TL.nilCheckF rfl rfl rfl ?_ | refine TL.nil ?_ | refine T.seqK fun K hK => ?_ | (refine T.regionO fun ops => ?_) | refine T.condT rfl ?_ | refine T.condF rfl ?_ | refine T.block ?_ | refine T.skip ?_ | refine T.ret ?_ | refine T.exit ?_ | (refine hK _ _ ?_; clear hK K) | clear hK K | clear ops)
    refine TL.loadR (v := .int .i64 0) rfl rfl rfl hrow1 rfl ?_
    refine TL.cmpI (c := true) rfl rfl rfl rfl rfl ?_
    repeat (first | refine TL.move rfl rfl rfl ?_ | refine TL.assign rfl rfl rfl ?_ | refine TL.nilCheck rfl rfl rfl ?_ | refine TL.fieldAddr rfl rfl rfl ?_ | refine TL.convI rfl rfl rfl ?_ | refine TL.cmpI rfl rfl rfl rfl rfl ?_ | refine TL.arith rfl rfl rfl rfl rfl ?_ | refine TL.lenS rfl rfl rfl ?_ | refine TL.lenStr rfl rfl rfl ?_ | refine TL.not rfl rfl rfl ?_ | refine TL.skipG rfl rfl ?_ | refine TL.pickT rfl rfl rfl rfl ?_ | refine TL.pickF rfl rfl rfl rfl ?_ | refine TL.extract rfl rfl rfl rfl ?_ | refine TL.maxI rfl rfl rfl rfl ?_ | refine TL.minI rfl rfl rfl rfl ?_ | refine TL.nilCheckF rfl rfl rfl ?_ | refine TL.nil ?_ | refine T.seqK fun K hK => ?_ | (refine T.regionO fun ops => ?_) | refine T.condT rfl ?_ | refine T.condF rfl ?_ | refine T.block ?_ | refine T.skip ?_ | refine T.ret ?_ | refine T.exit ?_ | (refine hK _ _ ?_; clear hK K) | clear hK K | clear ops)
    refine T.drawK 15 Tryd.mixed (by kernel_rfl) fun ops w3 hb3 hh3 K hK => ?_
    have hrow3 := hrow1.keepA hb3
    simp only [List.take_succ_cons, List.take_zero]
    repeat (refine DR.v _ rfl (fun w' σ he => by first | exact Ev.move rfl | exact Ev.nilCheck rfl | exact Ev.fieldAddr rfl) ?_)
    refine DR.v _ rfl (fun w' σ he => Ev.loadR rfl (hrow3.keepA he) rfl) ?_
    refine DR.a (fun u w' => By (w3.heap.size ≤ ·) w' u k) (fun u w1 w2 h e => By.ext h e) (fun w' σ he hσ => ?_) ?_
    · refine TL.call rfl rfl rfl (Clone_ret kv k w' (By.ext hk1 (Ext.trans hb3 he)) (by have := hf.1; omega)) ?_
      rintro u w5 h5
      exact TL.nil ⟨h5.below, u, rfl, (h5.by_).sub fun k hk => Nat.le_trans he.size hk⟩
    repeat (refine DR.v _ rfl (fun w' σ he => by first | exact Ev.move rfl | exact Ev.nilCheck rfl | exact Ev.fieldAddr rfl) ?_)
    refine DR.v _ rfl (fun w' σ he => Ev.loadR rfl (hrow3.keepA he) rfl) ?_
    refine DR.a (fun u w' => By (w3.heap.size ≤ ·) w' u v) (fun u w1 w2 h e => By.ext h e) (fun w' σ he hσ => ?_) ?_
    · refine TL.call rfl rfl rfl (Clone_ret vv v w' (By.ext hv1 (Ext.trans hb3 he)) (by have := hf.2; omega)) ?_
      rintro u w5 h5
      exact TL.nil ⟨h5.below, u, rfl, (h5.by_).sub fun k hk => Nat.le_trans he.size hk⟩
    refine DR.a (fun u w' => ∃ a b, u = .agg #[a, b] ∧ By (w3.heap.size ≤ ·) w' a k ∧ By (w3.heap.size ≤ ·) w' b v) (fun u w1 w2 ⟨a, b, h1, h2, h3⟩ e => ⟨a, b, h1, By.ext h2 e, By.ext h3 e⟩) (fun w' σ he hσ => ?_) ?_
    · have h1 := hσ.get 22 rfl
      have h2 := hσ.get 28 rfl
      obtain ⟨a1, c1, e1, _⟩ := h1.shape
      obtain ⟨a2, c2, e2, _⟩ := h2.shape
      refine TL.ev rfl rfl (Ev.build (out := [σ 22, σ 28]) rfl (by rw [e1, e2]; rfl)) (TL.nil ⟨Ext.refl _, _, rfl, _, _, rfl, h1, h2⟩)
    refine DR.a (fun u w' => ∃ cs, Rd (w3.heap.size ≤ ·) w' 2 u 1 cs ∧ pairE.rel (w3.heap.size ≤ ·) w' cs (k, v)) (fun u w1 w2 ⟨cs, h1, h2⟩ e => ⟨cs, Rd.ext h1 e, pairE.keep h2 (Same.ofBelow e _)⟩) (fun w' σ he hσ => ?_) ?_
    · obtain ⟨a, b, e, h1, h2⟩ := hσ.get 29 rfl
      refine TL.buildSliceN (vs := [σ 29]) rfl rfl rfl rfl rfl (by rw [e]; simp [Value.cells]) rfl rfl rfl fun bb w4 hal => TL.nil ⟨hal.below, _, rfl, [a, b], ?_, a, b, rfl, By.ext h1 hal.below, By.ext h2 hal.below⟩
      rw [e] at hal
      have hal' : Al w' w4 bb (.cells [a, b].toArray 31) := by simpa [Value.cells] using hal
      exact (Al.rdN hal' rfl (by simp [maxLen])).sub fun k hk => by subst hk; rw [hal.num]; exact he.size
    refine DR.nil (hK _ fun w4 σ he hσ => ?_)
    simp only [List.drop_succ_cons, List.drop_zero]
    clear hK K
    obtain ⟨cs, h1, h2⟩ := hσ.get 30 rfl
    have hl3 : LP w0 w3 out xs := hl.keep hb3
    have hl4 : LP w0 w4 out xs := hl3.keep he
    simp only [Tr.sz] at hs
    refine TL.pushG (E := pairE) (a := (k, v)) rfl rfl rfl rfl rfl hl4 h1 h2 (fun j hj => ⟨Nat.le_trans hl3.below.size hj, fun hh => by have := (hl3.blk j hh).2; omega⟩) rfl (by omega) (by simp [maxLen]; omega) fun u5 w5 h5 hg _ => ?_
    repeat (first | refine TL.move rfl rfl rfl ?_ | refine TL.assign rfl rfl rfl ?_ | refine TL.nilCheck rfl rfl rfl ?_ | refine TL.fieldAddr rfl rfl rfl ?_ | refine TL.convI rfl rfl rfl ?_ | refine TL.cmpI rfl rfl rfl rfl rfl ?_ | refine TL.arith rfl rfl rfl rfl rfl ?_ | refine TL.lenS rfl rfl rfl ?_ | refine TL.lenStr rfl rfl rfl ?_ | refine TL.not rfl rfl rfl ?_ | refine TL.skipG rfl rfl ?_ | refine TL.pickT rfl rfl rfl rfl ?_ | refine TL.pickF rfl rfl rfl rfl ?_ | refine TL.extract rfl rfl rfl rfl ?_ | refine TL.maxI rfl rfl rfl rfl ?_ | refine TL.minI rfl rfl rfl rfl ?_ | refine TL.nilCheckF rfl rfl rfl ?_ | refine TL.nil ?_ | refine T.seqK fun K hK => ?_ | (refine T.regionO fun ops => ?_) | refine T.condT rfl ?_ | refine T.condF rfl ?_ | refine T.block ?_ | refine T.skip ?_ | refine T.ret ?_ | refine T.exit ?_ | (refine hK _ _ ?_; clear hK K) | clear hK K | clear ops)
    refine ⟨_, rfl, h5, ?_⟩
    have hw4 : Below w0.heap.size w w4 := Below.mono (Ext.trans hb3 he) hl.below.size
    exact Below.trans hw4 ((Below.refl _ _).grown hg hl4.below.size fun j hj => (hl4.blk j hj).1)
  | node l r ihl ihr =>
    intro p out w xs ht hf hl hs
    obtain ⟨b0, kv, vv, pl, pr, rfl, hrow, hkey, hval, htl, htr⟩ := id ht.out
    have hb := hl.below
    have hrow1 := hrow.keepA hb
    have hll := Tr.leaves_len l
    simp only [Tr.sz] at hs
    refine Ret.of_T Tryd.func77 rfl Tryd.ntmps77 Tryd.results77 rfl ?_
    repeat (first | refine TL.move rfl rfl rfl ?_ | refine TL.assign rfl rfl rfl ?_ | refine TL.nilCheck rfl rfl rfl ?_ | refine TL.fieldAddr rfl rfl rfl ?_ | refine TL.convI rfl rfl rfl ?_ | refine TL.cmpI rfl rfl rfl rfl rfl ?_ | refine TL.arith rfl rfl rfl rfl rfl ?_ | refine TL.lenS rfl rfl rfl ?_ | refine TL.lenStr rfl rfl rfl ?_ | refine TL.not rfl rfl rfl ?_ | refine TL.skipG rfl rfl ?_ | refine TL.pickT rfl rfl rfl rfl ?_ | refine TL.pickF rfl rfl rfl rfl ?_ | refine TL.extract rfl rfl rfl rfl ?_ | refine TL.maxI rfl rfl rfl rfl ?_ | refine TL.minI rfl rfl rfl rfl ?_ | refine TL.nilCheckF rfl rfl rfl ?_ | refine TL.nil ?_ | refine T.seqK fun K hK => ?_ | (refine T.regionO fun ops => ?_) | refine T.condT rfl ?_ | refine T.condF rfl ?_ | refine T.block ?_ | refine T.skip ?_ | refine T.ret ?_ | refine T.exit ?_ | (refine hK _ _ ?_; clear hK K) | clear hK K | clear ops)
    refine TL.eqPtr rfl rfl rfl rfl ?_
    repeat (first | refine TL.move rfl rfl rfl ?_ | refine TL.assign rfl rfl rfl ?_ | refine TL.nilCheck rfl rfl rfl ?_ | refine TL.fieldAddr rfl rfl rfl ?_ | refine TL.convI rfl rfl rfl ?_ | refine TL.cmpI rfl rfl rfl rfl rfl ?_ | refine TL.arith rfl rfl rfl rfl rfl ?_ | refine TL.lenS rfl rfl rfl ?_ | refine TL.lenStr rfl rfl rfl ?_ | refine TL.not rfl rfl rfl ?_ | refine TL.skipG rfl rfl ?_ | refine TL.pickT rfl rfl rfl rfl ?_ | refine TL.pickF rfl rfl rfl rfl ?_ | refine TL.extract rfl rfl rfl rfl ?_ | refine TL.maxI rfl rfl rfl rfl ?_ | refine TL.minI rfl rfl rfl rfl ?_ | refine TL.nilCheckF rfl rfl rfl ?_ | refine TL.nil ?_ | refine T.seqK fun K hK => ?_ | (refine T.regionO fun ops => ?_) | refine T.condT rfl ?_ | refine T.condF rfl ?_ | refine T.block ?_ | refine T.skip ?_ | refine T.ret ?_ | refine T.exit ?_ | (refine hK _ _ ?_; clear hK K) | clear hK K | clear ops)
    refine TL.loadR (v := .int .i64 (Tr.node l r).ht) rfl rfl rfl hrow1 rfl ?_
    refine TL.cmpI (c := false) rfl rfl rfl rfl (cmpI_eqF (by simp only [Tr.ht]; omega)) ?_
    repeat (first | refine TL.move rfl rfl rfl ?_ | refine TL.assign rfl rfl rfl ?_ | refine TL.nilCheck rfl rfl rfl ?_ | refine TL.fieldAddr rfl rfl rfl ?_ | refine TL.convI rfl rfl rfl ?_ | refine TL.cmpI rfl rfl rfl rfl rfl ?_ | refine TL.arith rfl rfl rfl rfl rfl ?_ | refine TL.lenS rfl rfl rfl ?_ | refine TL.lenStr rfl rfl rfl ?_ | refine TL.not rfl rfl rfl ?_ | refine TL.skipG rfl rfl ?_ | refine TL.pickT rfl rfl rfl rfl ?_ | refine TL.pickF rfl rfl rfl rfl ?_ | refine TL.extract rfl rfl rfl rfl ?_ | refine TL.maxI rfl rfl rfl rfl ?_ | refine TL.minI rfl rfl rfl rfl ?_ | refine TL.nilCheckF rfl rfl rfl ?_ | refine TL.nil ?_ | refine T.seqK fun K hK => ?_ | (refine T.regionO fun ops => ?_) | refine T.condT rfl ?_ | refine T.condF rfl ?_ | refine T.block ?_ | refine T.skip ?_ | refine T.ret ?_ | refine T.exit ?_ | (refine hK _ _ ?_; clear hK K) | clear hK K | clear ops)
    refine T.drawKB w0.heap.size 9 10 Tryd.mixed (by kernel_rfl) fun ops w3 hb3 hh3 K hK => ?_
    have hl3 : LP w0 w3 out xs := hl.keep hb3
    have hB : ∀ w', Und0 w0.heap.size w3 w' → Ext w0 w' := fun w' h => Below.trans hl3.below (h hl3.below.size)
    simp only [List.take_succ_cons, List.take_zero]
    repeat (refine DRB.v Ext.refl _ rfl rfl (fun w' σ he => by first | exact Ev.move rfl | exact Ev.nilCheck rfl | exact Ev.fieldAddr rfl) ?_)
    refine DRB.v Ext.refl _ rfl rfl (fun w' σ he => Ev.loadR rfl (hrow.keepA (hB w' he)) (tcs101 _ _ _ _ _)) ?_
    repeat (refine DRB.v Ext.refl _ rfl rfl (fun w' σ he => by first | exact Ev.move rfl | exact Ev.nilCheck rfl | exact Ev.fieldAddr rfl) ?_)
    refine DRB.v Ext.refl _ rfl rfl (fun w' σ he => Ev.loadR rfl (hrow.keepA (hB w' he)) (tcs100 _ _ _ _ _)) ?_
    repeat (refine DRB.v Ext.refl _ rfl rfl (fun w' σ he => by first | exact Ev.move rfl | exact Ev.nilCheck rfl | exact Ev.fieldAddr rfl) ?_)
    refine DRB.w (fun u w' => LP w0 w' u (xs ++ l.leaves)) rfl (fun u w1 w2 h e => h.keep e) (fun w' σ he hσ => ?_) ?_
    · refine TL.call rfl rfl rfl (ihl _ out w' xs htl hf.1 (hl3.keep he) (by omega)) ?_
      rintro u w5 ⟨h5, h6⟩
      exact TL.nil ⟨fun _ => h6, u, rfl, h5⟩
    refine DRB.nil (hK _ fun w4 σ he hσ => ?_)
    simp only [List.drop_succ_cons, List.drop_zero]
    clear hK K
    have h41 := hσ.get 41 rfl
    refine TL.call (vs := [_, σ 41]) rfl rfl rfl (ihr _ _ w4 _ htr hf.2 h41 (by simp; omega)) ?_
    rintro u w5 ⟨h5, h6⟩
    repeat (first | refine TL.move rfl rfl rfl ?_ | refine TL.assign rfl rfl rfl ?_ | refine TL.nilCheck rfl rfl rfl ?_ | refine TL.fieldAddr rfl rfl rfl ?_ | refine TL.convI rfl rfl rfl ?_ | refine TL.cmpI rfl rfl rfl rfl rfl ?_ | refine TL.arith rfl rfl rfl rfl rfl ?_ | refine TL.lenS rfl rfl rfl ?_ | refine TL.lenStr rfl rfl rfl ?_ | refine TL.not rfl rfl rfl ?_ | refine TL.skipG rfl rfl ?_ | refine TL.pickT rfl rfl rfl rfl ?_ | refine TL.pickF rfl rfl rfl rfl ?_ | refine TL.extract rfl rfl rfl rfl ?_ | refine TL.maxI rfl rfl rfl rfl ?_ | refine TL.minI rfl rfl rfl rfl ?_ | refine TL.nilCheckF rfl rfl rfl ?_ | refine TL.nil ?_ | refine T.seqK fun K hK => ?_ | (refine T.regionO fun ops => ?_) | refine T.condT rfl ?_ | refine T.condF rfl ?_ | refine T.block ?_ | refine T.skip ?_ | refine T.ret ?_ | refine T.exit ?_ | (refine hK _ _ ?_; clear hK K) | clear hK K | clear ops)
    rw [List.append_assoc] at h5
    exact ⟨_, rfl, h5, Below.trans (Below.trans (Below.mono hb3 hl.below.size) (he hl3.below.size)) h6⟩

set_option maxRecDepth 20000 in
theorem All_ret (o : Option Tr) (p : Value) (w : World) (ht : IsR w o p) (hf : fitO o) (hs : szO o ≤ 2 ^ 36) : Ret Tryd.prog 44 #[p] w fun u w' => Ext w w' ∧ LP w w' u (o.elim [] Tr.leaves) := by
  obtain ⟨b0, q, rfl, hrow, hq⟩ := ht
  refine Ret.of_T Tryd.func44 rfl Tryd.ntmps44 Tryd.results44 rfl ?_
  repeat (first | refine TL.move rfl rfl rfl ?_ | refine TL.assign rfl rfl rfl ?_ | refine TL.nilCheck rfl rfl rfl ?_ | refine TL.fieldAddr rfl rfl rfl ?_ | refine TL.convI rfl rfl rfl ?_ | refine TL.cmpI rfl rfl rfl rfl rfl ?_ | refine TL.arith rfl rfl rfl rfl rfl ?_ | refine TL.lenS rfl rfl rfl ?_ | refine TL.lenStr rfl rfl rfl ?_ | refine TL.not rfl rfl rfl ?_ | refine TL.skipG rfl rfl ?_ | refine TL.pickT rfl rfl rfl rfl ?_ | refine TL.pickF rfl rfl rfl rfl ?_ | refine TL.extract rfl rfl rfl rfl ?_ | refine TL.maxI rfl rfl rfl rfl ?_ | refine TL.minI rfl rfl rfl rfl ?_ | refine TL.nilCheckF rfl rfl rfl ?_ | refine TL.nil ?_ | refine T.seqK fun K hK => ?_ | (refine T.regionO fun ops => ?_) | refine T.condT rfl ?_ | refine T.condF rfl ?_ | refine T.block ?_ | refine T.skip ?_ | refine T.ret ?_ | refine T.exit ?_ | (refine hK _ _ ?_; clear hK K) | clear hK K | clear ops)
  refine TL.eqPtr rfl rfl rfl rfl ?_
  repeat (first | refine TL.move rfl rfl rfl ?_ | refine TL.assign rfl rfl rfl ?_ | refine TL.nilCheck rfl rfl rfl ?_ | refine TL.fieldAddr rfl rfl rfl ?_ | refine TL.convI rfl rfl rfl ?_ | refine TL.cmpI rfl rfl rfl rfl rfl ?_ | refine TL.arith rfl rfl rfl rfl rfl ?_ | refine TL.lenS rfl rfl rfl ?_ | refine TL.lenStr rfl rfl rfl ?_ | refine TL.not rfl rfl rfl ?_ | refine TL.skipG rfl rfl ?_ | refine TL.pickT rfl rfl rfl rfl ?_ | refine TL.pickF rfl rfl rfl rfl ?_ | refine TL.extract rfl rfl rfl rfl ?_ | refine TL.maxI rfl rfl rfl rfl ?_ | refine TL.minI rfl rfl rfl rfl ?_ | refine TL.nilCheckF rfl rfl rfl ?_ | refine TL.nil ?_ | refine T.seqK fun K hK => ?_ | (refine T.regionO fun ops => ?_) | refine T.condT rfl ?_ | refine T.condF rfl ?_ | refine T.block ?_ | refine T.skip ?_ | refine T.ret ?_ | refine T.exit ?_ | (refine hK _ _ ?_; clear hK K) | clear hK K | clear ops)
  refine TL.loadR rfl rfl rfl hrow rfl ?_
  have h0 : LP w w nils [] := LstG.nil' _ _ _ (Below.refl _ _) (Nat.le_refl _) _
  have hwalk : Ret Tryd.prog 77 #[q, nils] w fun u w' => LP w w' u (o.elim [] Tr.leaves) := by
    cases o with
    | none =>
      rw [show q = nilp from hq]
      refine (walkNil_ret _ w).mono ?_
      rintro u w' ⟨rfl, rfl⟩
      exact h0
    | some t =>
      refine (walk_ret w t q nils w [] hq (hf t rfl) h0 (by simpa [szO] using hs)).mono ?_
      rintro u w' ⟨h1, h2⟩
      exact h1
  refine TL.call rfl rfl rfl hwalk ?_
  rintro u w' h
  repeat (first | refine TL.move rfl rfl rfl ?_ | refine TL.assign rfl rfl rfl ?_ | refine TL.nilCheck rfl rfl rfl ?_ | refine TL.fieldAddr rfl rfl rfl ?_ | refine TL.convI rfl rfl rfl ?_ | refine TL.cmpI rfl rfl rfl rfl rfl ?_ | refine TL.arith rfl rfl rfl rfl rfl ?_ | refine TL.lenS rfl rfl rfl ?_ | refine TL.lenStr rfl rfl rfl ?_ | refine TL.not rfl rfl rfl ?_ | refine TL.skipG rfl rfl ?_ | refine TL.pickT rfl rfl rfl rfl ?_ | refine TL.pickF rfl rfl rfl rfl ?_ | refine TL.extract rfl rfl rfl rfl ?_ | refine TL.maxI rfl rfl rfl rfl ?_ | refine TL.minI rfl rfl rfl rfl ?_ | refine TL.nilCheckF rfl rfl rfl ?_ | refine TL.nil ?_ | refine T.seqK fun K hK => ?_ | (refine T.regionO fun ops => ?_) | refine T.condT rfl ?_ | refine T.condF rfl ?_ | refine T.block ?_ | refine T.skip ?_ | refine T.ret ?_ | refine T.exit ?_ | (refine hK _ _ ?_; clear hK K) | clear hK K | clear ops)
  exact ⟨_, rfl, h.below, h⟩
end Go.Proofs
