/- What proof.None comes to. Conditions: as the theorem says. -/
import Derived.Test.YtflioeagjefkmaaDoorPrf
import Derived.Test.YtflioeagjefkmaaDoorFwK
set_option linter.all false
namespace Go.Proofs
open Go.Fw Go.RowKit
attribute [local irreducible] TL T TS Ev Ret

/-- a *api.Proof -/
def PtrP (F : Nat → Prop) (w : World) : Option Pr → Value → Prop
  | none, p => p = nilp
  | some pr, p => ∃ b xs, p = .pointer (some ⟨b, 0, none⟩) ∧ F b ∧ Row w b xs 35 (0, 0) ∧ xs.length = 3 ∧ IsPF F w pr (.agg xs.toArray)
theorem PtrP.keep {F : Nat → Prop} {w w' : World} {o : Option Pr} {p : Value} (h : PtrP F w o p) (hs : Same F w w') : PtrP F w' o p := by
  cases o with
  | none => exact h
  | some pr =>
    obtain ⟨b, xs, h1, h2, h3, h5, h4⟩ := h
    exact ⟨b, xs, h1, h2, (hs b h2 h3.lt).trans h3, h5, h4.keep hs⟩
theorem PtrP.sub {F G : Nat → Prop} {w : World} {o : Option Pr} {p : Value} (h : PtrP F w o p) (hs : ∀ k, F k → G k) : PtrP G w o p := by
  cases o with
  | none => exact h
  | some pr =>
    obtain ⟨b, xs, h1, h2, h3, h5, h4⟩ := h
    exact ⟨b, xs, h1, hs _ h2, h3, h5, h4.sub hs⟩
theorem PtrP.ptr {F : Nat → Prop} {w : World} {o : Option Pr} {p : Value} (h : PtrP F w o p) : ∃ q, p = .pointer q ∧ q.isNone = o.isNone := by
  cases o with
  | none => exact ⟨none, h, rfl⟩
  | some pr => obtain ⟨b, xs, h1, _⟩ := h; exact ⟨_, h1, rfl⟩
/-- what a gap shows -/
structure Gp where
  left : Option Pr
  right : Option Pr
def gp0 : Gp := ⟨none, none⟩
/-- an api.Gap as a value -/
def IsG (F : Nat → Prop) (w : World) (g : Gp) (u : Value) : Prop := ∃ lp rp, u = .agg [lp, rp].toArray ∧ PtrP F w g.left lp ∧ PtrP F w g.right rp
def gapF (o : Option Tr) (key : List UInt8) : List (List UInt8 × List UInt8) → Gp → Option Gp
  | [], g => some g
  | x :: xs, g => if cmpL x.1 key = 0 then none else if cmpL x.1 key < 0 then gapF o key xs ⟨some (makeO x.1 o).1, g.right⟩
      else if g.right.isNone then gapF o key xs ⟨g.left, some (makeO x.1 o).1⟩ else gapF o key xs g
def lvO (o : Option Tr) : List (List UInt8 × List UInt8) := o.elim [] Tr.leaves
def gapO (o : Option Tr) (key : List UInt8) : Option Gp := gapF o key (lvO o) gp0

set_option maxRecDepth 20000 in
set_option maxHeartbeats 2000000 in
theorem None_ret (o : Option Tr) (p kv : Value) (key : List UInt8) (w : World) (ht : IsR w o p) (hk : B0 w kv key) (hf : fitO o) (hs : szO o ≤ 2 ^ 30) :
    Ret Tryd.prog 11 #[p, kv] w fun u w' => Ext w w' ∧ ∃ q, u = .tuple #[q, .bool (gapO o key).isSome] ∧ IsG (w.heap.size ≤ ·) w' ((gapO o key).getD gp0) q := by
  refine Ret.of_T2 Tryd.func11 rfl Tryd.ntmps11 Tryd.results11 rfl ?_
  repeat (first | refine TL.move rfl rfl rfl ?_ | refine TL.assign rfl rfl rfl ?_ | refine TL.nilCheck rfl rfl rfl ?_ | refine TL.fieldAddr rfl rfl rfl ?_ | refine TL.convI rfl rfl rfl ?_ | refine TL.cmpI rfl rfl rfl rfl rfl ?_ | refine TL.arith rfl rfl rfl rfl rfl ?_ | refine TL.lenS rfl rfl rfl ?_ | refine TL.lenStr rfl rfl rfl ?_ | refine TL.not rfl rfl rfl ?_ | refine TL.skipG rfl rfl ?_ | refine TL.pickT rfl rfl rfl rfl ?_ | refine TL.pickF rfl rfl rfl rfl ?_ | refine TL.extract rfl rfl rfl rfl ?_ | refine TL.maxI rfl rfl rfl rfl ?_ | refine TL.minI rfl rfl rfl rfl ?_ | refine TL.nilCheckF rfl rfl rfl ?_ | refine TL.nil ?_ | refine T.seqK fun K hK => ?_ | (refine T.regionO fun ops => ?_) | refine T.condT rfl ?_ | refine T.condF rfl ?_ | refine T.block ?_ | refine T.skip ?_ | refine T.ret ?_ | refine T.exit ?_ | (refine hK _ _ ?_; clear hK K) | clear hK K | clear ops)
  refine TL.alloc rfl rfl fun b4 w1 hal1 => ?_
  have h41 : Row w1 b4 [nilp, nilp] 40 (0, 0) := hal1.at_
  repeat (first | refine TL.move rfl rfl rfl ?_ | refine TL.assign rfl rfl rfl ?_ | refine TL.nilCheck rfl rfl rfl ?_ | refine TL.fieldAddr rfl rfl rfl ?_ | refine TL.convI rfl rfl rfl ?_ | refine TL.cmpI rfl rfl rfl rfl rfl ?_ | refine TL.arith rfl rfl rfl rfl rfl ?_ | refine TL.lenS rfl rfl rfl ?_ | refine TL.lenStr rfl rfl rfl ?_ | refine TL.not rfl rfl rfl ?_ | refine TL.skipG rfl rfl ?_ | refine TL.pickT rfl rfl rfl rfl ?_ | refine TL.pickF rfl rfl rfl rfl ?_ | refine TL.extract rfl rfl rfl rfl ?_ | refine TL.maxI rfl rfl rfl rfl ?_ | refine TL.minI rfl rfl rfl rfl ?_ | refine TL.nilCheckF rfl rfl rfl ?_ | refine TL.nil ?_ | refine T.seqK fun K hK => ?_ | (refine T.regionO fun ops => ?_) | refine T.condT rfl ?_ | refine T.condF rfl ?_ | refine T.block ?_ | refine T.skip ?_ | refine T.ret ?_ | refine T.exit ?_ | (refine hK _ _ ?_; clear hK K) | clear hK K | clear ops)
  refine TL.alloc rfl rfl fun b6 w2 hal2 => ?_
  have h62 : Row w2 b6 [nilp, nilp] 40 (0, 0) := hal2.at_
  have h42 := h41.keepA hal2.below
  have hw2 : Ext w w2 := Ext.trans hal1.below hal2.below
  have hb4 : w.heap.size ≤ b4 := by rw [hal1.num]; exact Nat.le_refl _
  have hb6 : w.heap.size ≤ b6 := by rw [hal2.num]; exact hal1.below.size
  have h46 : b4 < b6 := by have := h41.lt; rw [hal2.num]; omega
  have h6lt := h62.lt
  clear hal1 hal2 h41
  repeat (first | refine TL.move rfl rfl rfl ?_ | refine TL.assign rfl rfl rfl ?_ | refine TL.nilCheck rfl rfl rfl ?_ | refine TL.fieldAddr rfl rfl rfl ?_ | refine TL.convI rfl rfl rfl ?_ | refine TL.cmpI rfl rfl rfl rfl rfl ?_ | refine TL.arith rfl rfl rfl rfl rfl ?_ | refine TL.lenS rfl rfl rfl ?_ | refine TL.lenStr rfl rfl rfl ?_ | refine TL.not rfl rfl rfl ?_ | refine TL.skipG rfl rfl ?_ | refine TL.pickT rfl rfl rfl rfl ?_ | refine TL.pickF rfl rfl rfl rfl ?_ | refine TL.extract rfl rfl rfl rfl ?_ | refine TL.maxI rfl rfl rfl rfl ?_ | refine TL.minI rfl rfl rfl rfl ?_ | refine TL.nilCheckF rfl rfl rfl ?_ | refine TL.nil ?_ | refine T.seqK fun K hK => ?_ | (refine T.regionO fun ops => ?_) | refine T.condT rfl ?_ | refine T.condF rfl ?_ | refine T.block ?_ | refine T.skip ?_ | refine T.ret ?_ | refine T.exit ?_ | (refine hK _ _ ?_; clear hK K) | clear hK K | clear ops)
  refine TL.call rfl rfl rfl (All_ret o p w2 (IsR.ext hw2 ht) hf (by omega)) ?_
  rintro al w3 ⟨hw23, hl3⟩
  have hL3 := hl3.lsrG
  have hln : (lvO o).length = szO o := by cases o <;> simp [lvO, szO, Tr.leaves_len]
  obtain ⟨la, lc, rfl, _⟩ := hL3.shape
  have hL3 : Lsr pairE (w2.heap.size ≤ ·) w3 (.slice la (lvO o).length lc) (lvO o) := hL3
  change TL _ _ _ ((13, .slice la (lvO o).length lc) :: _) _ _ _
  repeat (first | refine TL.move rfl rfl rfl ?_ | refine TL.assign rfl rfl rfl ?_ | refine TL.nilCheck rfl rfl rfl ?_ | refine TL.fieldAddr rfl rfl rfl ?_ | refine TL.convI rfl rfl rfl ?_ | refine TL.cmpI rfl rfl rfl rfl rfl ?_ | refine TL.arith rfl rfl rfl rfl rfl ?_ | refine TL.lenS rfl rfl rfl ?_ | refine TL.lenStr rfl rfl rfl ?_ | refine TL.not rfl rfl rfl ?_ | refine TL.skipG rfl rfl ?_ | refine TL.pickT rfl rfl rfl rfl ?_ | refine TL.pickF rfl rfl rfl rfl ?_ | refine TL.extract rfl rfl rfl rfl ?_ | refine TL.maxI rfl rfl rfl rfl ?_ | refine TL.minI rfl rfl rfl rfl ?_ | refine TL.nilCheckF rfl rfl rfl ?_ | refine TL.nil ?_ | refine T.seqK fun K hK => ?_ | (refine T.regionO fun ops => ?_) | refine T.condT rfl ?_ | refine T.condF rfl ?_ | refine T.block ?_ | refine T.skip ?_ | refine T.ret ?_ | refine T.exit ?_ | (refine hK _ _ ?_; clear hK K) | clear hK K | clear ops)
  refine T.loop (fun m L w' => ∃ (k : Nat) (g : Gp) (lp rp : Value), Less [(0, p), (1, kv), (4, .pointer (some ⟨b4, 0, none⟩)), (5, .bool false), (6, .pointer (some ⟨b6, 0, none⟩)), (13, .slice la (lvO o).length lc), (14, .int .i64 (lvO o).length), (15, .int .i64 k)] L ∧
      Ext w w' ∧ w2.heap.size ≤ w'.heap.size ∧ Row w' b4 [nilp, nilp] 40 (0, 0) ∧ Row w' b6 [lp, rp] 40 (0, 0) ∧ PtrP (w2.heap.size ≤ ·) w' g.left lp ∧ PtrP (w2.heap.size ≤ ·) w' g.right rp ∧ Lsr pairE (w2.heap.size ≤ ·) w' (.slice la (lvO o).length lc) (lvO o) ∧
      gapF o key ((lvO o).drop k) g = gapO o key ∧ k + m = (lvO o).length) (lvO o).length
    ⟨0, gp0, nilp, nilp, (by repeat (first | exact Less.nil _ | refine Less.cons rfl ?_)), hw2.trans hw23, hw23.size, h42.keepA hw23, h62.keepA hw23, rfl, rfl, hL3, rfl, by omega⟩ ?_
  clear hL3 hl3 hw23 h42 h62
  rintro m L w4 ⟨k, g, lp, rp, hL, hw4, hsz4, h4, h6, hgl, hgr, hls, hgap, hkm⟩
  refine T.sub hL ?_
  repeat (first | refine TL.move rfl rfl rfl ?_ | refine TL.assign rfl rfl rfl ?_ | refine TL.nilCheck rfl rfl rfl ?_ | refine TL.fieldAddr rfl rfl rfl ?_ | refine TL.convI rfl rfl rfl ?_ | refine TL.cmpI rfl rfl rfl rfl rfl ?_ | refine TL.arith rfl rfl rfl rfl rfl ?_ | refine TL.lenS rfl rfl rfl ?_ | refine TL.lenStr rfl rfl rfl ?_ | refine TL.not rfl rfl rfl ?_ | refine TL.skipG rfl rfl ?_ | refine TL.pickT rfl rfl rfl rfl ?_ | refine TL.pickF rfl rfl rfl rfl ?_ | refine TL.extract rfl rfl rfl rfl ?_ | refine TL.maxI rfl rfl rfl rfl ?_ | refine TL.minI rfl rfl rfl rfl ?_ | refine TL.nilCheckF rfl rfl rfl ?_ | refine TL.nil ?_ | refine T.seqK fun K hK => ?_ | (refine T.regionO fun ops => ?_) | refine T.condT rfl ?_ | refine T.condF rfl ?_ | refine T.block ?_ | refine T.skip ?_ | refine T.ret ?_ | refine T.exit ?_ | (refine hK _ _ ?_; clear hK K) | clear hK K | clear ops)
  refine T.cond rfl (fun hc => ?_) (fun hc => ?_)
  · have hk' : k < (lvO o).length := by simp at hc; omega
    obtain ⟨x, hx⟩ : ∃ x, (lvO o)[k]? = some x := ⟨_, List.getElem?_eq_getElem hk'⟩
    have hdrop : (lvO o).drop k = x :: (lvO o).drop (k + 1) := by
      obtain ⟨h1, h2⟩ := List.getElem?_eq_some_iff.1 hx
      rw [List.drop_eq_getElem_cons h1, h2]
    rw [hdrop] at hgap
    repeat (first | refine TL.move rfl rfl rfl ?_ | refine TL.assign rfl rfl rfl ?_ | refine TL.nilCheck rfl rfl rfl ?_ | refine TL.fieldAddr rfl rfl rfl ?_ | refine TL.convI rfl rfl rfl ?_ | refine TL.cmpI rfl rfl rfl rfl rfl ?_ | refine TL.arith rfl rfl rfl rfl rfl ?_ | refine TL.lenS rfl rfl rfl ?_ | refine TL.lenStr rfl rfl rfl ?_ | refine TL.not rfl rfl rfl ?_ | refine TL.skipG rfl rfl ?_ | refine TL.pickT rfl rfl rfl rfl ?_ | refine TL.pickF rfl rfl rfl rfl ?_ | refine TL.extract rfl rfl rfl rfl ?_ | refine TL.maxI rfl rfl rfl rfl ?_ | refine TL.minI rfl rfl rfl rfl ?_ | refine TL.nilCheckF rfl rfl rfl ?_ | refine TL.nil ?_ | refine T.seqK fun K hK => ?_ | (refine T.regionO fun ops => ?_) | refine T.condT rfl ?_ | refine T.condF rfl ?_ | refine T.block ?_ | refine T.skip ?_ | refine T.ret ?_ | refine T.exit ?_ | (refine hK _ _ ?_; clear hK K) | clear hK K | clear ops)
    refine TL.elemE (E := pairE) rfl rfl (fun _ => rfl) rfl rfl rfl rfl hls rfl hx rfl fun pp us hus => ?_
    obtain ⟨xk, xv, rfl, hxk, hxv⟩ := hus
    refine TL.alloc rfl rfl fun b8 w5 hal => ?_
    have hz : Row w5 b8 [nils, nils] 31 (0, 0) := hal.at_
    refine TL.storeRA (A := []) (C := []) (old := [nils, nils]) (xs := [xk, xv]) rfl rfl rfl (by simpa using hz) rfl (by simp [Value.cells]) rfl rfl (by
      intro u hu
      simp at hu
      rcases hu with rfl | rfl
      · exact By.one hxk
      · exact By.one hxv) fun w6 hg6 h8 hs6 => ?_
    have h8 : Row w6 b8 [xk, xv] 31 (0, 0) := h8
    have hw46 : Ext w4 w6 := Below.trans hal.below (below_grown hg6 (by rw [hal.num]; exact Nat.le_refl _) hal.below.size)
    have hw6 : Ext w w6 := hw4.trans hw46
    clear hal hz hg6 hs6
    repeat (first | refine TL.move rfl rfl rfl ?_ | refine TL.assign rfl rfl rfl ?_ | refine TL.nilCheck rfl rfl rfl ?_ | refine TL.fieldAddr rfl rfl rfl ?_ | refine TL.convI rfl rfl rfl ?_ | refine TL.cmpI rfl rfl rfl rfl rfl ?_ | refine TL.arith rfl rfl rfl rfl rfl ?_ | refine TL.lenS rfl rfl rfl ?_ | refine TL.lenStr rfl rfl rfl ?_ | refine TL.not rfl rfl rfl ?_ | refine TL.skipG rfl rfl ?_ | refine TL.pickT rfl rfl rfl rfl ?_ | refine TL.pickF rfl rfl rfl rfl ?_ | refine TL.extract rfl rfl rfl rfl ?_ | refine TL.maxI rfl rfl rfl rfl ?_ | refine TL.minI rfl rfl rfl rfl ?_ | refine TL.nilCheckF rfl rfl rfl ?_ | refine TL.nil ?_ | refine T.seqK fun K hK => ?_ | (refine T.regionO fun ops => ?_) | refine T.condT rfl ?_ | refine T.condF rfl ?_ | refine T.block ?_ | refine T.skip ?_ | refine T.ret ?_ | refine T.exit ?_ | (refine hK _ _ ?_; clear hK K) | clear hK K | clear ops)
    refine TL.loadR rfl rfl rfl h8 rfl ?_
    refine TL.call rfl rfl rfl (Make_ret o p xk x.1 w6 (IsR.ext hw6 ht) (By.any (By.ext hxk hw46)) hf hs) ?_
    rintro _ w7 ⟨hw67, _, rfl, hP⟩
    obtain ⟨pk, pv, pt, rfl, hp1, hp2, hp3⟩ := id hP
    obtain ⟨pta, ptc, rfl, _⟩ := hp3.shape
    repeat (first | refine TL.move rfl rfl rfl ?_ | refine TL.assign rfl rfl rfl ?_ | refine TL.nilCheck rfl rfl rfl ?_ | refine TL.fieldAddr rfl rfl rfl ?_ | refine TL.convI rfl rfl rfl ?_ | refine TL.cmpI rfl rfl rfl rfl rfl ?_ | refine TL.arith rfl rfl rfl rfl rfl ?_ | refine TL.lenS rfl rfl rfl ?_ | refine TL.lenStr rfl rfl rfl ?_ | refine TL.not rfl rfl rfl ?_ | refine TL.skipG rfl rfl ?_ | refine TL.pickT rfl rfl rfl rfl ?_ | refine TL.pickF rfl rfl rfl rfl ?_ | refine TL.extract rfl rfl rfl rfl ?_ | refine TL.maxI rfl rfl rfl rfl ?_ | refine TL.minI rfl rfl rfl rfl ?_ | refine TL.nilCheckF rfl rfl rfl ?_ | refine TL.nil ?_ | refine T.seqK fun K hK => ?_ | (refine T.regionO fun ops => ?_) | refine T.condT rfl ?_ | refine T.condF rfl ?_ | refine T.block ?_ | refine T.skip ?_ | refine T.ret ?_ | refine T.exit ?_ | (refine hK _ _ ?_; clear hK K) | clear hK K | clear ops)
    refine TL.alloc rfl rfl fun b9 w8 hal => ?_
    have hz : Row w8 b9 [nils, nils, nils] 35 (0, 0) := hal.at_
    refine TL.storeRA (A := []) (C := []) (old := [nils, nils, nils]) (xs := [pk, pv, .slice pta (makeO x.1 o).1.turns.length ptc]) rfl rfl rfl (by simpa using hz) rfl (by simp [Value.cells]) rfl rfl (by
      intro u hu
      simp at hu
      rcases hu with rfl | rfl | rfl
      · exact By.one hp1
      · exact By.one hp2
      · rfl) fun w9 hg9 h9 hs9 => ?_
    have h9 : Row w9 b9 [pk, pv, .slice pta (makeO x.1 o).1.turns.length ptc] 35 (0, 0) := h9
    have hb9 : w7.heap.size ≤ b9 := by rw [hal.num]; exact Nat.le_refl _
    have hw79 : Ext w7 w9 := Below.trans hal.below (below_grown hg9 hb9 hal.below.size)
    have hw69 : Ext w6 w9 := hw67.trans hw79
    have hw49 : Ext w4 w9 := hw46.trans hw69
    have hw9 : Ext w w9 := hw4.trans hw49
    have hs49 := hw49.size
    have hs46 := hw46.size
    have hs67 := hw67.size
    have hnew : PtrP (w2.heap.size ≤ ·) w9 (some (makeO x.1 o).1) (.pointer (some ⟨b9, 0, none⟩)) :=
      ⟨b9, _, rfl, by show w2.heap.size ≤ b9; omega, h9, rfl, (hP.ext hw79).sub fun j hj => by show w2.heap.size ≤ j; have : w6.heap.size ≤ j := hj; omega⟩
    have h49 := h4.keepA hw49
    have h69 := h6.keepA hw49
    have hgl9 := hgl.keep (Same.ofBelow hw49 _)
    have hgr9 := hgr.keep (Same.ofBelow hw49 _)
    have hls9 := hls.ext hw49
    have h89 := h8.keepA hw69
    clear hal hz hg9 hs9
    repeat (first | refine TL.move rfl rfl rfl ?_ | refine TL.assign rfl rfl rfl ?_ | refine TL.nilCheck rfl rfl rfl ?_ | refine TL.fieldAddr rfl rfl rfl ?_ | refine TL.convI rfl rfl rfl ?_ | refine TL.cmpI rfl rfl rfl rfl rfl ?_ | refine TL.arith rfl rfl rfl rfl rfl ?_ | refine TL.lenS rfl rfl rfl ?_ | refine TL.lenStr rfl rfl rfl ?_ | refine TL.not rfl rfl rfl ?_ | refine TL.skipG rfl rfl ?_ | refine TL.pickT rfl rfl rfl rfl ?_ | refine TL.pickF rfl rfl rfl rfl ?_ | refine TL.extract rfl rfl rfl rfl ?_ | refine TL.maxI rfl rfl rfl rfl ?_ | refine TL.minI rfl rfl rfl rfl ?_ | refine TL.nilCheckF rfl rfl rfl ?_ | refine TL.nil ?_ | refine T.seqK fun K hK => ?_ | (refine T.regionO fun ops => ?_) | refine T.condT rfl ?_ | refine T.condF rfl ?_ | refine T.block ?_ | refine T.skip ?_ | refine T.ret ?_ | refine T.exit ?_ | (refine hK _ _ ?_; clear hK K) | clear hK K | clear ops)
    refine TL.loadR rfl rfl rfl h89 rfl ?_
    repeat (first | refine TL.move rfl rfl rfl ?_ | refine TL.assign rfl rfl rfl ?_ | refine TL.nilCheck rfl rfl rfl ?_ | refine TL.fieldAddr rfl rfl rfl ?_ | refine TL.convI rfl rfl rfl ?_ | refine TL.cmpI rfl rfl rfl rfl rfl ?_ | refine TL.arith rfl rfl rfl rfl rfl ?_ | refine TL.lenS rfl rfl rfl ?_ | refine TL.lenStr rfl rfl rfl ?_ | refine TL.not rfl rfl rfl ?_ | refine TL.skipG rfl rfl ?_ | refine TL.pickT rfl rfl rfl rfl ?_ | refine TL.pickF rfl rfl rfl rfl ?_ | refine TL.extract rfl rfl rfl rfl ?_ | refine TL.maxI rfl rfl rfl rfl ?_ | refine TL.minI rfl rfl rfl rfl ?_ | refine TL.nilCheckF rfl rfl rfl ?_ | refine TL.nil ?_ | refine T.seqK fun K hK => ?_ | (refine T.regionO fun ops => ?_) | refine T.condT rfl ?_ | refine T.condF rfl ?_ | refine T.block ?_ | refine T.skip ?_ | refine T.ret ?_ | refine T.exit ?_ | (refine hK _ _ ?_; clear hK K) | clear hK K | clear ops)
    refine TL.callS rfl rfl rfl (Compare_ret _ _ _ _ w9 (By.ext hxk hw49) (By.ext hk hw9)) ?_
    repeat (first | refine TL.move rfl rfl rfl ?_ | refine TL.assign rfl rfl rfl ?_ | refine TL.nilCheck rfl rfl rfl ?_ | refine TL.fieldAddr rfl rfl rfl ?_ | refine TL.convI rfl rfl rfl ?_ | refine TL.cmpI rfl rfl rfl rfl rfl ?_ | refine TL.arith rfl rfl rfl rfl rfl ?_ | refine TL.lenS rfl rfl rfl ?_ | refine TL.lenStr rfl rfl rfl ?_ | refine TL.not rfl rfl rfl ?_ | refine TL.skipG rfl rfl ?_ | refine TL.pickT rfl rfl rfl rfl ?_ | refine TL.pickF rfl rfl rfl rfl ?_ | refine TL.extract rfl rfl rfl rfl ?_ | refine TL.maxI rfl rfl rfl rfl ?_ | refine TL.minI rfl rfl rfl rfl ?_ | refine TL.nilCheckF rfl rfl rfl ?_ | refine TL.nil ?_ | refine T.seqK fun K hK => ?_ | (refine T.regionO fun ops => ?_) | refine T.condT rfl ?_ | refine T.condF rfl ?_ | refine T.block ?_ | refine T.skip ?_ | refine T.ret ?_ | refine T.exit ?_ | (refine hK _ _ ?_; clear hK K) | clear hK K | clear ops)
    refine T.cond rfl (fun hc => ?_) (fun hc => ?_)
    · have hc0 : cmpL x.1 key = 0 := by simpa using hc
      have hres : gapO o key = none := by rw [← hgap]; simp only [gapF, if_pos hc0]
      repeat (first | refine TL.move rfl rfl rfl ?_ | refine TL.assign rfl rfl rfl ?_ | refine TL.nilCheck rfl rfl rfl ?_ | refine TL.fieldAddr rfl rfl rfl ?_ | refine TL.convI rfl rfl rfl ?_ | refine TL.cmpI rfl rfl rfl rfl rfl ?_ | refine TL.arith rfl rfl rfl rfl rfl ?_ | refine TL.lenS rfl rfl rfl ?_ | refine TL.lenStr rfl rfl rfl ?_ | refine TL.not rfl rfl rfl ?_ | refine TL.skipG rfl rfl ?_ | refine TL.pickT rfl rfl rfl rfl ?_ | refine TL.pickF rfl rfl rfl rfl ?_ | refine TL.extract rfl rfl rfl rfl ?_ | refine TL.maxI rfl rfl rfl rfl ?_ | refine TL.minI rfl rfl rfl rfl ?_ | refine TL.nilCheckF rfl rfl rfl ?_ | refine TL.nil ?_ | refine T.seqK fun K hK => ?_ | (refine T.regionO fun ops => ?_) | refine T.condT rfl ?_ | refine T.condF rfl ?_ | refine T.block ?_ | refine T.skip ?_ | refine T.ret ?_ | refine T.exit ?_ | (refine hK _ _ ?_; clear hK K) | clear hK K | clear ops)
      refine TL.ev rfl rfl (Ev.build (parts := []) (out := [nilp, nilp]) rfl rfl) ?_
      refine TL.storeRA (A := []) (C := []) (old := [nilp, nilp]) (xs := [nilp, nilp]) rfl rfl rfl (by simpa using h49) rfl (by simp [Value.cells]) rfl rfl (by simp [Value.oneCell']) fun w10 hg10 h410 hs10 => ?_
      repeat (first | refine TL.move rfl rfl rfl ?_ | refine TL.assign rfl rfl rfl ?_ | refine TL.nilCheck rfl rfl rfl ?_ | refine TL.fieldAddr rfl rfl rfl ?_ | refine TL.convI rfl rfl rfl ?_ | refine TL.cmpI rfl rfl rfl rfl rfl ?_ | refine TL.arith rfl rfl rfl rfl rfl ?_ | refine TL.lenS rfl rfl rfl ?_ | refine TL.lenStr rfl rfl rfl ?_ | refine TL.not rfl rfl rfl ?_ | refine TL.skipG rfl rfl ?_ | refine TL.pickT rfl rfl rfl rfl ?_ | refine TL.pickF rfl rfl rfl rfl ?_ | refine TL.extract rfl rfl rfl rfl ?_ | refine TL.maxI rfl rfl rfl rfl ?_ | refine TL.minI rfl rfl rfl rfl ?_ | refine TL.nilCheckF rfl rfl rfl ?_ | refine TL.nil ?_ | refine T.seqK fun K hK => ?_ | (refine T.regionO fun ops => ?_) | refine T.condT rfl ?_ | refine T.condF rfl ?_ | refine T.block ?_ | refine T.skip ?_ | refine T.ret ?_ | refine T.exit ?_ | (refine hK _ _ ?_; clear hK K) | clear hK K | clear ops)
      refine ⟨_, ResV.cellA1 (xs := [nilp, nilp]) rfl rfl (fun j u hu => by rw [h410.cell]; simpa using hu) rfl, Below.trans hw9 (below_grown hg10 hb4 hw9.size), ?_⟩
      rw [hres]
      exact ⟨_, rfl, nilp, nilp, rfl, rfl, rfl⟩
    · have hc0 : ¬ cmpL x.1 key = 0 := by simpa using hc
      have hstep : ∀ (w' : World) (hg : w9.grownBy w' (some b6)), Same (w2.heap.size ≤ ·) w9 w' := fun w' hg => Same.ofGrown hg fun k hk => by simp; omega
      repeat (first | refine TL.move rfl rfl rfl ?_ | refine TL.assign rfl rfl rfl ?_ | refine TL.nilCheck rfl rfl rfl ?_ | refine TL.fieldAddr rfl rfl rfl ?_ | refine TL.convI rfl rfl rfl ?_ | refine TL.cmpI rfl rfl rfl rfl rfl ?_ | refine TL.arith rfl rfl rfl rfl rfl ?_ | refine TL.lenS rfl rfl rfl ?_ | refine TL.lenStr rfl rfl rfl ?_ | refine TL.not rfl rfl rfl ?_ | refine TL.skipG rfl rfl ?_ | refine TL.pickT rfl rfl rfl rfl ?_ | refine TL.pickF rfl rfl rfl rfl ?_ | refine TL.extract rfl rfl rfl rfl ?_ | refine TL.maxI rfl rfl rfl rfl ?_ | refine TL.minI rfl rfl rfl rfl ?_ | refine TL.nilCheckF rfl rfl rfl ?_ | refine TL.nil ?_ | refine T.seqK fun K hK => ?_ | (refine T.regionO fun ops => ?_) | refine T.condT rfl ?_ | refine T.condF rfl ?_ | refine T.block ?_ | refine T.skip ?_ | refine T.ret ?_ | refine T.exit ?_ | (refine hK _ _ ?_; clear hK K) | clear hK K | clear ops)
      refine T.cond rfl (fun hc => ?_) (fun hc => ?_)
      · have hc1 : cmpL x.1 key < 0 := of_decide_eq_true hc
        repeat (first | refine TL.move rfl rfl rfl ?_ | refine TL.assign rfl rfl rfl ?_ | refine TL.nilCheck rfl rfl rfl ?_ | refine TL.fieldAddr rfl rfl rfl ?_ | refine TL.convI rfl rfl rfl ?_ | refine TL.cmpI rfl rfl rfl rfl rfl ?_ | refine TL.arith rfl rfl rfl rfl rfl ?_ | refine TL.lenS rfl rfl rfl ?_ | refine TL.lenStr rfl rfl rfl ?_ | refine TL.not rfl rfl rfl ?_ | refine TL.skipG rfl rfl ?_ | refine TL.pickT rfl rfl rfl rfl ?_ | refine TL.pickF rfl rfl rfl rfl ?_ | refine TL.extract rfl rfl rfl rfl ?_ | refine TL.maxI rfl rfl rfl rfl ?_ | refine TL.minI rfl rfl rfl rfl ?_ | refine TL.nilCheckF rfl rfl rfl ?_ | refine TL.nil ?_ | refine T.seqK fun K hK => ?_ | (refine T.regionO fun ops => ?_) | refine T.condT rfl ?_ | refine T.condF rfl ?_ | refine T.block ?_ | refine T.skip ?_ | refine T.ret ?_ | refine T.exit ?_ | (refine hK _ _ ?_; clear hK K) | clear hK K | clear ops)
        refine TL.storeRS (i := 0) rfl rfl rfl h69 rfl (by simp) rfl fun w10 hg10 h610 hs10 => ?_
        repeat (first | refine TL.move rfl rfl rfl ?_ | refine TL.assign rfl rfl rfl ?_ | refine TL.nilCheck rfl rfl rfl ?_ | refine TL.fieldAddr rfl rfl rfl ?_ | refine TL.convI rfl rfl rfl ?_ | refine TL.cmpI rfl rfl rfl rfl rfl ?_ | refine TL.arith rfl rfl rfl rfl rfl ?_ | refine TL.lenS rfl rfl rfl ?_ | refine TL.lenStr rfl rfl rfl ?_ | refine TL.not rfl rfl rfl ?_ | refine TL.skipG rfl rfl ?_ | refine TL.pickT rfl rfl rfl rfl ?_ | refine TL.pickF rfl rfl rfl rfl ?_ | refine TL.extract rfl rfl rfl rfl ?_ | refine TL.maxI rfl rfl rfl rfl ?_ | refine TL.minI rfl rfl rfl rfl ?_ | refine TL.nilCheckF rfl rfl rfl ?_ | refine TL.nil ?_ | refine T.seqK fun K hK => ?_ | (refine T.regionO fun ops => ?_) | refine T.condT rfl ?_ | refine T.condF rfl ?_ | refine T.block ?_ | refine T.skip ?_ | refine T.ret ?_ | refine T.exit ?_ | (refine hK _ _ ?_; clear hK K) | clear hK K | clear ops)
        refine ⟨m - 1, by omega, k + 1, ⟨some (makeO x.1 o).1, g.right⟩, .pointer (some ⟨b9, 0, none⟩), rp, ?_, Below.trans hw9 (below_grown hg10 hb6 hw9.size), by omega, h49.keepG hg10 (by simp; omega), h610, hnew.keep (hstep _ hg10), hgr9.keep (hstep _ hg10), hls9.keep (hstep _ hg10), by rw [← hgap]; simp only [gapF, if_neg hc0, if_pos hc1], by omega⟩
        repeat (first | exact Less.nil _ | refine Less.cons rfl ?_)
        refine Less.cons' rfl (by rw [wr_succ (by omega)]) ?_
        repeat (first | exact Less.nil _ | refine Less.cons rfl ?_)
      · have hc1 : ¬ cmpL x.1 key < 0 := of_decide_eq_false hc
        obtain ⟨rq, rfl, hrq⟩ := hgr.ptr
        repeat (first | refine TL.move rfl rfl rfl ?_ | refine TL.assign rfl rfl rfl ?_ | refine TL.nilCheck rfl rfl rfl ?_ | refine TL.fieldAddr rfl rfl rfl ?_ | refine TL.convI rfl rfl rfl ?_ | refine TL.cmpI rfl rfl rfl rfl rfl ?_ | refine TL.arith rfl rfl rfl rfl rfl ?_ | refine TL.lenS rfl rfl rfl ?_ | refine TL.lenStr rfl rfl rfl ?_ | refine TL.not rfl rfl rfl ?_ | refine TL.skipG rfl rfl ?_ | refine TL.pickT rfl rfl rfl rfl ?_ | refine TL.pickF rfl rfl rfl rfl ?_ | refine TL.extract rfl rfl rfl rfl ?_ | refine TL.maxI rfl rfl rfl rfl ?_ | refine TL.minI rfl rfl rfl rfl ?_ | refine TL.nilCheckF rfl rfl rfl ?_ | refine TL.nil ?_ | refine T.seqK fun K hK => ?_ | (refine T.regionO fun ops => ?_) | refine T.condT rfl ?_ | refine T.condF rfl ?_ | refine T.block ?_ | refine T.skip ?_ | refine T.ret ?_ | refine T.exit ?_ | (refine hK _ _ ?_; clear hK K) | clear hK K | clear ops)
        refine TL.loadR rfl rfl rfl h69 rfl ?_
        refine TL.eqPtr rfl rfl rfl rfl ?_
        repeat (first | refine TL.move rfl rfl rfl ?_ | refine TL.assign rfl rfl rfl ?_ | refine TL.nilCheck rfl rfl rfl ?_ | refine TL.fieldAddr rfl rfl rfl ?_ | refine TL.convI rfl rfl rfl ?_ | refine TL.cmpI rfl rfl rfl rfl rfl ?_ | refine TL.arith rfl rfl rfl rfl rfl ?_ | refine TL.lenS rfl rfl rfl ?_ | refine TL.lenStr rfl rfl rfl ?_ | refine TL.not rfl rfl rfl ?_ | refine TL.skipG rfl rfl ?_ | refine TL.pickT rfl rfl rfl rfl ?_ | refine TL.pickF rfl rfl rfl rfl ?_ | refine TL.extract rfl rfl rfl rfl ?_ | refine TL.maxI rfl rfl rfl rfl ?_ | refine TL.minI rfl rfl rfl rfl ?_ | refine TL.nilCheckF rfl rfl rfl ?_ | refine TL.nil ?_ | refine T.seqK fun K hK => ?_ | (refine T.regionO fun ops => ?_) | refine T.condT rfl ?_ | refine T.condF rfl ?_ | refine T.block ?_ | refine T.skip ?_ | refine T.ret ?_ | refine T.exit ?_ | (refine hK _ _ ?_; clear hK K) | clear hK K | clear ops)
        refine T.cond rfl (fun hc => ?_) (fun hc => ?_)
        · have hn : g.right.isNone = true := by rw [← hrq]; exact hc
          repeat (first | refine TL.move rfl rfl rfl ?_ | refine TL.assign rfl rfl rfl ?_ | refine TL.nilCheck rfl rfl rfl ?_ | refine TL.fieldAddr rfl rfl rfl ?_ | refine TL.convI rfl rfl rfl ?_ | refine TL.cmpI rfl rfl rfl rfl rfl ?_ | refine TL.arith rfl rfl rfl rfl rfl ?_ | refine TL.lenS rfl rfl rfl ?_ | refine TL.lenStr rfl rfl rfl ?_ | refine TL.not rfl rfl rfl ?_ | refine TL.skipG rfl rfl ?_ | refine TL.pickT rfl rfl rfl rfl ?_ | refine TL.pickF rfl rfl rfl rfl ?_ | refine TL.extract rfl rfl rfl rfl ?_ | refine TL.maxI rfl rfl rfl rfl ?_ | refine TL.minI rfl rfl rfl rfl ?_ | refine TL.nilCheckF rfl rfl rfl ?_ | refine TL.nil ?_ | refine T.seqK fun K hK => ?_ | (refine T.regionO fun ops => ?_) | refine T.condT rfl ?_ | refine T.condF rfl ?_ | refine T.block ?_ | refine T.skip ?_ | refine T.ret ?_ | refine T.exit ?_ | (refine hK _ _ ?_; clear hK K) | clear hK K | clear ops)
          refine TL.storeRS (i := 1) rfl rfl rfl h69 rfl (by simp) rfl fun w10 hg10 h610 hs10 => ?_
          repeat (first | refine TL.move rfl rfl rfl ?_ | refine TL.assign rfl rfl rfl ?_ | refine TL.nilCheck rfl rfl rfl ?_ | refine TL.fieldAddr rfl rfl rfl ?_ | refine TL.convI rfl rfl rfl ?_ | refine TL.cmpI rfl rfl rfl rfl rfl ?_ | refine TL.arith rfl rfl rfl rfl rfl ?_ | refine TL.lenS rfl rfl rfl ?_ | refine TL.lenStr rfl rfl rfl ?_ | refine TL.not rfl rfl rfl ?_ | refine TL.skipG rfl rfl ?_ | refine TL.pickT rfl rfl rfl rfl ?_ | refine TL.pickF rfl rfl rfl rfl ?_ | refine TL.extract rfl rfl rfl rfl ?_ | refine TL.maxI rfl rfl rfl rfl ?_ | refine TL.minI rfl rfl rfl rfl ?_ | refine TL.nilCheckF rfl rfl rfl ?_ | refine TL.nil ?_ | refine T.seqK fun K hK => ?_ | (refine T.regionO fun ops => ?_) | refine T.condT rfl ?_ | refine T.condF rfl ?_ | refine T.block ?_ | refine T.skip ?_ | refine T.ret ?_ | refine T.exit ?_ | (refine hK _ _ ?_; clear hK K) | clear hK K | clear ops)
          refine ⟨m - 1, by omega, k + 1, ⟨g.left, some (makeO x.1 o).1⟩, lp, .pointer (some ⟨b9, 0, none⟩), ?_, Below.trans hw9 (below_grown hg10 hb6 hw9.size), by omega, h49.keepG hg10 (by simp; omega), h610, hgl9.keep (hstep _ hg10), hnew.keep (hstep _ hg10), hls9.keep (hstep _ hg10), by rw [← hgap]; simp only [gapF, if_neg hc0, if_neg hc1, if_pos hn], by omega⟩
          repeat (first | exact Less.nil _ | refine Less.cons rfl ?_)
          refine Less.cons' rfl (by rw [wr_succ (by omega)]) ?_
          repeat (first | exact Less.nil _ | refine Less.cons rfl ?_)
        · have hn : ¬ g.right.isNone = true := by rw [← hrq, hc]; simp
          repeat (first | refine TL.move rfl rfl rfl ?_ | refine TL.assign rfl rfl rfl ?_ | refine TL.nilCheck rfl rfl rfl ?_ | refine TL.fieldAddr rfl rfl rfl ?_ | refine TL.convI rfl rfl rfl ?_ | refine TL.cmpI rfl rfl rfl rfl rfl ?_ | refine TL.arith rfl rfl rfl rfl rfl ?_ | refine TL.lenS rfl rfl rfl ?_ | refine TL.lenStr rfl rfl rfl ?_ | refine TL.not rfl rfl rfl ?_ | refine TL.skipG rfl rfl ?_ | refine TL.pickT rfl rfl rfl rfl ?_ | refine TL.pickF rfl rfl rfl rfl ?_ | refine TL.extract rfl rfl rfl rfl ?_ | refine TL.maxI rfl rfl rfl rfl ?_ | refine TL.minI rfl rfl rfl rfl ?_ | refine TL.nilCheckF rfl rfl rfl ?_ | refine TL.nil ?_ | refine T.seqK fun K hK => ?_ | (refine T.regionO fun ops => ?_) | refine T.condT rfl ?_ | refine T.condF rfl ?_ | refine T.block ?_ | refine T.skip ?_ | refine T.ret ?_ | refine T.exit ?_ | (refine hK _ _ ?_; clear hK K) | clear hK K | clear ops)
          refine ⟨m - 1, by omega, k + 1, g, lp, _, ?_, hw9, by omega, h49, h69, hgl9, hgr9, hls9, by rw [← hgap]; simp only [gapF, if_neg hc0, if_neg hc1, if_neg hn], by omega⟩
          repeat (first | exact Less.nil _ | refine Less.cons rfl ?_)
          refine Less.cons' rfl (by rw [wr_succ (by omega)]) ?_
          repeat (first | exact Less.nil _ | refine Less.cons rfl ?_)
  · have hk' : k = (lvO o).length := by simp at hc; omega
    have hres : gapO o key = some g := by rw [← hgap, hk']; simp [gapF]
    obtain ⟨lq, rfl, _⟩ := hgl.ptr
    obtain ⟨rq, rfl, _⟩ := hgr.ptr
    repeat (first | refine TL.move rfl rfl rfl ?_ | refine TL.assign rfl rfl rfl ?_ | refine TL.nilCheck rfl rfl rfl ?_ | refine TL.fieldAddr rfl rfl rfl ?_ | refine TL.convI rfl rfl rfl ?_ | refine TL.cmpI rfl rfl rfl rfl rfl ?_ | refine TL.arith rfl rfl rfl rfl rfl ?_ | refine TL.lenS rfl rfl rfl ?_ | refine TL.lenStr rfl rfl rfl ?_ | refine TL.not rfl rfl rfl ?_ | refine TL.skipG rfl rfl ?_ | refine TL.pickT rfl rfl rfl rfl ?_ | refine TL.pickF rfl rfl rfl rfl ?_ | refine TL.extract rfl rfl rfl rfl ?_ | refine TL.maxI rfl rfl rfl rfl ?_ | refine TL.minI rfl rfl rfl rfl ?_ | refine TL.nilCheckF rfl rfl rfl ?_ | refine TL.nil ?_ | refine T.seqK fun K hK => ?_ | (refine T.regionO fun ops => ?_) | refine T.condT rfl ?_ | refine T.condF rfl ?_ | refine T.block ?_ | refine T.skip ?_ | refine T.ret ?_ | refine T.exit ?_ | (refine hK _ _ ?_; clear hK K) | clear hK K | clear ops)
    refine TL.ev rfl rfl (Ev.loadRA (xs := [.pointer lq, .pointer rq]) rfl h6 rfl rfl) ?_
    refine TL.storeRA (A := []) (C := []) (old := [nilp, nilp]) (xs := [.pointer lq, .pointer rq]) rfl rfl rfl (by simpa using h4) rfl (by simp [Value.cells]) rfl rfl (by simp [Value.oneCell']) fun w7 hg7 h47 hs7 => ?_
    repeat (first | refine TL.move rfl rfl rfl ?_ | refine TL.assign rfl rfl rfl ?_ | refine TL.nilCheck rfl rfl rfl ?_ | refine TL.fieldAddr rfl rfl rfl ?_ | refine TL.convI rfl rfl rfl ?_ | refine TL.cmpI rfl rfl rfl rfl rfl ?_ | refine TL.arith rfl rfl rfl rfl rfl ?_ | refine TL.lenS rfl rfl rfl ?_ | refine TL.lenStr rfl rfl rfl ?_ | refine TL.not rfl rfl rfl ?_ | refine TL.skipG rfl rfl ?_ | refine TL.pickT rfl rfl rfl rfl ?_ | refine TL.pickF rfl rfl rfl rfl ?_ | refine TL.extract rfl rfl rfl rfl ?_ | refine TL.maxI rfl rfl rfl rfl ?_ | refine TL.minI rfl rfl rfl rfl ?_ | refine TL.nilCheckF rfl rfl rfl ?_ | refine TL.nil ?_ | refine T.seqK fun K hK => ?_ | (refine T.regionO fun ops => ?_) | refine T.condT rfl ?_ | refine T.condF rfl ?_ | refine T.block ?_ | refine T.skip ?_ | refine T.ret ?_ | refine T.exit ?_ | (refine hK _ _ ?_; clear hK K) | clear hK K | clear ops)
    refine ⟨_, ResV.cellA1 (xs := [.pointer lq, .pointer rq]) rfl rfl (fun j u hu => by rw [h47.cell]; simpa using hu) rfl, Below.trans hw4 (below_grown hg7 hb4 hw4.size), ?_⟩
    rw [hres]
    have hF : ∀ k, w2.heap.size ≤ k → w.heap.size ≤ k := fun k hk => Nat.le_trans hw2.size hk
    exact ⟨_, rfl, _, _, rfl, (hgl.keep (Same.ofGrown hg7 fun k hk => by simp; omega)).sub hF, (hgr.keep (Same.ofGrown hg7 fun k hk => by simp; omega)).sub hF⟩
end Go.Proofs
