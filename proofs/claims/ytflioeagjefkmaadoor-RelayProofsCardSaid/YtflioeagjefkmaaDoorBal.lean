/- What tree.balanced comes to. Conditions: as the theorem says. -/
import Derived.Test.YtflioeagjefkmaaDoorInn
set_option linter.all false
namespace Go.Proofs
open Go.Fw Go.RowKit
attribute [local irreducible] TL T TS Ev Ret

namespace Tr
def fit : Tr → Prop
  | leaf k v => k.length ≤ 2 ^ 30 ∧ v.length ≤ 2 ^ 30
  | node l r => l.fit ∧ r.fit
theorem least_le {t : Tr} (h : t.fit) : t.least.length ≤ 2 ^ 30 := by
  induction t with
  | leaf k v => exact h.1
  | node l r ihl ihr => exact ihl h.1
theorem key_le : ∀ {t : Tr}, t.fit → t.key.length ≤ 2 ^ 30
  | leaf _ _, h => h.1
  | node _ _, h => least_le h.2
theorem val_le : ∀ {t : Tr}, t.fit → t.val.length ≤ 2 ^ 30
  | leaf _ _, h => h.2
  | node _ _, _ => Nat.zero_le _
theorem ht_lt : ∀ t : Tr, t.ht < t.sz
  | leaf _ _ => Nat.one_pos
  | node l r => by have := ht_lt l; have := ht_lt r; simp only [ht, sz]; omega
/-- two trees put side by side, of which one may be too high by one -/
def bal (l r : Tr) : Tr :=
  if r.ht + 1 < l.ht then
    match l with
    | leaf _ _ => node l r
    | node ll lr => if ll.ht < lr.ht then
        match lr with
        | leaf _ _ => node l r
        | node a b => node (node ll a) (node b r)
      else node ll (node lr r)
  else if l.ht + 1 < r.ht then
    match r with
    | leaf _ _ => node l r
    | node rl rr => if rr.ht < rl.ht then
        match rl with
        | leaf _ _ => node l r
        | node a b => node (node l a) (node b rr)
      else node (node l rl) rr
  else node l r
end Tr

theorem inner_ret' (l r : Tr) (pl pr : Value) (w : World) (hW : KW w) (hl : IsT w l pl) (hr : IsT w r pr) (hlf : l.fit) (hrf : r.fit) (hs : l.sz + r.sz < 2 ^ 60) :
    Ret Tryd.prog 105 #[pl, pr] w fun u w' => Ext w w' ∧ IsT w' (.node l r) u :=
  inner_ret l r pl pr w hW hl hr (by have := Tr.ht_lt l; omega) (by have := Tr.ht_lt r; omega) hs (Tr.least_le hrf)

set_option maxRecDepth 20000 in
set_option maxHeartbeats 4000000 in
theorem balanced_ret (l r : Tr) (pl pr : Value) (w : World) (hW : KW w) (hl : IsT w l pl) (hr : IsT w r pr) (hlf : l.fit) (hrf : r.fit) (hs : l.sz + r.sz < 2 ^ 60) :
    Ret Tryd.prog 104 #[pl, pr] w fun u w' => Ext w w' ∧ IsT w' (l.bal r) u := by
  have hhl := Tr.ht_lt l
  have hhr := Tr.ht_lt r
  obtain ⟨bl, kvl, vvl, pll, plr, rfl, hrl, _, _, hcl⟩ := id hl.out
  obtain ⟨br, kvr, vvr, prl, prr, rfl, hrr, _, _, hcr⟩ := id hr.out
  refine Ret.of_T Tryd.func104 rfl Tryd.ntmps104 Tryd.results104 rfl ?_
  repeat (first | refine TL.move rfl rfl rfl ?_ | refine TL.assign rfl rfl rfl ?_ | refine TL.nilCheck rfl rfl rfl ?_ | refine TL.fieldAddr rfl rfl rfl ?_ | refine TL.convI rfl rfl rfl ?_ | refine TL.cmpI rfl rfl rfl rfl rfl ?_ | refine TL.arith rfl rfl rfl rfl rfl ?_ | refine TL.lenS rfl rfl rfl ?_ | refine TL.lenStr rfl rfl rfl ?_ | refine TL.not rfl rfl rfl ?_ | refine TL.skipG rfl rfl ?_ | refine TL.pickT rfl rfl rfl rfl ?_ | refine TL.pickF rfl rfl rfl rfl ?_ | refine TL.extract rfl rfl rfl rfl ?_ | refine TL.maxI rfl rfl rfl rfl ?_ | refine TL.minI rfl rfl rfl rfl ?_ | refine TL.nilCheckF rfl rfl rfl ?_ | refine TL.nil ?_ | refine T.seqK fun K hK => ?_ | (refine T.regionO fun ops => ?_) | refine T.condT rfl ?_ | refine T.condF rfl ?_ | refine T.block ?_ | refine T.skip ?_ | refine T.ret ?_ | refine T.exit ?_ | (refine hK _ _ ?_; clear hK K) | clear hK K | clear ops)
  refine T.draw Tryd.mixed (by kernel_rfl) fun ops w1 hb1 hh1 => ?_
  have hrl1 := hrl.keepA hb1
  have hrr1 := hrr.keepA hb1
  repeat (first | refine TS.ev rfl rfl (Ev.move rfl) ?_ | refine TS.ev rfl rfl (Ev.assign rfl) ?_ | refine TS.ev rfl rfl (Ev.nilCheck rfl) ?_ | refine TS.ev rfl rfl (Ev.fieldAddr rfl) ?_ | refine TS.ev rfl rfl (Ev.uop rfl rfl rfl) ?_ | refine TS.ev rfl rfl (Ev.cmpI rfl rfl rfl) ?_ | refine TS.ev rfl rfl (Ev.arith rfl rfl rfl) ?_ | refine TS.ev rfl rfl (Ev.convI rfl) ?_ | refine TS.ev rfl rfl (Ev.lenS rfl) ?_ | refine TS.ev rfl rfl (Ev.lenStr rfl) ?_ | refine TS.ev rfl rfl (Ev.not rfl) ?_ | refine TS.skipG rfl rfl ?_ | refine TS.ev rfl rfl (Ev.pickT rfl rfl) ?_ | refine TS.ev rfl rfl (Ev.pickF rfl rfl) ?_ | refine TS.ev rfl rfl (Ev.extract rfl rfl) ?_ | refine TS.ev rfl rfl (Ev.maxI rfl rfl) ?_ | refine TS.ev rfl rfl (Ev.minI rfl rfl) ?_ | refine TS.ev rfl rfl (Ev.nilCheckF rfl) ?_ | refine TS.nil ?_)
  refine TS.ev rfl rfl (Ev.loadR rfl hrl1 rfl) ?_
  repeat (first | refine TS.ev rfl rfl (Ev.move rfl) ?_ | refine TS.ev rfl rfl (Ev.assign rfl) ?_ | refine TS.ev rfl rfl (Ev.nilCheck rfl) ?_ | refine TS.ev rfl rfl (Ev.fieldAddr rfl) ?_ | refine TS.ev rfl rfl (Ev.uop rfl rfl rfl) ?_ | refine TS.ev rfl rfl (Ev.cmpI rfl rfl rfl) ?_ | refine TS.ev rfl rfl (Ev.arith rfl rfl rfl) ?_ | refine TS.ev rfl rfl (Ev.convI rfl) ?_ | refine TS.ev rfl rfl (Ev.lenS rfl) ?_ | refine TS.ev rfl rfl (Ev.lenStr rfl) ?_ | refine TS.ev rfl rfl (Ev.not rfl) ?_ | refine TS.skipG rfl rfl ?_ | refine TS.ev rfl rfl (Ev.pickT rfl rfl) ?_ | refine TS.ev rfl rfl (Ev.pickF rfl rfl) ?_ | refine TS.ev rfl rfl (Ev.extract rfl rfl) ?_ | refine TS.ev rfl rfl (Ev.maxI rfl rfl) ?_ | refine TS.ev rfl rfl (Ev.minI rfl rfl) ?_ | refine TS.ev rfl rfl (Ev.nilCheckF rfl) ?_ | refine TS.nil ?_)
  refine TS.ev rfl rfl (Ev.loadR rfl hrr1 rfl) ?_
  repeat (first | refine TS.ev rfl rfl (Ev.move rfl) ?_ | refine TS.ev rfl rfl (Ev.assign rfl) ?_ | refine TS.ev rfl rfl (Ev.nilCheck rfl) ?_ | refine TS.ev rfl rfl (Ev.fieldAddr rfl) ?_ | refine TS.ev rfl rfl (Ev.uop rfl rfl rfl) ?_ | refine TS.ev rfl rfl (Ev.cmpI rfl rfl rfl) ?_ | refine TS.ev rfl rfl (Ev.arith rfl rfl rfl) ?_ | refine TS.ev rfl rfl (Ev.convI rfl) ?_ | refine TS.ev rfl rfl (Ev.lenS rfl) ?_ | refine TS.ev rfl rfl (Ev.lenStr rfl) ?_ | refine TS.ev rfl rfl (Ev.not rfl) ?_ | refine TS.skipG rfl rfl ?_ | refine TS.ev rfl rfl (Ev.pickT rfl rfl) ?_ | refine TS.ev rfl rfl (Ev.pickF rfl rfl) ?_ | refine TS.ev rfl rfl (Ev.extract rfl rfl) ?_ | refine TS.ev rfl rfl (Ev.maxI rfl rfl) ?_ | refine TS.ev rfl rfl (Ev.minI rfl rfl) ?_ | refine TS.ev rfl rfl (Ev.nilCheckF rfl) ?_ | refine TS.nil ?_)
  repeat (first | refine TL.move rfl rfl rfl ?_ | refine TL.assign rfl rfl rfl ?_ | refine TL.nilCheck rfl rfl rfl ?_ | refine TL.fieldAddr rfl rfl rfl ?_ | refine TL.convI rfl rfl rfl ?_ | refine TL.cmpI rfl rfl rfl rfl rfl ?_ | refine TL.arith rfl rfl rfl rfl rfl ?_ | refine TL.lenS rfl rfl rfl ?_ | refine TL.lenStr rfl rfl rfl ?_ | refine TL.not rfl rfl rfl ?_ | refine TL.skipG rfl rfl ?_ | refine TL.pickT rfl rfl rfl rfl ?_ | refine TL.pickF rfl rfl rfl rfl ?_ | refine TL.extract rfl rfl rfl rfl ?_ | refine TL.maxI rfl rfl rfl rfl ?_ | refine TL.minI rfl rfl rfl rfl ?_ | refine TL.nilCheckF rfl rfl rfl ?_ | refine TL.nil ?_ | refine T.seqK fun K hK => ?_ | (refine T.regionO fun ops => ?_) | refine T.condT rfl ?_ | refine T.condF rfl ?_ | refine T.block ?_ | refine T.skip ?_ | refine T.ret ?_ | refine T.exit ?_ | (refine hK _ _ ?_; clear hK K) | clear hK K | clear ops)
  refine T.cond rfl (fun hc => ?_) (fun hc => ?_)
  · rw [wr_i64 (by omega) (by omega)] at hc
    have hc' : r.ht + 1 < l.ht := by simp at hc; omega
    cases l with
    | leaf k v => simp [Tr.ht] at hc'
    | node ll lr =>
    obtain ⟨hll, hlr⟩ := hcl
    obtain ⟨bll, _, _, _, _, rfl, hrll, _⟩ := id hll.out
    obtain ⟨blr, _, _, plrl, plrr, rfl, hrlr, _, _, hclr⟩ := id hlr.out
    have hll1 := hrll.keepA hb1
    have hlr1 := hrlr.keepA hb1
    have hhll := Tr.ht_lt ll
    have hhlr := Tr.ht_lt lr
    simp only [Tr.sz] at hs hhl
    repeat (first | refine TL.move rfl rfl rfl ?_ | refine TL.assign rfl rfl rfl ?_ | refine TL.nilCheck rfl rfl rfl ?_ | refine TL.fieldAddr rfl rfl rfl ?_ | refine TL.convI rfl rfl rfl ?_ | refine TL.cmpI rfl rfl rfl rfl rfl ?_ | refine TL.arith rfl rfl rfl rfl rfl ?_ | refine TL.lenS rfl rfl rfl ?_ | refine TL.lenStr rfl rfl rfl ?_ | refine TL.not rfl rfl rfl ?_ | refine TL.skipG rfl rfl ?_ | refine TL.pickT rfl rfl rfl rfl ?_ | refine TL.pickF rfl rfl rfl rfl ?_ | refine TL.extract rfl rfl rfl rfl ?_ | refine TL.maxI rfl rfl rfl rfl ?_ | refine TL.minI rfl rfl rfl rfl ?_ | refine TL.nilCheckF rfl rfl rfl ?_ | refine TL.nil ?_ | refine T.seqK fun K hK => ?_ | (refine T.regionO fun ops => ?_) | refine T.condT rfl ?_ | refine T.condF rfl ?_ | refine T.block ?_ | refine T.skip ?_ | refine T.ret ?_ | refine T.exit ?_ | (refine hK _ _ ?_; clear hK K) | clear hK K | clear ops)
    refine T.draw Tryd.mixed (by kernel_rfl) fun ops w2 hb2 hh2 => ?_
    have hw2 : Ext w w2 := Ext.trans hb1 hb2
    have hrl2 := hrl.keepA hw2
    have hrll2 := hrll.keepA hw2
    have hrlr2 := hrlr.keepA hw2
    repeat (first | refine TS.ev rfl rfl (Ev.move rfl) ?_ | refine TS.ev rfl rfl (Ev.assign rfl) ?_ | refine TS.ev rfl rfl (Ev.nilCheck rfl) ?_ | refine TS.ev rfl rfl (Ev.fieldAddr rfl) ?_ | refine TS.ev rfl rfl (Ev.uop rfl rfl rfl) ?_ | refine TS.ev rfl rfl (Ev.cmpI rfl rfl rfl) ?_ | refine TS.ev rfl rfl (Ev.arith rfl rfl rfl) ?_ | refine TS.ev rfl rfl (Ev.convI rfl) ?_ | refine TS.ev rfl rfl (Ev.lenS rfl) ?_ | refine TS.ev rfl rfl (Ev.lenStr rfl) ?_ | refine TS.ev rfl rfl (Ev.not rfl) ?_ | refine TS.skipG rfl rfl ?_ | refine TS.ev rfl rfl (Ev.pickT rfl rfl) ?_ | refine TS.ev rfl rfl (Ev.pickF rfl rfl) ?_ | refine TS.ev rfl rfl (Ev.extract rfl rfl) ?_ | refine TS.ev rfl rfl (Ev.maxI rfl rfl) ?_ | refine TS.ev rfl rfl (Ev.minI rfl rfl) ?_ | refine TS.ev rfl rfl (Ev.nilCheckF rfl) ?_ | refine TS.nil ?_)
    refine TS.ev rfl rfl (Ev.loadR rfl hrl2 (tcs100 _ _ _ _ _)) ?_
    repeat (first | refine TS.ev rfl rfl (Ev.move rfl) ?_ | refine TS.ev rfl rfl (Ev.assign rfl) ?_ | refine TS.ev rfl rfl (Ev.nilCheck rfl) ?_ | refine TS.ev rfl rfl (Ev.fieldAddr rfl) ?_ | refine TS.ev rfl rfl (Ev.uop rfl rfl rfl) ?_ | refine TS.ev rfl rfl (Ev.cmpI rfl rfl rfl) ?_ | refine TS.ev rfl rfl (Ev.arith rfl rfl rfl) ?_ | refine TS.ev rfl rfl (Ev.convI rfl) ?_ | refine TS.ev rfl rfl (Ev.lenS rfl) ?_ | refine TS.ev rfl rfl (Ev.lenStr rfl) ?_ | refine TS.ev rfl rfl (Ev.not rfl) ?_ | refine TS.skipG rfl rfl ?_ | refine TS.ev rfl rfl (Ev.pickT rfl rfl) ?_ | refine TS.ev rfl rfl (Ev.pickF rfl rfl) ?_ | refine TS.ev rfl rfl (Ev.extract rfl rfl) ?_ | refine TS.ev rfl rfl (Ev.maxI rfl rfl) ?_ | refine TS.ev rfl rfl (Ev.minI rfl rfl) ?_ | refine TS.ev rfl rfl (Ev.nilCheckF rfl) ?_ | refine TS.nil ?_)
    refine TS.ev rfl rfl (Ev.loadR rfl hrll2 rfl) ?_
    repeat (first | refine TS.ev rfl rfl (Ev.move rfl) ?_ | refine TS.ev rfl rfl (Ev.assign rfl) ?_ | refine TS.ev rfl rfl (Ev.nilCheck rfl) ?_ | refine TS.ev rfl rfl (Ev.fieldAddr rfl) ?_ | refine TS.ev rfl rfl (Ev.uop rfl rfl rfl) ?_ | refine TS.ev rfl rfl (Ev.cmpI rfl rfl rfl) ?_ | refine TS.ev rfl rfl (Ev.arith rfl rfl rfl) ?_ | refine TS.ev rfl rfl (Ev.convI rfl) ?_ | refine TS.ev rfl rfl (Ev.lenS rfl) ?_ | refine TS.ev rfl rfl (Ev.lenStr rfl) ?_ | refine TS.ev rfl rfl (Ev.not rfl) ?_ | refine TS.skipG rfl rfl ?_ | refine TS.ev rfl rfl (Ev.pickT rfl rfl) ?_ | refine TS.ev rfl rfl (Ev.pickF rfl rfl) ?_ | refine TS.ev rfl rfl (Ev.extract rfl rfl) ?_ | refine TS.ev rfl rfl (Ev.maxI rfl rfl) ?_ | refine TS.ev rfl rfl (Ev.minI rfl rfl) ?_ | refine TS.ev rfl rfl (Ev.nilCheckF rfl) ?_ | refine TS.nil ?_)
    refine TS.ev rfl rfl (Ev.loadR rfl hrl2 (tcs101 _ _ _ _ _)) ?_
    repeat (first | refine TS.ev rfl rfl (Ev.move rfl) ?_ | refine TS.ev rfl rfl (Ev.assign rfl) ?_ | refine TS.ev rfl rfl (Ev.nilCheck rfl) ?_ | refine TS.ev rfl rfl (Ev.fieldAddr rfl) ?_ | refine TS.ev rfl rfl (Ev.uop rfl rfl rfl) ?_ | refine TS.ev rfl rfl (Ev.cmpI rfl rfl rfl) ?_ | refine TS.ev rfl rfl (Ev.arith rfl rfl rfl) ?_ | refine TS.ev rfl rfl (Ev.convI rfl) ?_ | refine TS.ev rfl rfl (Ev.lenS rfl) ?_ | refine TS.ev rfl rfl (Ev.lenStr rfl) ?_ | refine TS.ev rfl rfl (Ev.not rfl) ?_ | refine TS.skipG rfl rfl ?_ | refine TS.ev rfl rfl (Ev.pickT rfl rfl) ?_ | refine TS.ev rfl rfl (Ev.pickF rfl rfl) ?_ | refine TS.ev rfl rfl (Ev.extract rfl rfl) ?_ | refine TS.ev rfl rfl (Ev.maxI rfl rfl) ?_ | refine TS.ev rfl rfl (Ev.minI rfl rfl) ?_ | refine TS.ev rfl rfl (Ev.nilCheckF rfl) ?_ | refine TS.nil ?_)
    refine TS.ev rfl rfl (Ev.loadR rfl hrlr2 rfl) ?_
    repeat (first | refine TS.ev rfl rfl (Ev.move rfl) ?_ | refine TS.ev rfl rfl (Ev.assign rfl) ?_ | refine TS.ev rfl rfl (Ev.nilCheck rfl) ?_ | refine TS.ev rfl rfl (Ev.fieldAddr rfl) ?_ | refine TS.ev rfl rfl (Ev.uop rfl rfl rfl) ?_ | refine TS.ev rfl rfl (Ev.cmpI rfl rfl rfl) ?_ | refine TS.ev rfl rfl (Ev.arith rfl rfl rfl) ?_ | refine TS.ev rfl rfl (Ev.convI rfl) ?_ | refine TS.ev rfl rfl (Ev.lenS rfl) ?_ | refine TS.ev rfl rfl (Ev.lenStr rfl) ?_ | refine TS.ev rfl rfl (Ev.not rfl) ?_ | refine TS.skipG rfl rfl ?_ | refine TS.ev rfl rfl (Ev.pickT rfl rfl) ?_ | refine TS.ev rfl rfl (Ev.pickF rfl rfl) ?_ | refine TS.ev rfl rfl (Ev.extract rfl rfl) ?_ | refine TS.ev rfl rfl (Ev.maxI rfl rfl) ?_ | refine TS.ev rfl rfl (Ev.minI rfl rfl) ?_ | refine TS.ev rfl rfl (Ev.nilCheckF rfl) ?_ | refine TS.nil ?_)
    repeat (first | refine TL.move rfl rfl rfl ?_ | refine TL.assign rfl rfl rfl ?_ | refine TL.nilCheck rfl rfl rfl ?_ | refine TL.fieldAddr rfl rfl rfl ?_ | refine TL.convI rfl rfl rfl ?_ | refine TL.cmpI rfl rfl rfl rfl rfl ?_ | refine TL.arith rfl rfl rfl rfl rfl ?_ | refine TL.lenS rfl rfl rfl ?_ | refine TL.lenStr rfl rfl rfl ?_ | refine TL.not rfl rfl rfl ?_ | refine TL.skipG rfl rfl ?_ | refine TL.pickT rfl rfl rfl rfl ?_ | refine TL.pickF rfl rfl rfl rfl ?_ | refine TL.extract rfl rfl rfl rfl ?_ | refine TL.maxI rfl rfl rfl rfl ?_ | refine TL.minI rfl rfl rfl rfl ?_ | refine TL.nilCheckF rfl rfl rfl ?_ | refine TL.nil ?_ | refine T.seqK fun K hK => ?_ | (refine T.regionO fun ops => ?_) | refine T.condT rfl ?_ | refine T.condF rfl ?_ | refine T.block ?_ | refine T.skip ?_ | refine T.ret ?_ | refine T.exit ?_ | (refine hK _ _ ?_; clear hK K) | clear hK K | clear ops)
    refine T.cond rfl (fun hd => ?_) (fun hd => ?_)
    · have hd' : ll.ht < lr.ht := by simp at hd; omega
      cases lr with
      | leaf k v => simp [Tr.ht] at hd'
      | node a b =>
      obtain ⟨ha, hb⟩ := hclr
      simp only [Tr.sz] at hs hhl hhlr
      have e : (Tr.node ll (Tr.node a b)).bal r = Tr.node (Tr.node ll a) (Tr.node b r) := by unfold Tr.bal; rw [if_pos hc']; simp only [if_pos hd']
      repeat (first | refine TL.move rfl rfl rfl ?_ | refine TL.assign rfl rfl rfl ?_ | refine TL.nilCheck rfl rfl rfl ?_ | refine TL.fieldAddr rfl rfl rfl ?_ | refine TL.convI rfl rfl rfl ?_ | refine TL.cmpI rfl rfl rfl rfl rfl ?_ | refine TL.arith rfl rfl rfl rfl rfl ?_ | refine TL.lenS rfl rfl rfl ?_ | refine TL.lenStr rfl rfl rfl ?_ | refine TL.not rfl rfl rfl ?_ | refine TL.skipG rfl rfl ?_ | refine TL.pickT rfl rfl rfl rfl ?_ | refine TL.pickF rfl rfl rfl rfl ?_ | refine TL.extract rfl rfl rfl rfl ?_ | refine TL.maxI rfl rfl rfl rfl ?_ | refine TL.minI rfl rfl rfl rfl ?_ | refine TL.nilCheckF rfl rfl rfl ?_ | refine TL.nil ?_ | refine T.seqK fun K hK => ?_ | (refine T.regionO fun ops => ?_) | refine T.condT rfl ?_ | refine T.condF rfl ?_ | refine T.block ?_ | refine T.skip ?_ | refine T.ret ?_ | refine T.exit ?_ | (refine hK _ _ ?_; clear hK K) | clear hK K | clear ops)
      refine T.drawK 22 Tryd.mixed (by kernel_rfl) fun ops w3 hb3 hh3 K hK => ?_
      have hw3 : Ext w w3 := Ext.trans hw2 hb3
      have hrl3 := hrl.keepA hw3
      have hrlr3 := hrlr.keepA hw3
      simp only [List.take_succ_cons, List.take_zero]
      repeat (refine DR.v _ rfl (fun w' σ he => by first | exact Ev.move rfl | exact Ev.nilCheck rfl | exact Ev.fieldAddr rfl) ?_)
      refine DR.v _ rfl (fun w' σ he => Ev.loadR rfl (hrl3.keepA he) (tcs100 _ _ _ _ _)) ?_
      repeat (refine DR.v _ rfl (fun w' σ he => by first | exact Ev.move rfl | exact Ev.nilCheck rfl | exact Ev.fieldAddr rfl) ?_)
      refine DR.v _ rfl (fun w' σ he => Ev.loadR rfl (hrl3.keepA he) (tcs101 _ _ _ _ _)) ?_
      repeat (refine DR.v _ rfl (fun w' σ he => by first | exact Ev.move rfl | exact Ev.nilCheck rfl | exact Ev.fieldAddr rfl) ?_)
      refine DR.v _ rfl (fun w' σ he => Ev.loadR rfl (hrlr3.keepA he) (tcs100 _ _ _ _ _)) ?_
      refine DR.a (fun u w' => IsT w' (.node ll a) u) (fun u w1 w2 h e => IsT.ext e h) (fun w' σ he hσ => ?_) ?_
      · refine TL.call rfl rfl rfl (inner_ret' ll a _ _ w' (hW.ext (hw3.trans he)) (IsT.ext (hw3.trans he) hll) (IsT.ext (hw3.trans he) ha) hlf.1 hlf.2.1 (by omega)) ?_
        rintro u w4 ⟨e1, e2⟩
        exact TL.nil ⟨e1, u, rfl, e2⟩
      repeat (refine DR.v _ rfl (fun w' σ he => by first | exact Ev.move rfl | exact Ev.nilCheck rfl | exact Ev.fieldAddr rfl) ?_)
      refine DR.v _ rfl (fun w' σ he => Ev.loadR rfl (hrl3.keepA he) (tcs101 _ _ _ _ _)) ?_
      repeat (refine DR.v _ rfl (fun w' σ he => by first | exact Ev.move rfl | exact Ev.nilCheck rfl | exact Ev.fieldAddr rfl) ?_)
      refine DR.v _ rfl (fun w' σ he => Ev.loadR rfl (hrlr3.keepA he) (tcs101 _ _ _ _ _)) ?_
      repeat (refine DR.v _ rfl (fun w' σ he => by first | exact Ev.move rfl | exact Ev.nilCheck rfl | exact Ev.fieldAddr rfl) ?_)
      refine DR.a (fun u w' => IsT w' (.node b r) u) (fun u w1 w2 h e => IsT.ext e h) (fun w' σ he hσ => ?_) ?_
      · refine TL.call rfl rfl rfl (inner_ret' b r _ _ w' (hW.ext (hw3.trans he)) (IsT.ext (hw3.trans he) hb) (IsT.ext (hw3.trans he) hr) hlf.2.2 hrf (by omega)) ?_
        rintro u w4 ⟨e1, e2⟩
        exact TL.nil ⟨e1, u, rfl, e2⟩
      refine DR.a (fun u w' => IsT w' (.node (.node ll a) (.node b r)) u) (fun u w1 w2 h e => IsT.ext e h) (fun w' σ he hσ => ?_) ?_
      · refine TL.call (vs := [σ 46, σ 55]) rfl rfl rfl (inner_ret' (.node ll a) (.node b r) _ _ w' (hW.ext (hw3.trans he)) (hσ.get 46 rfl) (hσ.get 55 rfl) ⟨hlf.1, hlf.2.1⟩ ⟨hlf.2.2, hrf⟩ (by simp only [Tr.sz]; omega)) ?_
        rintro u w4 ⟨e1, e2⟩
        exact TL.nil ⟨e1, u, rfl, e2⟩
      refine DR.nil (hK _ fun w' σ he hσ => ?_)
      simp only [List.drop_succ_cons, List.drop_zero]
      clear hK K
      have hres := hσ.get 56 rfl
      repeat (first | refine TL.move rfl rfl rfl ?_ | refine TL.assign rfl rfl rfl ?_ | refine TL.nilCheck rfl rfl rfl ?_ | refine TL.fieldAddr rfl rfl rfl ?_ | refine TL.convI rfl rfl rfl ?_ | refine TL.cmpI rfl rfl rfl rfl rfl ?_ | refine TL.arith rfl rfl rfl rfl rfl ?_ | refine TL.lenS rfl rfl rfl ?_ | refine TL.lenStr rfl rfl rfl ?_ | refine TL.not rfl rfl rfl ?_ | refine TL.skipG rfl rfl ?_ | refine TL.pickT rfl rfl rfl rfl ?_ | refine TL.pickF rfl rfl rfl rfl ?_ | refine TL.extract rfl rfl rfl rfl ?_ | refine TL.maxI rfl rfl rfl rfl ?_ | refine TL.minI rfl rfl rfl rfl ?_ | refine TL.nilCheckF rfl rfl rfl ?_ | refine TL.nil ?_ | refine T.seqK fun K hK => ?_ | (refine T.regionO fun ops => ?_) | refine T.condT rfl ?_ | refine T.condF rfl ?_ | refine T.block ?_ | refine T.skip ?_ | refine T.ret ?_ | refine T.exit ?_ | (refine hK _ _ ?_; clear hK K) | clear hK K | clear ops)
      exact ⟨_, rfl, hw3.trans he, by rw [e]; exact hres⟩
    · have hd' : ¬ ll.ht < lr.ht := by simp at hd; omega
      have e : (Tr.node ll lr).bal r = Tr.node ll (Tr.node lr r) := by unfold Tr.bal; rw [if_pos hc']; simp only [if_neg hd']
      repeat (first | refine TL.move rfl rfl rfl ?_ | refine TL.assign rfl rfl rfl ?_ | refine TL.nilCheck rfl rfl rfl ?_ | refine TL.fieldAddr rfl rfl rfl ?_ | refine TL.convI rfl rfl rfl ?_ | refine TL.cmpI rfl rfl rfl rfl rfl ?_ | refine TL.arith rfl rfl rfl rfl rfl ?_ | refine TL.lenS rfl rfl rfl ?_ | refine TL.lenStr rfl rfl rfl ?_ | refine TL.not rfl rfl rfl ?_ | refine TL.skipG rfl rfl ?_ | refine TL.pickT rfl rfl rfl rfl ?_ | refine TL.pickF rfl rfl rfl rfl ?_ | refine TL.extract rfl rfl rfl rfl ?_ | refine TL.maxI rfl rfl rfl rfl ?_ | refine TL.minI rfl rfl rfl rfl ?_ | refine TL.nilCheckF rfl rfl rfl ?_ | refine TL.nil ?_ | refine T.seqK fun K hK => ?_ | (refine T.regionO fun ops => ?_) | refine T.condT rfl ?_ | refine T.condF rfl ?_ | refine T.block ?_ | refine T.skip ?_ | refine T.ret ?_ | refine T.exit ?_ | (refine hK _ _ ?_; clear hK K) | clear hK K | clear ops)
      refine T.drawK 11 Tryd.mixed (by kernel_rfl) fun ops w3 hb3 hh3 K hK => ?_
      have hw3 : Ext w w3 := Ext.trans hw2 hb3
      have hrl3 := hrl.keepA hw3
      simp only [List.take_succ_cons, List.take_zero]
      repeat (refine DR.v _ rfl (fun w' σ he => by first | exact Ev.move rfl | exact Ev.nilCheck rfl | exact Ev.fieldAddr rfl) ?_)
      refine DR.v _ rfl (fun w' σ he => Ev.loadR rfl (hrl3.keepA he) (tcs100 _ _ _ _ _)) ?_
      repeat (refine DR.v _ rfl (fun w' σ he => by first | exact Ev.move rfl | exact Ev.nilCheck rfl | exact Ev.fieldAddr rfl) ?_)
      refine DR.v _ rfl (fun w' σ he => Ev.loadR rfl (hrl3.keepA he) (tcs101 _ _ _ _ _)) ?_
      repeat (refine DR.v _ rfl (fun w' σ he => by first | exact Ev.move rfl | exact Ev.nilCheck rfl | exact Ev.fieldAddr rfl) ?_)
      refine DR.a (fun u w' => IsT w' (.node lr r) u) (fun u w1 w2 h e => IsT.ext e h) (fun w' σ he hσ => ?_) ?_
      · refine TL.call rfl rfl rfl (inner_ret' lr r _ _ w' (hW.ext (hw3.trans he)) (IsT.ext (hw3.trans he) hlr) (IsT.ext (hw3.trans he) hr) hlf.2 hrf (by omega)) ?_
        rintro u w4 ⟨e1, e2⟩
        exact TL.nil ⟨e1, u, rfl, e2⟩
      refine DR.a (fun u w' => IsT w' (.node ll (.node lr r)) u) (fun u w1 w2 h e => IsT.ext e h) (fun w' σ he hσ => ?_) ?_
      · refine TL.call (vs := [_, σ 66]) rfl rfl rfl (inner_ret' ll (.node lr r) _ _ w' (hW.ext (hw3.trans he)) (IsT.ext (hw3.trans he) hll) (hσ.get 66 rfl) hlf.1 ⟨hlf.2, hrf⟩ (by simp only [Tr.sz]; omega)) ?_
        rintro u w4 ⟨e1, e2⟩
        exact TL.nil ⟨e1, u, rfl, e2⟩
      refine DR.nil (hK _ fun w' σ he hσ => ?_)
      simp only [List.drop_succ_cons, List.drop_zero]
      clear hK K
      have hres := hσ.get 67 rfl
      repeat (first | refine TL.move rfl rfl rfl ?_ | refine TL.assign rfl rfl rfl ?_ | refine TL.nilCheck rfl rfl rfl ?_ | refine TL.fieldAddr rfl rfl rfl ?_ | refine TL.convI rfl rfl rfl ?_ | refine TL.cmpI rfl rfl rfl rfl rfl ?_ | refine TL.arith rfl rfl rfl rfl rfl ?_ | refine TL.lenS rfl rfl rfl ?_ | refine TL.lenStr rfl rfl rfl ?_ | refine TL.not rfl rfl rfl ?_ | refine TL.skipG rfl rfl ?_ | refine TL.pickT rfl rfl rfl rfl ?_ | refine TL.pickF rfl rfl rfl rfl ?_ | refine TL.extract rfl rfl rfl rfl ?_ | refine TL.maxI rfl rfl rfl rfl ?_ | refine TL.minI rfl rfl rfl rfl ?_ | refine TL.nilCheckF rfl rfl rfl ?_ | refine TL.nil ?_ | refine T.seqK fun K hK => ?_ | (refine T.regionO fun ops => ?_) | refine T.condT rfl ?_ | refine T.condF rfl ?_ | refine T.block ?_ | refine T.skip ?_ | refine T.ret ?_ | refine T.exit ?_ | (refine hK _ _ ?_; clear hK K) | clear hK K | clear ops)
      exact ⟨_, rfl, hw3.trans he, by rw [e]; exact hres⟩
  · rw [wr_i64 (by omega) (by omega)] at hc
    have hc' : ¬ r.ht + 1 < l.ht := by simp at hc; omega
    clear hc
    repeat (first | refine TL.move rfl rfl rfl ?_ | refine TL.assign rfl rfl rfl ?_ | refine TL.nilCheck rfl rfl rfl ?_ | refine TL.fieldAddr rfl rfl rfl ?_ | refine TL.convI rfl rfl rfl ?_ | refine TL.cmpI rfl rfl rfl rfl rfl ?_ | refine TL.arith rfl rfl rfl rfl rfl ?_ | refine TL.lenS rfl rfl rfl ?_ | refine TL.lenStr rfl rfl rfl ?_ | refine TL.not rfl rfl rfl ?_ | refine TL.skipG rfl rfl ?_ | refine TL.pickT rfl rfl rfl rfl ?_ | refine TL.pickF rfl rfl rfl rfl ?_ | refine TL.extract rfl rfl rfl rfl ?_ | refine TL.maxI rfl rfl rfl rfl ?_ | refine TL.minI rfl rfl rfl rfl ?_ | refine TL.nilCheckF rfl rfl rfl ?_ | refine TL.nil ?_ | refine T.seqK fun K hK => ?_ | (refine T.regionO fun ops => ?_) | refine T.condT rfl ?_ | refine T.condF rfl ?_ | refine T.block ?_ | refine T.skip ?_ | refine T.ret ?_ | refine T.exit ?_ | (refine hK _ _ ?_; clear hK K) | clear hK K | clear ops)
    refine T.draw Tryd.mixed (by kernel_rfl) fun ops w2 hb2 hh2 => ?_
    have hw2 : Ext w w2 := Ext.trans hb1 hb2
    have hrl2 := hrl.keepA hw2
    have hrr2 := hrr.keepA hw2
    repeat (first | refine TS.ev rfl rfl (Ev.move rfl) ?_ | refine TS.ev rfl rfl (Ev.assign rfl) ?_ | refine TS.ev rfl rfl (Ev.nilCheck rfl) ?_ | refine TS.ev rfl rfl (Ev.fieldAddr rfl) ?_ | refine TS.ev rfl rfl (Ev.uop rfl rfl rfl) ?_ | refine TS.ev rfl rfl (Ev.cmpI rfl rfl rfl) ?_ | refine TS.ev rfl rfl (Ev.arith rfl rfl rfl) ?_ | refine TS.ev rfl rfl (Ev.convI rfl) ?_ | refine TS.ev rfl rfl (Ev.lenS rfl) ?_ | refine TS.ev rfl rfl (Ev.lenStr rfl) ?_ | refine TS.ev rfl rfl (Ev.not rfl) ?_ | refine TS.skipG rfl rfl ?_ | refine TS.ev rfl rfl (Ev.pickT rfl rfl) ?_ | refine TS.ev rfl rfl (Ev.pickF rfl rfl) ?_ | refine TS.ev rfl rfl (Ev.extract rfl rfl) ?_ | refine TS.ev rfl rfl (Ev.maxI rfl rfl) ?_ | refine TS.ev rfl rfl (Ev.minI rfl rfl) ?_ | refine TS.ev rfl rfl (Ev.nilCheckF rfl) ?_ | refine TS.nil ?_)
    refine TS.ev rfl rfl (Ev.loadR rfl hrr2 rfl) ?_
    repeat (first | refine TS.ev rfl rfl (Ev.move rfl) ?_ | refine TS.ev rfl rfl (Ev.assign rfl) ?_ | refine TS.ev rfl rfl (Ev.nilCheck rfl) ?_ | refine TS.ev rfl rfl (Ev.fieldAddr rfl) ?_ | refine TS.ev rfl rfl (Ev.uop rfl rfl rfl) ?_ | refine TS.ev rfl rfl (Ev.cmpI rfl rfl rfl) ?_ | refine TS.ev rfl rfl (Ev.arith rfl rfl rfl) ?_ | refine TS.ev rfl rfl (Ev.convI rfl) ?_ | refine TS.ev rfl rfl (Ev.lenS rfl) ?_ | refine TS.ev rfl rfl (Ev.lenStr rfl) ?_ | refine TS.ev rfl rfl (Ev.not rfl) ?_ | refine TS.skipG rfl rfl ?_ | refine TS.ev rfl rfl (Ev.pickT rfl rfl) ?_ | refine TS.ev rfl rfl (Ev.pickF rfl rfl) ?_ | refine TS.ev rfl rfl (Ev.extract rfl rfl) ?_ | refine TS.ev rfl rfl (Ev.maxI rfl rfl) ?_ | refine TS.ev rfl rfl (Ev.minI rfl rfl) ?_ | refine TS.ev rfl rfl (Ev.nilCheckF rfl) ?_ | refine TS.nil ?_)
    refine TS.ev rfl rfl (Ev.loadR rfl hrl2 rfl) ?_
    repeat (first | refine TS.ev rfl rfl (Ev.move rfl) ?_ | refine TS.ev rfl rfl (Ev.assign rfl) ?_ | refine TS.ev rfl rfl (Ev.nilCheck rfl) ?_ | refine TS.ev rfl rfl (Ev.fieldAddr rfl) ?_ | refine TS.ev rfl rfl (Ev.uop rfl rfl rfl) ?_ | refine TS.ev rfl rfl (Ev.cmpI rfl rfl rfl) ?_ | refine TS.ev rfl rfl (Ev.arith rfl rfl rfl) ?_ | refine TS.ev rfl rfl (Ev.convI rfl) ?_ | refine TS.ev rfl rfl (Ev.lenS rfl) ?_ | refine TS.ev rfl rfl (Ev.lenStr rfl) ?_ | refine TS.ev rfl rfl (Ev.not rfl) ?_ | refine TS.skipG rfl rfl ?_ | refine TS.ev rfl rfl (Ev.pickT rfl rfl) ?_ | refine TS.ev rfl rfl (Ev.pickF rfl rfl) ?_ | refine TS.ev rfl rfl (Ev.extract rfl rfl) ?_ | refine TS.ev rfl rfl (Ev.maxI rfl rfl) ?_ | refine TS.ev rfl rfl (Ev.minI rfl rfl) ?_ | refine TS.ev rfl rfl (Ev.nilCheckF rfl) ?_ | refine TS.nil ?_)
    repeat (first | refine TL.move rfl rfl rfl ?_ | refine TL.assign rfl rfl rfl ?_ | refine TL.nilCheck rfl rfl rfl ?_ | refine TL.fieldAddr rfl rfl rfl ?_ | refine TL.convI rfl rfl rfl ?_ | refine TL.cmpI rfl rfl rfl rfl rfl ?_ | refine TL.arith rfl rfl rfl rfl rfl ?_ | refine TL.lenS rfl rfl rfl ?_ | refine TL.lenStr rfl rfl rfl ?_ | refine TL.not rfl rfl rfl ?_ | refine TL.skipG rfl rfl ?_ | refine TL.pickT rfl rfl rfl rfl ?_ | refine TL.pickF rfl rfl rfl rfl ?_ | refine TL.extract rfl rfl rfl rfl ?_ | refine TL.maxI rfl rfl rfl rfl ?_ | refine TL.minI rfl rfl rfl rfl ?_ | refine TL.nilCheckF rfl rfl rfl ?_ | refine TL.nil ?_ | refine T.seqK fun K hK => ?_ | (refine T.regionO fun ops => ?_) | refine T.condT rfl ?_ | refine T.condF rfl ?_ | refine T.block ?_ | refine T.skip ?_ | refine T.ret ?_ | refine T.exit ?_ | (refine hK _ _ ?_; clear hK K) | clear hK K | clear ops)
    refine T.cond rfl (fun hc => ?_) (fun hc => ?_)
    · rw [wr_i64 (by omega) (by omega)] at hc
      have hc2 : l.ht + 1 < r.ht := by simp at hc; omega
      cases r with
      | leaf k v => simp [Tr.ht] at hc2
      | node rl rr =>
      obtain ⟨hrl', hrr'⟩ := hcr
      obtain ⟨brl, _, _, prll, prlr, rfl, hrrl, _, _, hcrl⟩ := id hrl'.out
      obtain ⟨brr, _, _, _, _, rfl, hrrr, _⟩ := id hrr'.out
      have hhrl := Tr.ht_lt rl
      have hhrr := Tr.ht_lt rr
      simp only [Tr.sz] at hs hhr
      repeat (first | refine TL.move rfl rfl rfl ?_ | refine TL.assign rfl rfl rfl ?_ | refine TL.nilCheck rfl rfl rfl ?_ | refine TL.fieldAddr rfl rfl rfl ?_ | refine TL.convI rfl rfl rfl ?_ | refine TL.cmpI rfl rfl rfl rfl rfl ?_ | refine TL.arith rfl rfl rfl rfl rfl ?_ | refine TL.lenS rfl rfl rfl ?_ | refine TL.lenStr rfl rfl rfl ?_ | refine TL.not rfl rfl rfl ?_ | refine TL.skipG rfl rfl ?_ | refine TL.pickT rfl rfl rfl rfl ?_ | refine TL.pickF rfl rfl rfl rfl ?_ | refine TL.extract rfl rfl rfl rfl ?_ | refine TL.maxI rfl rfl rfl rfl ?_ | refine TL.minI rfl rfl rfl rfl ?_ | refine TL.nilCheckF rfl rfl rfl ?_ | refine TL.nil ?_ | refine T.seqK fun K hK => ?_ | (refine T.regionO fun ops => ?_) | refine T.condT rfl ?_ | refine T.condF rfl ?_ | refine T.block ?_ | refine T.skip ?_ | refine T.ret ?_ | refine T.exit ?_ | (refine hK _ _ ?_; clear hK K) | clear hK K | clear ops)
      refine T.draw Tryd.mixed (by kernel_rfl) fun ops w3 hb3 hh3 => ?_
      have hw3 : Ext w w3 := Ext.trans hw2 hb3
      have hrr3 := hrr.keepA hw3
      have hrrl3 := hrrl.keepA hw3
      have hrrr3 := hrrr.keepA hw3
      repeat (first | refine TS.ev rfl rfl (Ev.move rfl) ?_ | refine TS.ev rfl rfl (Ev.assign rfl) ?_ | refine TS.ev rfl rfl (Ev.nilCheck rfl) ?_ | refine TS.ev rfl rfl (Ev.fieldAddr rfl) ?_ | refine TS.ev rfl rfl (Ev.uop rfl rfl rfl) ?_ | refine TS.ev rfl rfl (Ev.cmpI rfl rfl rfl) ?_ | refine TS.ev rfl rfl (Ev.arith rfl rfl rfl) ?_ | refine TS.ev rfl rfl (Ev.convI rfl) ?_ | refine TS.ev rfl rfl (Ev.lenS rfl) ?_ | refine TS.ev rfl rfl (Ev.lenStr rfl) ?_ | refine TS.ev rfl rfl (Ev.not rfl) ?_ | refine TS.skipG rfl rfl ?_ | refine TS.ev rfl rfl (Ev.pickT rfl rfl) ?_ | refine TS.ev rfl rfl (Ev.pickF rfl rfl) ?_ | refine TS.ev rfl rfl (Ev.extract rfl rfl) ?_ | refine TS.ev rfl rfl (Ev.maxI rfl rfl) ?_ | refine TS.ev rfl rfl (Ev.minI rfl rfl) ?_ | refine TS.ev rfl rfl (Ev.nilCheckF rfl) ?_ | refine TS.nil ?_)
      refine TS.ev rfl rfl (Ev.loadR rfl hrr3 (tcs101 _ _ _ _ _)) ?_
      repeat (first | refine TS.ev rfl rfl (Ev.move rfl) ?_ | refine TS.ev rfl rfl (Ev.assign rfl) ?_ | refine TS.ev rfl rfl (Ev.nilCheck rfl) ?_ | refine TS.ev rfl rfl (Ev.fieldAddr rfl) ?_ | refine TS.ev rfl rfl (Ev.uop rfl rfl rfl) ?_ | refine TS.ev rfl rfl (Ev.cmpI rfl rfl rfl) ?_ | refine TS.ev rfl rfl (Ev.arith rfl rfl rfl) ?_ | refine TS.ev rfl rfl (Ev.convI rfl) ?_ | refine TS.ev rfl rfl (Ev.lenS rfl) ?_ | refine TS.ev rfl rfl (Ev.lenStr rfl) ?_ | refine TS.ev rfl rfl (Ev.not rfl) ?_ | refine TS.skipG rfl rfl ?_ | refine TS.ev rfl rfl (Ev.pickT rfl rfl) ?_ | refine TS.ev rfl rfl (Ev.pickF rfl rfl) ?_ | refine TS.ev rfl rfl (Ev.extract rfl rfl) ?_ | refine TS.ev rfl rfl (Ev.maxI rfl rfl) ?_ | refine TS.ev rfl rfl (Ev.minI rfl rfl) ?_ | refine TS.ev rfl rfl (Ev.nilCheckF rfl) ?_ | refine TS.nil ?_)
      refine TS.ev rfl rfl (Ev.loadR rfl hrrr3 rfl) ?_
      repeat (first | refine TS.ev rfl rfl (Ev.move rfl) ?_ | refine TS.ev rfl rfl (Ev.assign rfl) ?_ | refine TS.ev rfl rfl (Ev.nilCheck rfl) ?_ | refine TS.ev rfl rfl (Ev.fieldAddr rfl) ?_ | refine TS.ev rfl rfl (Ev.uop rfl rfl rfl) ?_ | refine TS.ev rfl rfl (Ev.cmpI rfl rfl rfl) ?_ | refine TS.ev rfl rfl (Ev.arith rfl rfl rfl) ?_ | refine TS.ev rfl rfl (Ev.convI rfl) ?_ | refine TS.ev rfl rfl (Ev.lenS rfl) ?_ | refine TS.ev rfl rfl (Ev.lenStr rfl) ?_ | refine TS.ev rfl rfl (Ev.not rfl) ?_ | refine TS.skipG rfl rfl ?_ | refine TS.ev rfl rfl (Ev.pickT rfl rfl) ?_ | refine TS.ev rfl rfl (Ev.pickF rfl rfl) ?_ | refine TS.ev rfl rfl (Ev.extract rfl rfl) ?_ | refine TS.ev rfl rfl (Ev.maxI rfl rfl) ?_ | refine TS.ev rfl rfl (Ev.minI rfl rfl) ?_ | refine TS.ev rfl rfl (Ev.nilCheckF rfl) ?_ | refine TS.nil ?_)
      refine TS.ev rfl rfl (Ev.loadR rfl hrr3 (tcs100 _ _ _ _ _)) ?_
      repeat (first | refine TS.ev rfl rfl (Ev.move rfl) ?_ | refine TS.ev rfl rfl (Ev.assign rfl) ?_ | refine TS.ev rfl rfl (Ev.nilCheck rfl) ?_ | refine TS.ev rfl rfl (Ev.fieldAddr rfl) ?_ | refine TS.ev rfl rfl (Ev.uop rfl rfl rfl) ?_ | refine TS.ev rfl rfl (Ev.cmpI rfl rfl rfl) ?_ | refine TS.ev rfl rfl (Ev.arith rfl rfl rfl) ?_ | refine TS.ev rfl rfl (Ev.convI rfl) ?_ | refine TS.ev rfl rfl (Ev.lenS rfl) ?_ | refine TS.ev rfl rfl (Ev.lenStr rfl) ?_ | refine TS.ev rfl rfl (Ev.not rfl) ?_ | refine TS.skipG rfl rfl ?_ | refine TS.ev rfl rfl (Ev.pickT rfl rfl) ?_ | refine TS.ev rfl rfl (Ev.pickF rfl rfl) ?_ | refine TS.ev rfl rfl (Ev.extract rfl rfl) ?_ | refine TS.ev rfl rfl (Ev.maxI rfl rfl) ?_ | refine TS.ev rfl rfl (Ev.minI rfl rfl) ?_ | refine TS.ev rfl rfl (Ev.nilCheckF rfl) ?_ | refine TS.nil ?_)
      refine TS.ev rfl rfl (Ev.loadR rfl hrrl3 rfl) ?_
      repeat (first | refine TS.ev rfl rfl (Ev.move rfl) ?_ | refine TS.ev rfl rfl (Ev.assign rfl) ?_ | refine TS.ev rfl rfl (Ev.nilCheck rfl) ?_ | refine TS.ev rfl rfl (Ev.fieldAddr rfl) ?_ | refine TS.ev rfl rfl (Ev.uop rfl rfl rfl) ?_ | refine TS.ev rfl rfl (Ev.cmpI rfl rfl rfl) ?_ | refine TS.ev rfl rfl (Ev.arith rfl rfl rfl) ?_ | refine TS.ev rfl rfl (Ev.convI rfl) ?_ | refine TS.ev rfl rfl (Ev.lenS rfl) ?_ | refine TS.ev rfl rfl (Ev.lenStr rfl) ?_ | refine TS.ev rfl rfl (Ev.not rfl) ?_ | refine TS.skipG rfl rfl ?_ | refine TS.ev rfl rfl (Ev.pickT rfl rfl) ?_ | refine TS.ev rfl rfl (Ev.pickF rfl rfl) ?_ | refine TS.ev rfl rfl (Ev.extract rfl rfl) ?_ | refine TS.ev rfl rfl (Ev.maxI rfl rfl) ?_ | refine TS.ev rfl rfl (Ev.minI rfl rfl) ?_ | refine TS.ev rfl rfl (Ev.nilCheckF rfl) ?_ | refine TS.nil ?_)
      repeat (first | refine TL.move rfl rfl rfl ?_ | refine TL.assign rfl rfl rfl ?_ | refine TL.nilCheck rfl rfl rfl ?_ | refine TL.fieldAddr rfl rfl rfl ?_ | refine TL.convI rfl rfl rfl ?_ | refine TL.cmpI rfl rfl rfl rfl rfl ?_ | refine TL.arith rfl rfl rfl rfl rfl ?_ | refine TL.lenS rfl rfl rfl ?_ | refine TL.lenStr rfl rfl rfl ?_ | refine TL.not rfl rfl rfl ?_ | refine TL.skipG rfl rfl ?_ | refine TL.pickT rfl rfl rfl rfl ?_ | refine TL.pickF rfl rfl rfl rfl ?_ | refine TL.extract rfl rfl rfl rfl ?_ | refine TL.maxI rfl rfl rfl rfl ?_ | refine TL.minI rfl rfl rfl rfl ?_ | refine TL.nilCheckF rfl rfl rfl ?_ | refine TL.nil ?_ | refine T.seqK fun K hK => ?_ | (refine T.regionO fun ops => ?_) | refine T.condT rfl ?_ | refine T.condF rfl ?_ | refine T.block ?_ | refine T.skip ?_ | refine T.ret ?_ | refine T.exit ?_ | (refine hK _ _ ?_; clear hK K) | clear hK K | clear ops)
      refine T.cond rfl (fun hd => ?_) (fun hd => ?_)
      · have hd' : rr.ht < rl.ht := by simp at hd; omega
        cases rl with
        | leaf k v => simp [Tr.ht] at hd'
        | node a b =>
        obtain ⟨ha, hb⟩ := hcrl
        simp only [Tr.sz] at hs hhr hhrl
        have e : l.bal (Tr.node (Tr.node a b) rr) = Tr.node (Tr.node l a) (Tr.node b rr) := by unfold Tr.bal; rw [if_neg hc', if_pos hc2]; simp only [if_pos hd']
        repeat (first | refine TL.move rfl rfl rfl ?_ | refine TL.assign rfl rfl rfl ?_ | refine TL.nilCheck rfl rfl rfl ?_ | refine TL.fieldAddr rfl rfl rfl ?_ | refine TL.convI rfl rfl rfl ?_ | refine TL.cmpI rfl rfl rfl rfl rfl ?_ | refine TL.arith rfl rfl rfl rfl rfl ?_ | refine TL.lenS rfl rfl rfl ?_ | refine TL.lenStr rfl rfl rfl ?_ | refine TL.not rfl rfl rfl ?_ | refine TL.skipG rfl rfl ?_ | refine TL.pickT rfl rfl rfl rfl ?_ | refine TL.pickF rfl rfl rfl rfl ?_ | refine TL.extract rfl rfl rfl rfl ?_ | refine TL.maxI rfl rfl rfl rfl ?_ | refine TL.minI rfl rfl rfl rfl ?_ | refine TL.nilCheckF rfl rfl rfl ?_ | refine TL.nil ?_ | refine T.seqK fun K hK => ?_ | (refine T.regionO fun ops => ?_) | refine T.condT rfl ?_ | refine T.condF rfl ?_ | refine T.block ?_ | refine T.skip ?_ | refine T.ret ?_ | refine T.exit ?_ | (refine hK _ _ ?_; clear hK K) | clear hK K | clear ops)
        refine T.drawK 22 Tryd.mixed (by kernel_rfl) fun ops w4 hb4 hh4 K hK => ?_
        have hw4 : Ext w w4 := Ext.trans hw3 hb4
        have hrr4 := hrr.keepA hw4
        have hrrl4 := hrrl.keepA hw4
        simp only [List.take_succ_cons, List.take_zero]
        repeat (refine DR.v _ rfl (fun w' σ he => by first | exact Ev.move rfl | exact Ev.nilCheck rfl | exact Ev.fieldAddr rfl) ?_)
        refine DR.v _ rfl (fun w' σ he => Ev.loadR rfl (hrr4.keepA he) (tcs100 _ _ _ _ _)) ?_
        repeat (refine DR.v _ rfl (fun w' σ he => by first | exact Ev.move rfl | exact Ev.nilCheck rfl | exact Ev.fieldAddr rfl) ?_)
        refine DR.v _ rfl (fun w' σ he => Ev.loadR rfl (hrrl4.keepA he) (tcs100 _ _ _ _ _)) ?_
        refine DR.a (fun u w' => IsT w' (.node l a) u) (fun u w1 w2 h e => IsT.ext e h) (fun w' σ he hσ => ?_) ?_
        · refine TL.call rfl rfl rfl (inner_ret' l a _ _ w' (hW.ext (hw4.trans he)) (IsT.ext (hw4.trans he) hl) (IsT.ext (hw4.trans he) ha) hlf hrf.1.1 (by omega)) ?_
          rintro u w5 ⟨e1, e2⟩
          exact TL.nil ⟨e1, u, rfl, e2⟩
        repeat (refine DR.v _ rfl (fun w' σ he => by first | exact Ev.move rfl | exact Ev.nilCheck rfl | exact Ev.fieldAddr rfl) ?_)
        refine DR.v _ rfl (fun w' σ he => Ev.loadR rfl (hrr4.keepA he) (tcs100 _ _ _ _ _)) ?_
        repeat (refine DR.v _ rfl (fun w' σ he => by first | exact Ev.move rfl | exact Ev.nilCheck rfl | exact Ev.fieldAddr rfl) ?_)
        refine DR.v _ rfl (fun w' σ he => Ev.loadR rfl (hrrl4.keepA he) (tcs101 _ _ _ _ _)) ?_
        repeat (refine DR.v _ rfl (fun w' σ he => by first | exact Ev.move rfl | exact Ev.nilCheck rfl | exact Ev.fieldAddr rfl) ?_)
        refine DR.v _ rfl (fun w' σ he => Ev.loadR rfl (hrr4.keepA he) (tcs101 _ _ _ _ _)) ?_
        refine DR.a (fun u w' => IsT w' (.node b rr) u) (fun u w1 w2 h e => IsT.ext e h) (fun w' σ he hσ => ?_) ?_
        · refine TL.call rfl rfl rfl (inner_ret' b rr _ _ w' (hW.ext (hw4.trans he)) (IsT.ext (hw4.trans he) hb) (IsT.ext (hw4.trans he) hrr') hrf.1.2 hrf.2 (by omega)) ?_
          rintro u w5 ⟨e1, e2⟩
          exact TL.nil ⟨e1, u, rfl, e2⟩
        refine DR.a (fun u w' => IsT w' (.node (.node l a) (.node b rr)) u) (fun u w1 w2 h e => IsT.ext e h) (fun w' σ he hσ => ?_) ?_
        · refine TL.call (vs := [σ 106, σ 118]) rfl rfl rfl (inner_ret' (.node l a) (.node b rr) _ _ w' (hW.ext (hw4.trans he)) (hσ.get 106 rfl) (hσ.get 118 rfl) ⟨hlf, hrf.1.1⟩ ⟨hrf.1.2, hrf.2⟩ (by simp only [Tr.sz]; omega)) ?_
          rintro u w5 ⟨e1, e2⟩
          exact TL.nil ⟨e1, u, rfl, e2⟩
        refine DR.nil (hK _ fun w' σ he hσ => ?_)
        simp only [List.drop_succ_cons, List.drop_zero]
        clear hK K
        have hres := hσ.get 119 rfl
        repeat (first | refine TL.move rfl rfl rfl ?_ | refine TL.assign rfl rfl rfl ?_ | refine TL.nilCheck rfl rfl rfl ?_ | refine TL.fieldAddr rfl rfl rfl ?_ | refine TL.convI rfl rfl rfl ?_ | refine TL.cmpI rfl rfl rfl rfl rfl ?_ | refine TL.arith rfl rfl rfl rfl rfl ?_ | refine TL.lenS rfl rfl rfl ?_ | refine TL.lenStr rfl rfl rfl ?_ | refine TL.not rfl rfl rfl ?_ | refine TL.skipG rfl rfl ?_ | refine TL.pickT rfl rfl rfl rfl ?_ | refine TL.pickF rfl rfl rfl rfl ?_ | refine TL.extract rfl rfl rfl rfl ?_ | refine TL.maxI rfl rfl rfl rfl ?_ | refine TL.minI rfl rfl rfl rfl ?_ | refine TL.nilCheckF rfl rfl rfl ?_ | refine TL.nil ?_ | refine T.seqK fun K hK => ?_ | (refine T.regionO fun ops => ?_) | refine T.condT rfl ?_ | refine T.condF rfl ?_ | refine T.block ?_ | refine T.skip ?_ | refine T.ret ?_ | refine T.exit ?_ | (refine hK _ _ ?_; clear hK K) | clear hK K | clear ops)
        exact ⟨_, rfl, hw4.trans he, by rw [e]; exact hres⟩
      · have hd' : ¬ rr.ht < rl.ht := by simp at hd; omega
        have e : l.bal (Tr.node rl rr) = Tr.node (Tr.node l rl) rr := by unfold Tr.bal; rw [if_neg hc', if_pos hc2]; simp only [if_neg hd']
        repeat (first | refine TL.move rfl rfl rfl ?_ | refine TL.assign rfl rfl rfl ?_ | refine TL.nilCheck rfl rfl rfl ?_ | refine TL.fieldAddr rfl rfl rfl ?_ | refine TL.convI rfl rfl rfl ?_ | refine TL.cmpI rfl rfl rfl rfl rfl ?_ | refine TL.arith rfl rfl rfl rfl rfl ?_ | refine TL.lenS rfl rfl rfl ?_ | refine TL.lenStr rfl rfl rfl ?_ | refine TL.not rfl rfl rfl ?_ | refine TL.skipG rfl rfl ?_ | refine TL.pickT rfl rfl rfl rfl ?_ | refine TL.pickF rfl rfl rfl rfl ?_ | refine TL.extract rfl rfl rfl rfl ?_ | refine TL.maxI rfl rfl rfl rfl ?_ | refine TL.minI rfl rfl rfl rfl ?_ | refine TL.nilCheckF rfl rfl rfl ?_ | refine TL.nil ?_ | refine T.seqK fun K hK => ?_ | (refine T.regionO fun ops => ?_) | refine T.condT rfl ?_ | refine T.condF rfl ?_ | refine T.block ?_ | refine T.skip ?_ | refine T.ret ?_ | refine T.exit ?_ | (refine hK _ _ ?_; clear hK K) | clear hK K | clear ops)
        refine T.drawK 11 Tryd.mixed (by kernel_rfl) fun ops w4 hb4 hh4 K hK => ?_
        have hw4 : Ext w w4 := Ext.trans hw3 hb4
        have hrr4 := hrr.keepA hw4
        simp only [List.take_succ_cons, List.take_zero]
        repeat (refine DR.v _ rfl (fun w' σ he => by first | exact Ev.move rfl | exact Ev.nilCheck rfl | exact Ev.fieldAddr rfl) ?_)
        refine DR.v _ rfl (fun w' σ he => Ev.loadR rfl (hrr4.keepA he) (tcs100 _ _ _ _ _)) ?_
        refine DR.a (fun u w' => IsT w' (.node l rl) u) (fun u w1 w2 h e => IsT.ext e h) (fun w' σ he hσ => ?_) ?_
        · refine TL.call rfl rfl rfl (inner_ret' l rl _ _ w' (hW.ext (hw4.trans he)) (IsT.ext (hw4.trans he) hl) (IsT.ext (hw4.trans he) hrl') hlf hrf.1 (by omega)) ?_
          rintro u w5 ⟨e1, e2⟩
          exact TL.nil ⟨e1, u, rfl, e2⟩
        repeat (refine DR.v _ rfl (fun w' σ he => by first | exact Ev.move rfl | exact Ev.nilCheck rfl | exact Ev.fieldAddr rfl) ?_)
        refine DR.v _ rfl (fun w' σ he => Ev.loadR rfl (hrr4.keepA he) (tcs101 _ _ _ _ _)) ?_
        refine DR.a (fun u w' => IsT w' (.node (.node l rl) rr) u) (fun u w1 w2 h e => IsT.ext e h) (fun w' σ he hσ => ?_) ?_
        · refine TL.call (vs := [σ 125, _]) rfl rfl rfl (inner_ret' (.node l rl) rr _ _ w' (hW.ext (hw4.trans he)) (hσ.get 125 rfl) (IsT.ext (hw4.trans he) hrr') ⟨hlf, hrf.1⟩ hrf.2 (by simp only [Tr.sz]; omega)) ?_
          rintro u w5 ⟨e1, e2⟩
          exact TL.nil ⟨e1, u, rfl, e2⟩
        refine DR.nil (hK _ fun w' σ he hσ => ?_)
        simp only [List.drop_succ_cons, List.drop_zero]
        clear hK K
        have hres := hσ.get 130 rfl
        repeat (first | refine TL.move rfl rfl rfl ?_ | refine TL.assign rfl rfl rfl ?_ | refine TL.nilCheck rfl rfl rfl ?_ | refine TL.fieldAddr rfl rfl rfl ?_ | refine TL.convI rfl rfl rfl ?_ | refine TL.cmpI rfl rfl rfl rfl rfl ?_ | refine TL.arith rfl rfl rfl rfl rfl ?_ | refine TL.lenS rfl rfl rfl ?_ | refine TL.lenStr rfl rfl rfl ?_ | refine TL.not rfl rfl rfl ?_ | refine TL.skipG rfl rfl ?_ | refine TL.pickT rfl rfl rfl rfl ?_ | refine TL.pickF rfl rfl rfl rfl ?_ | refine TL.extract rfl rfl rfl rfl ?_ | refine TL.maxI rfl rfl rfl rfl ?_ | refine TL.minI rfl rfl rfl rfl ?_ | refine TL.nilCheckF rfl rfl rfl ?_ | refine TL.nil ?_ | refine T.seqK fun K hK => ?_ | (refine T.regionO fun ops => ?_) | refine T.condT rfl ?_ | refine T.condF rfl ?_ | refine T.block ?_ | refine T.skip ?_ | refine T.ret ?_ | refine T.exit ?_ | (refine hK _ _ ?_; clear hK K) | clear hK K | clear ops)
        exact ⟨_, rfl, hw4.trans he, by rw [e]; exact hres⟩
    · rw [wr_i64 (by omega) (by omega)] at hc
      have hc2 : ¬ l.ht + 1 < r.ht := by simp at hc; omega
      have e : l.bal r = Tr.node l r := by unfold Tr.bal; rw [if_neg hc', if_neg hc2]
      repeat (first | refine TL.move rfl rfl rfl ?_ | refine TL.assign rfl rfl rfl ?_ | refine TL.nilCheck rfl rfl rfl ?_ | refine TL.fieldAddr rfl rfl rfl ?_ | refine TL.convI rfl rfl rfl ?_ | refine TL.cmpI rfl rfl rfl rfl rfl ?_ | refine TL.arith rfl rfl rfl rfl rfl ?_ | refine TL.lenS rfl rfl rfl ?_ | refine TL.lenStr rfl rfl rfl ?_ | refine TL.not rfl rfl rfl ?_ | refine TL.skipG rfl rfl ?_ | refine TL.pickT rfl rfl rfl rfl ?_ | refine TL.pickF rfl rfl rfl rfl ?_ | refine TL.extract rfl rfl rfl rfl ?_ | refine TL.maxI rfl rfl rfl rfl ?_ | refine TL.minI rfl rfl rfl rfl ?_ | refine TL.nilCheckF rfl rfl rfl ?_ | refine TL.nil ?_ | refine T.seqK fun K hK => ?_ | (refine T.regionO fun ops => ?_) | refine T.condT rfl ?_ | refine T.condF rfl ?_ | refine T.block ?_ | refine T.skip ?_ | refine T.ret ?_ | refine T.exit ?_ | (refine hK _ _ ?_; clear hK K) | clear hK K | clear ops)
      refine TL.call rfl rfl rfl (inner_ret' l r _ _ w2 (hW.ext hw2) (IsT.ext hw2 hl) (IsT.ext hw2 hr) hlf hrf hs) ?_
      rintro u w5 ⟨e1, e2⟩
      repeat (first | refine TL.move rfl rfl rfl ?_ | refine TL.assign rfl rfl rfl ?_ | refine TL.nilCheck rfl rfl rfl ?_ | refine TL.fieldAddr rfl rfl rfl ?_ | refine TL.convI rfl rfl rfl ?_ | refine TL.cmpI rfl rfl rfl rfl rfl ?_ | refine TL.arith rfl rfl rfl rfl rfl ?_ | refine TL.lenS rfl rfl rfl ?_ | refine TL.lenStr rfl rfl rfl ?_ | refine TL.not rfl rfl rfl ?_ | refine TL.skipG rfl rfl ?_ | refine TL.pickT rfl rfl rfl rfl ?_ | refine TL.pickF rfl rfl rfl rfl ?_ | refine TL.extract rfl rfl rfl rfl ?_ | refine TL.maxI rfl rfl rfl rfl ?_ | refine TL.minI rfl rfl rfl rfl ?_ | refine TL.nilCheckF rfl rfl rfl ?_ | refine TL.nil ?_ | refine T.seqK fun K hK => ?_ | (refine T.regionO fun ops => ?_) | refine T.condT rfl ?_ | refine T.condF rfl ?_ | refine T.block ?_ | refine T.skip ?_ | refine T.ret ?_ | refine T.exit ?_ | (refine hK _ _ ?_; clear hK K) | clear hK K | clear ops)
      exact ⟨_, rfl, hw2.trans e1, by rw [e]; exact e2⟩
end Go.Proofs
