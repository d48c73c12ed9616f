/- What tree.cut comes to. Conditions: as the theorem says. -/
import Derived.Test.YtflioeagjefkmaaDoorPut
set_option linter.all false
namespace Go.Proofs
open Go.Fw Go.RowKit
attribute [local irreducible] TL T TS Ev Ret

namespace Tr
/-- what is left of two trees beneath a node -/
def join (n : Tr) (was : Bool) (lo ro : Option Tr) : Option Tr × Bool :=
  if was then (match lo, ro with
    | none, _ => (ro, true)
    | some a, none => (some a, true)
    | some a, some b => (some (a.bal b), true)) else (some n, false)
def cut (key : List UInt8) : Tr → Option Tr × Bool
  | leaf k v => if k = key then (none, true) else (some (leaf k v), false)
  | node l r => if cmpL key r.least < 0 then join (node l r) (l.cut key).2 (l.cut key).1 (some r) else join (node l r) (r.cut key).2 (some l) (r.cut key).1
/-- every tree there may be -/
def all (o : Option Tr) (p : Tr → Prop) : Prop := ∀ t, o = some t → p t
theorem join_all {n : Tr} {was : Bool} {lo ro : Option Tr} {s : Nat} (hn : n.fit ∧ n.sz ≤ s) (hl : all lo (·.fit)) (hr : all ro (·.fit)) (hs : ∀ a b, lo = some a → ro = some b → a.sz + b.sz ≤ s) (hsl : all lo (·.sz ≤ s)) (hsr : all ro (·.sz ≤ s)) :
    all (join n was lo ro).1 fun t => t.fit ∧ t.sz ≤ s := by
  intro t ht
  unfold join at ht
  split at ht
  · cases lo with
    | none => simp at ht; exact ⟨hr t ht, hsr t ht⟩
    | some a =>
      cases ro with
      | none => simp at ht; exact ⟨hl t (by rw [ht]), hsl t (by rw [ht])⟩
      | some b => simp at ht; subst ht; exact ⟨bal_fit (hl a rfl) (hr b rfl), by rw [bal_sz]; exact hs a b rfl rfl⟩
  · simp at ht; subst ht; exact hn
theorem cut_all (key : List UInt8) {t : Tr} (hf : t.fit) : all (t.cut key).1 fun t' => t'.fit ∧ t'.sz ≤ t.sz := by
  induction t with
  | leaf k v =>
    intro t' ht
    unfold cut at ht
    split at ht
    · simp at ht
    · simp at ht; subst ht; exact ⟨hf, Nat.le_refl _⟩
  | node l r ihl ihr =>
    unfold cut
    have h1 := ihl hf.1
    have h2 := ihr hf.2
    split
    · refine join_all ⟨hf, Nat.le_refl _⟩ (fun t h => (h1 t h).1) (fun t h => by cases h; exact hf.2) (fun a b ha hb => by cases hb; have := (h1 a ha).2; simp only [sz]; omega) (fun t h => by have := (h1 t h).2; simp only [sz]; omega) (fun t h => by cases h; simp only [sz]; omega)
    · refine join_all ⟨hf, Nat.le_refl _⟩ (fun t h => by cases h; exact hf.1) (fun t h => (h2 t h).1) (fun a b ha hb => by cases ha; have := (h2 b hb).2; simp only [sz]; omega) (fun t h => by cases h; simp only [sz]; omega) (fun t h => by have := (h2 t h).2; simp only [sz]; omega)
end Tr

/-- a tree, or none -/
def IsO (w : World) (o : Option Tr) (p : Value) : Prop := match o with | none => p = nilp | some t => IsT w t p
theorem IsO.ext {w w' : World} (he : Ext w w') {o : Option Tr} {p : Value} (h : IsO w o p) : IsO w' o p := by
  cases o with
  | none => exact h
  | some t => exact IsT.ext he h
theorem IsO.ptr {w : World} {o : Option Tr} {p : Value} (h : IsO w o p) : ∃ q, p = .pointer q ∧ q.isNone = o.isNone := by
  cases o with
  | none => exact ⟨none, h, rfl⟩
  | some t => obtain ⟨b, _, _, _, _, hp, _⟩ := IsT.out h; exact ⟨_, hp, rfl⟩

set_option maxRecDepth 20000 in
set_option maxHeartbeats 4000000 in
theorem cut_ret (a : Value) (key : List UInt8) : ∀ (t : Tr) (p : Value) (w : World) (_ : KW w) (_ : IsT w t p) (_ : B0 w a key) (_ : t.fit) (_ : t.sz < 2 ^ 60),
    Ret Tryd.prog 74 #[p, a] w fun u w' => Ext w w' ∧ ∃ q, u = .tuple #[q, .bool (t.cut key).2] ∧ IsO w' (t.cut key).1 q := by
  intro t
  induction t with
  | leaf k v =>
    intro p w hW ht hk hf hs
    obtain ⟨b0, kv, vv, pl, pr, rfl, hrow, hkey, hval, hc⟩ := id ht.out
    refine Ret.of_T Tryd.func74 rfl Tryd.ntmps74 Tryd.results74 rfl ?_
    repeat (first | refine TL.move rfl rfl rfl ?_ | refine TL.assign rfl rfl rfl ?_ | refine TL.nilCheck rfl rfl rfl ?_ | refine TL.fieldAddr rfl rfl rfl ?_ | refine TL.convI rfl rfl rfl ?_ | refine TL.cmpI rfl rfl rfl rfl rfl ?_ | refine TL.arith rfl rfl rfl rfl rfl ?_ | refine TL.lenS rfl rfl rfl ?_ | refine TL.lenStr rfl rfl rfl ?_ | refine TL.not rfl rfl rfl ?_ | refine TL.skipG rfl rfl ?_ | refine TL.pickT rfl rfl rfl rfl ?_ | refine TL.pickF rfl rfl rfl rfl ?_ | refine TL.extract rfl rfl rfl rfl ?_ | refine TL.maxI rfl rfl rfl rfl ?_ | refine TL.minI rfl rfl rfl rfl ?_ | refine TL.nilCheckF rfl rfl rfl ?_ | refine TL.nil ?_ | refine T.seqK fun K hK => ?_ | refine T.region ?_ | refine T.condT rfl ?_ | refine T.condF rfl ?_ | refine T.block ?_ | refine T.skip ?_ | refine T.ret ?_ | refine T.exit ?_ | (refine hK _ _ ?_; clear hK K) | clear hK K)
    refine TL.eqPtr rfl rfl rfl rfl ?_
    repeat (first | refine TL.move rfl rfl rfl ?_ | refine TL.assign rfl rfl rfl ?_ | refine TL.nilCheck rfl rfl rfl ?_ | refine TL.fieldAddr rfl rfl rfl ?_ | refine TL.convI rfl rfl rfl ?_ | refine TL.cmpI rfl rfl rfl rfl rfl ?_ | refine TL.arith rfl rfl rfl rfl rfl ?_ | refine TL.lenS rfl rfl rfl ?_ | refine TL.lenStr rfl rfl rfl ?_ | refine TL.not rfl rfl rfl ?_ | refine TL.skipG rfl rfl ?_ | refine TL.pickT rfl rfl rfl rfl ?_ | refine TL.pickF rfl rfl rfl rfl ?_ | refine TL.extract rfl rfl rfl rfl ?_ | refine TL.maxI rfl rfl rfl rfl ?_ | refine TL.minI rfl rfl rfl rfl ?_ | refine TL.nilCheckF rfl rfl rfl ?_ | refine TL.nil ?_ | refine T.seqK fun K hK => ?_ | refine T.region ?_ | refine T.condT rfl ?_ | refine T.condF rfl ?_ | refine T.block ?_ | refine T.skip ?_ | refine T.ret ?_ | refine T.exit ?_ | (refine hK _ _ ?_; clear hK K) | clear hK K)
    refine TL.loadR (v := .int .i64 0) rfl rfl rfl hrow rfl ?_
    refine TL.cmpI (c := true) rfl rfl rfl rfl rfl ?_
    repeat (first | refine TL.move rfl rfl rfl ?_ | refine TL.assign rfl rfl rfl ?_ | refine TL.nilCheck rfl rfl rfl ?_ | refine TL.fieldAddr rfl rfl rfl ?_ | refine TL.convI rfl rfl rfl ?_ | refine TL.cmpI rfl rfl rfl rfl rfl ?_ | refine TL.arith rfl rfl rfl rfl rfl ?_ | refine TL.lenS rfl rfl rfl ?_ | refine TL.lenStr rfl rfl rfl ?_ | refine TL.not rfl rfl rfl ?_ | refine TL.skipG rfl rfl ?_ | refine TL.pickT rfl rfl rfl rfl ?_ | refine TL.pickF rfl rfl rfl rfl ?_ | refine TL.extract rfl rfl rfl rfl ?_ | refine TL.maxI rfl rfl rfl rfl ?_ | refine TL.minI rfl rfl rfl rfl ?_ | refine TL.nilCheckF rfl rfl rfl ?_ | refine TL.nil ?_ | refine T.seqK fun K hK => ?_ | refine T.region ?_ | refine T.condT rfl ?_ | refine T.condF rfl ?_ | refine T.block ?_ | refine T.skip ?_ | refine T.ret ?_ | refine T.exit ?_ | (refine hK _ _ ?_; clear hK K) | clear hK K)
    refine TL.loadR rfl rfl rfl hrow rfl ?_
    repeat (first | refine TL.move rfl rfl rfl ?_ | refine TL.assign rfl rfl rfl ?_ | refine TL.nilCheck rfl rfl rfl ?_ | refine TL.fieldAddr rfl rfl rfl ?_ | refine TL.convI rfl rfl rfl ?_ | refine TL.cmpI rfl rfl rfl rfl rfl ?_ | refine TL.arith rfl rfl rfl rfl rfl ?_ | refine TL.lenS rfl rfl rfl ?_ | refine TL.lenStr rfl rfl rfl ?_ | refine TL.not rfl rfl rfl ?_ | refine TL.skipG rfl rfl ?_ | refine TL.pickT rfl rfl rfl rfl ?_ | refine TL.pickF rfl rfl rfl rfl ?_ | refine TL.extract rfl rfl rfl rfl ?_ | refine TL.maxI rfl rfl rfl rfl ?_ | refine TL.minI rfl rfl rfl rfl ?_ | refine TL.nilCheckF rfl rfl rfl ?_ | refine TL.nil ?_ | refine T.seqK fun K hK => ?_ | refine T.region ?_ | refine T.condT rfl ?_ | refine T.condF rfl ?_ | refine T.block ?_ | refine T.skip ?_ | refine T.ret ?_ | refine T.exit ?_ | (refine hK _ _ ?_; clear hK K) | clear hK K)
    refine TL.callS rfl rfl rfl (Equal_ret _ _ _ _ w hkey hk) ?_
    repeat (first | refine TL.move rfl rfl rfl ?_ | refine TL.assign rfl rfl rfl ?_ | refine TL.nilCheck rfl rfl rfl ?_ | refine TL.fieldAddr rfl rfl rfl ?_ | refine TL.convI rfl rfl rfl ?_ | refine TL.cmpI rfl rfl rfl rfl rfl ?_ | refine TL.arith rfl rfl rfl rfl rfl ?_ | refine TL.lenS rfl rfl rfl ?_ | refine TL.lenStr rfl rfl rfl ?_ | refine TL.not rfl rfl rfl ?_ | refine TL.skipG rfl rfl ?_ | refine TL.pickT rfl rfl rfl rfl ?_ | refine TL.pickF rfl rfl rfl rfl ?_ | refine TL.extract rfl rfl rfl rfl ?_ | refine TL.maxI rfl rfl rfl rfl ?_ | refine TL.minI rfl rfl rfl rfl ?_ | refine TL.nilCheckF rfl rfl rfl ?_ | refine TL.nil ?_ | refine T.seqK fun K hK => ?_ | refine T.region ?_ | refine T.condT rfl ?_ | refine T.condF rfl ?_ | refine T.block ?_ | refine T.skip ?_ | refine T.ret ?_ | refine T.exit ?_ | (refine hK _ _ ?_; clear hK K) | clear hK K)
    refine T.cond rfl (fun hc => ?_) (fun hc => ?_)
    · have hne : k ≠ key := by simpa [Tr.key] using hc
      have e : (Tr.leaf k v).cut key = (some (.leaf k v), false) := by simp only [Tr.cut, if_neg hne]
      repeat (first | refine TL.move rfl rfl rfl ?_ | refine TL.assign rfl rfl rfl ?_ | refine TL.nilCheck rfl rfl rfl ?_ | refine TL.fieldAddr rfl rfl rfl ?_ | refine TL.convI rfl rfl rfl ?_ | refine TL.cmpI rfl rfl rfl rfl rfl ?_ | refine TL.arith rfl rfl rfl rfl rfl ?_ | refine TL.lenS rfl rfl rfl ?_ | refine TL.lenStr rfl rfl rfl ?_ | refine TL.not rfl rfl rfl ?_ | refine TL.skipG rfl rfl ?_ | refine TL.pickT rfl rfl rfl rfl ?_ | refine TL.pickF rfl rfl rfl rfl ?_ | refine TL.extract rfl rfl rfl rfl ?_ | refine TL.maxI rfl rfl rfl rfl ?_ | refine TL.minI rfl rfl rfl rfl ?_ | refine TL.nilCheckF rfl rfl rfl ?_ | refine TL.nil ?_ | refine T.seqK fun K hK => ?_ | (refine T.regionO fun ops => ?_) | refine T.condT rfl ?_ | refine T.condF rfl ?_ | refine T.block ?_ | refine T.skip ?_ | refine T.ret ?_ | refine T.exit ?_ | (refine hK _ _ ?_; clear hK K) | clear hK K | clear ops)
      exact ⟨_, rfl, Ext.refl _, _, by rw [e], by rw [e]; exact ht⟩
    · have he : k = key := by simpa [Tr.key] using hc
      have e : (Tr.leaf k v).cut key = (none, true) := by simp only [Tr.cut, if_pos he]
      repeat (first | refine TL.move rfl rfl rfl ?_ | refine TL.assign rfl rfl rfl ?_ | refine TL.nilCheck rfl rfl rfl ?_ | refine TL.fieldAddr rfl rfl rfl ?_ | refine TL.convI rfl rfl rfl ?_ | refine TL.cmpI rfl rfl rfl rfl rfl ?_ | refine TL.arith rfl rfl rfl rfl rfl ?_ | refine TL.lenS rfl rfl rfl ?_ | refine TL.lenStr rfl rfl rfl ?_ | refine TL.not rfl rfl rfl ?_ | refine TL.skipG rfl rfl ?_ | refine TL.pickT rfl rfl rfl rfl ?_ | refine TL.pickF rfl rfl rfl rfl ?_ | refine TL.extract rfl rfl rfl rfl ?_ | refine TL.maxI rfl rfl rfl rfl ?_ | refine TL.minI rfl rfl rfl rfl ?_ | refine TL.nilCheckF rfl rfl rfl ?_ | refine TL.nil ?_ | refine T.seqK fun K hK => ?_ | (refine T.regionO fun ops => ?_) | refine T.condT rfl ?_ | refine T.condF rfl ?_ | refine T.block ?_ | refine T.skip ?_ | refine T.ret ?_ | refine T.exit ?_ | (refine hK _ _ ?_; clear hK K) | clear hK K | clear ops)
      refine TL.loadR (v := .int .i64 0) rfl rfl rfl hrow rfl ?_
      refine TL.cmpI (c := true) rfl rfl rfl rfl rfl ?_
      repeat (first | refine TL.move rfl rfl rfl ?_ | refine TL.assign rfl rfl rfl ?_ | refine TL.nilCheck rfl rfl rfl ?_ | refine TL.fieldAddr rfl rfl rfl ?_ | refine TL.convI rfl rfl rfl ?_ | refine TL.cmpI rfl rfl rfl rfl rfl ?_ | refine TL.arith rfl rfl rfl rfl rfl ?_ | refine TL.lenS rfl rfl rfl ?_ | refine TL.lenStr rfl rfl rfl ?_ | refine TL.not rfl rfl rfl ?_ | refine TL.skipG rfl rfl ?_ | refine TL.pickT rfl rfl rfl rfl ?_ | refine TL.pickF rfl rfl rfl rfl ?_ | refine TL.extract rfl rfl rfl rfl ?_ | refine TL.maxI rfl rfl rfl rfl ?_ | refine TL.minI rfl rfl rfl rfl ?_ | refine TL.nilCheckF rfl rfl rfl ?_ | refine TL.nil ?_ | refine T.seqK fun K hK => ?_ | (refine T.regionO fun ops => ?_) | refine T.condT rfl ?_ | refine T.condF rfl ?_ | refine T.block ?_ | refine T.skip ?_ | refine T.ret ?_ | refine T.exit ?_ | (refine hK _ _ ?_; clear hK K) | clear hK K | clear ops)
      exact ⟨_, rfl, Ext.refl _, _, by rw [e], by rw [e]; rfl⟩
  | node l r ihl ihr =>
    intro p w hW ht hk hf hs
    obtain ⟨b0, kv, vv, pl, pr, rfl, hrow, hkey, hval, hl, hr⟩ := id ht.out
    have hal := Tr.cut_all key hf.1
    have har := Tr.cut_all key hf.2
    simp only [Tr.sz] at hs
    have h0 : 0 < (Tr.node l r).ht := by simp only [Tr.ht]; omega
    have hpos : Fw.cmpI .eql ((Tr.node l r).ht : Int) 0 = some false := by simp only [Fw.cmpI]; congr 1; simp; omega
    obtain ⟨bl, _, _, _, _, rfl, _⟩ := id hl.out
    obtain ⟨br, _, _, _, _, rfl, _⟩ := id hr.out
    refine Ret.of_T Tryd.func74 rfl Tryd.ntmps74 Tryd.results74 rfl ?_
    repeat (first | refine TL.move rfl rfl rfl ?_ | refine TL.assign rfl rfl rfl ?_ | refine TL.nilCheck rfl rfl rfl ?_ | refine TL.fieldAddr rfl rfl rfl ?_ | refine TL.convI rfl rfl rfl ?_ | refine TL.cmpI rfl rfl rfl rfl rfl ?_ | refine TL.arith rfl rfl rfl rfl rfl ?_ | refine TL.lenS rfl rfl rfl ?_ | refine TL.lenStr rfl rfl rfl ?_ | refine TL.not rfl rfl rfl ?_ | refine TL.skipG rfl rfl ?_ | refine TL.pickT rfl rfl rfl rfl ?_ | refine TL.pickF rfl rfl rfl rfl ?_ | refine TL.extract rfl rfl rfl rfl ?_ | refine TL.maxI rfl rfl rfl rfl ?_ | refine TL.minI rfl rfl rfl rfl ?_ | refine TL.nilCheckF rfl rfl rfl ?_ | refine TL.nil ?_ | refine T.seqK fun K hK => ?_ | refine T.region ?_ | refine T.condT rfl ?_ | refine T.condF rfl ?_ | refine T.block ?_ | refine T.skip ?_ | refine T.ret ?_ | refine T.exit ?_ | (refine hK _ _ ?_; clear hK K) | clear hK K)
    refine TL.eqPtr rfl rfl rfl rfl ?_
    repeat (first | refine TL.move rfl rfl rfl ?_ | refine TL.assign rfl rfl rfl ?_ | refine TL.nilCheck rfl rfl rfl ?_ | refine TL.fieldAddr rfl rfl rfl ?_ | refine TL.convI rfl rfl rfl ?_ | refine TL.cmpI rfl rfl rfl rfl rfl ?_ | refine TL.arith rfl rfl rfl rfl rfl ?_ | refine TL.lenS rfl rfl rfl ?_ | refine TL.lenStr rfl rfl rfl ?_ | refine TL.not rfl rfl rfl ?_ | refine TL.skipG rfl rfl ?_ | refine TL.pickT rfl rfl rfl rfl ?_ | refine TL.pickF rfl rfl rfl rfl ?_ | refine TL.extract rfl rfl rfl rfl ?_ | refine TL.maxI rfl rfl rfl rfl ?_ | refine TL.minI rfl rfl rfl rfl ?_ | refine TL.nilCheckF rfl rfl rfl ?_ | refine TL.nil ?_ | refine T.seqK fun K hK => ?_ | refine T.region ?_ | refine T.condT rfl ?_ | refine T.condF rfl ?_ | refine T.block ?_ | refine T.skip ?_ | refine T.ret ?_ | refine T.exit ?_ | (refine hK _ _ ?_; clear hK K) | clear hK K)
    refine TL.loadR (v := .int .i64 ((Tr.node l r).ht : Int)) rfl rfl rfl hrow rfl ?_
    refine TL.cmpI (c := false) rfl rfl rfl rfl hpos ?_
    repeat (first | refine TL.move rfl rfl rfl ?_ | refine TL.assign rfl rfl rfl ?_ | refine TL.nilCheck rfl rfl rfl ?_ | refine TL.fieldAddr rfl rfl rfl ?_ | refine TL.convI rfl rfl rfl ?_ | refine TL.cmpI rfl rfl rfl rfl rfl ?_ | refine TL.arith rfl rfl rfl rfl rfl ?_ | refine TL.lenS rfl rfl rfl ?_ | refine TL.lenStr rfl rfl rfl ?_ | refine TL.not rfl rfl rfl ?_ | refine TL.skipG rfl rfl ?_ | refine TL.pickT rfl rfl rfl rfl ?_ | refine TL.pickF rfl rfl rfl rfl ?_ | refine TL.extract rfl rfl rfl rfl ?_ | refine TL.maxI rfl rfl rfl rfl ?_ | refine TL.minI rfl rfl rfl rfl ?_ | refine TL.nilCheckF rfl rfl rfl ?_ | refine TL.nil ?_ | refine T.seqK fun K hK => ?_ | refine T.region ?_ | refine T.condT rfl ?_ | refine T.condF rfl ?_ | refine T.block ?_ | refine T.skip ?_ | refine T.ret ?_ | refine T.exit ?_ | (refine hK _ _ ?_; clear hK K) | clear hK K)
    refine TL.loadR (v := .int .i64 ((Tr.node l r).ht : Int)) rfl rfl rfl hrow rfl ?_
    refine TL.cmpI (c := false) rfl rfl rfl rfl hpos ?_
    repeat (first | refine TL.move rfl rfl rfl ?_ | refine TL.assign rfl rfl rfl ?_ | refine TL.nilCheck rfl rfl rfl ?_ | refine TL.fieldAddr rfl rfl rfl ?_ | refine TL.convI rfl rfl rfl ?_ | refine TL.cmpI rfl rfl rfl rfl rfl ?_ | refine TL.arith rfl rfl rfl rfl rfl ?_ | refine TL.lenS rfl rfl rfl ?_ | refine TL.lenStr rfl rfl rfl ?_ | refine TL.not rfl rfl rfl ?_ | refine TL.skipG rfl rfl ?_ | refine TL.pickT rfl rfl rfl rfl ?_ | refine TL.pickF rfl rfl rfl rfl ?_ | refine TL.extract rfl rfl rfl rfl ?_ | refine TL.maxI rfl rfl rfl rfl ?_ | refine TL.minI rfl rfl rfl rfl ?_ | refine TL.nilCheckF rfl rfl rfl ?_ | refine TL.nil ?_ | refine T.seqK fun K hK => ?_ | refine T.region ?_ | refine T.condT rfl ?_ | refine T.condF rfl ?_ | refine T.block ?_ | refine T.skip ?_ | refine T.ret ?_ | refine T.exit ?_ | (refine hK _ _ ?_; clear hK K) | clear hK K)
    refine T.draw Tryd.mixed (by kernel_rfl) fun ops w1 hb1 hh1 => ?_
    have hrow1 := hrow.keepA hb1
    repeat (first | refine TS.ev rfl rfl (Ev.move rfl) ?_ | refine TS.ev rfl rfl (Ev.assign rfl) ?_ | refine TS.ev rfl rfl (Ev.nilCheck rfl) ?_ | refine TS.ev rfl rfl (Ev.fieldAddr rfl) ?_ | refine TS.ev rfl rfl (Ev.uop rfl rfl rfl) ?_ | refine TS.ev rfl rfl (Ev.cmpI rfl rfl rfl) ?_ | refine TS.ev rfl rfl (Ev.arith rfl rfl rfl) ?_ | refine TS.ev rfl rfl (Ev.convI rfl) ?_ | refine TS.ev rfl rfl (Ev.lenS rfl) ?_ | refine TS.ev rfl rfl (Ev.lenStr rfl) ?_ | refine TS.ev rfl rfl (Ev.not rfl) ?_ | refine TS.skipG rfl rfl ?_ | refine TS.ev rfl rfl (Ev.pickT rfl rfl) ?_ | refine TS.ev rfl rfl (Ev.pickF rfl rfl) ?_ | refine TS.ev rfl rfl (Ev.extract rfl rfl) ?_ | refine TS.ev rfl rfl (Ev.maxI rfl rfl) ?_ | refine TS.ev rfl rfl (Ev.minI rfl rfl) ?_ | refine TS.ev rfl rfl (Ev.nilCheckF rfl) ?_ | refine TS.nil ?_)
    refine TS.ev rfl rfl (Ev.loadR rfl hrow1 (tcs100 _ _ _ _ _)) ?_
    repeat (first | refine TS.ev rfl rfl (Ev.move rfl) ?_ | refine TS.ev rfl rfl (Ev.assign rfl) ?_ | refine TS.ev rfl rfl (Ev.nilCheck rfl) ?_ | refine TS.ev rfl rfl (Ev.fieldAddr rfl) ?_ | refine TS.ev rfl rfl (Ev.uop rfl rfl rfl) ?_ | refine TS.ev rfl rfl (Ev.cmpI rfl rfl rfl) ?_ | refine TS.ev rfl rfl (Ev.arith rfl rfl rfl) ?_ | refine TS.ev rfl rfl (Ev.convI rfl) ?_ | refine TS.ev rfl rfl (Ev.lenS rfl) ?_ | refine TS.ev rfl rfl (Ev.lenStr rfl) ?_ | refine TS.ev rfl rfl (Ev.not rfl) ?_ | refine TS.skipG rfl rfl ?_ | refine TS.ev rfl rfl (Ev.pickT rfl rfl) ?_ | refine TS.ev rfl rfl (Ev.pickF rfl rfl) ?_ | refine TS.ev rfl rfl (Ev.extract rfl rfl) ?_ | refine TS.ev rfl rfl (Ev.maxI rfl rfl) ?_ | refine TS.ev rfl rfl (Ev.minI rfl rfl) ?_ | refine TS.ev rfl rfl (Ev.nilCheckF rfl) ?_ | refine TS.nil ?_)
    refine TS.ev rfl rfl (Ev.loadR rfl hrow1 (tcs101 _ _ _ _ _)) ?_
    repeat (first | refine TS.ev rfl rfl (Ev.move rfl) ?_ | refine TS.ev rfl rfl (Ev.assign rfl) ?_ | refine TS.ev rfl rfl (Ev.nilCheck rfl) ?_ | refine TS.ev rfl rfl (Ev.fieldAddr rfl) ?_ | refine TS.ev rfl rfl (Ev.uop rfl rfl rfl) ?_ | refine TS.ev rfl rfl (Ev.cmpI rfl rfl rfl) ?_ | refine TS.ev rfl rfl (Ev.arith rfl rfl rfl) ?_ | refine TS.ev rfl rfl (Ev.convI rfl) ?_ | refine TS.ev rfl rfl (Ev.lenS rfl) ?_ | refine TS.ev rfl rfl (Ev.lenStr rfl) ?_ | refine TS.ev rfl rfl (Ev.not rfl) ?_ | refine TS.skipG rfl rfl ?_ | refine TS.ev rfl rfl (Ev.pickT rfl rfl) ?_ | refine TS.ev rfl rfl (Ev.pickF rfl rfl) ?_ | refine TS.ev rfl rfl (Ev.extract rfl rfl) ?_ | refine TS.ev rfl rfl (Ev.maxI rfl rfl) ?_ | refine TS.ev rfl rfl (Ev.minI rfl rfl) ?_ | refine TS.ev rfl rfl (Ev.nilCheckF rfl) ?_ | refine TS.nil ?_)
    repeat (first | refine TL.move rfl rfl rfl ?_ | refine TL.assign rfl rfl rfl ?_ | refine TL.nilCheck rfl rfl rfl ?_ | refine TL.fieldAddr rfl rfl rfl ?_ | refine TL.convI rfl rfl rfl ?_ | refine TL.cmpI rfl rfl rfl rfl rfl ?_ | refine TL.arith rfl rfl rfl rfl rfl ?_ | refine TL.lenS rfl rfl rfl ?_ | refine TL.lenStr rfl rfl rfl ?_ | refine TL.not rfl rfl rfl ?_ | refine TL.skipG rfl rfl ?_ | refine TL.pickT rfl rfl rfl rfl ?_ | refine TL.pickF rfl rfl rfl rfl ?_ | refine TL.extract rfl rfl rfl rfl ?_ | refine TL.maxI rfl rfl rfl rfl ?_ | refine TL.minI rfl rfl rfl rfl ?_ | refine TL.nilCheckF rfl rfl rfl ?_ | refine TL.nil ?_ | refine T.seqK fun K hK => ?_ | (refine T.regionO fun ops => ?_) | refine T.condT rfl ?_ | refine T.condF rfl ?_ | refine T.block ?_ | refine T.skip ?_ | refine T.ret ?_ | refine T.exit ?_ | (refine hK _ _ ?_; clear hK K) | clear hK K | clear ops)
    refine TL.loadR rfl rfl rfl hrow1 rfl ?_
    refine TL.callS rfl rfl rfl (Compare_ret _ _ _ _ w1 (By.ext hk hb1) (By.ext hkey hb1)) ?_
    repeat (first | refine TL.move rfl rfl rfl ?_ | refine TL.assign rfl rfl rfl ?_ | refine TL.nilCheck rfl rfl rfl ?_ | refine TL.fieldAddr rfl rfl rfl ?_ | refine TL.convI rfl rfl rfl ?_ | refine TL.cmpI rfl rfl rfl rfl rfl ?_ | refine TL.arith rfl rfl rfl rfl rfl ?_ | refine TL.lenS rfl rfl rfl ?_ | refine TL.lenStr rfl rfl rfl ?_ | refine TL.not rfl rfl rfl ?_ | refine TL.skipG rfl rfl ?_ | refine TL.pickT rfl rfl rfl rfl ?_ | refine TL.pickF rfl rfl rfl rfl ?_ | refine TL.extract rfl rfl rfl rfl ?_ | refine TL.maxI rfl rfl rfl rfl ?_ | refine TL.minI rfl rfl rfl rfl ?_ | refine TL.nilCheckF rfl rfl rfl ?_ | refine TL.nil ?_ | refine T.seqK fun K hK => ?_ | (refine T.regionO fun ops => ?_) | refine T.condT rfl ?_ | refine T.condF rfl ?_ | refine T.block ?_ | refine T.skip ?_ | refine T.ret ?_ | refine T.exit ?_ | (refine hK _ _ ?_; clear hK K) | clear hK K | clear ops)
    have hrest : ∀ (L' : Sl) (w' : World) (lo ro : Option Tr) (ql qr : Value) (was : Bool), Less [(0, .pointer (some ⟨b0, 0, none⟩)), (6, ql), (7, qr), (8, .bool was)] L' → Ext w w' → IsO w' lo ql → IsO w' ro qr →
        Tr.all lo (·.fit) → Tr.all ro (·.fit) → (∀ a b, lo = some a → ro = some b → a.sz + b.sz < 2 ^ 60) → (Tr.node l r).cut key = Tr.join (Tr.node l r) was lo ro → K L' w' := by
      intro L' w' lo ro ql qr was hL he hlo hro hfl hfr hsz hres
      refine hK _ _ (T.sub hL ?_)
      obtain ⟨pq, rfl, hpq⟩ := hlo.ptr
      obtain ⟨pr, rfl, hpr⟩ := hro.ptr
      clear hK K hL hrow1 hrow
      repeat (first | refine TL.move rfl rfl rfl ?_ | refine TL.assign rfl rfl rfl ?_ | refine TL.nilCheck rfl rfl rfl ?_ | refine TL.fieldAddr rfl rfl rfl ?_ | refine TL.convI rfl rfl rfl ?_ | refine TL.cmpI rfl rfl rfl rfl rfl ?_ | refine TL.arith rfl rfl rfl rfl rfl ?_ | refine TL.lenS rfl rfl rfl ?_ | refine TL.lenStr rfl rfl rfl ?_ | refine TL.not rfl rfl rfl ?_ | refine TL.skipG rfl rfl ?_ | refine TL.pickT rfl rfl rfl rfl ?_ | refine TL.pickF rfl rfl rfl rfl ?_ | refine TL.extract rfl rfl rfl rfl ?_ | refine TL.maxI rfl rfl rfl rfl ?_ | refine TL.minI rfl rfl rfl rfl ?_ | refine TL.nilCheckF rfl rfl rfl ?_ | refine TL.nil ?_ | refine T.seqK fun K hK => ?_ | (refine T.regionO fun ops => ?_) | refine T.condT rfl ?_ | refine T.condF rfl ?_ | refine T.block ?_ | refine T.skip ?_ | refine T.ret ?_ | refine T.exit ?_ | (refine hK _ _ ?_; clear hK K) | clear hK K | clear ops)
      refine T.cond rfl (fun hc => ?_) (fun hc => ?_)
      · have hw : was = false := by simpa using hc
        subst hw
        repeat (first | refine TL.move rfl rfl rfl ?_ | refine TL.assign rfl rfl rfl ?_ | refine TL.nilCheck rfl rfl rfl ?_ | refine TL.fieldAddr rfl rfl rfl ?_ | refine TL.convI rfl rfl rfl ?_ | refine TL.cmpI rfl rfl rfl rfl rfl ?_ | refine TL.arith rfl rfl rfl rfl rfl ?_ | refine TL.lenS rfl rfl rfl ?_ | refine TL.lenStr rfl rfl rfl ?_ | refine TL.not rfl rfl rfl ?_ | refine TL.skipG rfl rfl ?_ | refine TL.pickT rfl rfl rfl rfl ?_ | refine TL.pickF rfl rfl rfl rfl ?_ | refine TL.extract rfl rfl rfl rfl ?_ | refine TL.maxI rfl rfl rfl rfl ?_ | refine TL.minI rfl rfl rfl rfl ?_ | refine TL.nilCheckF rfl rfl rfl ?_ | refine TL.nil ?_ | refine T.seqK fun K hK => ?_ | (refine T.regionO fun ops => ?_) | refine T.condT rfl ?_ | refine T.condF rfl ?_ | refine T.block ?_ | refine T.skip ?_ | refine T.ret ?_ | refine T.exit ?_ | (refine hK _ _ ?_; clear hK K) | clear hK K | clear ops)
        exact ⟨_, rfl, he, _, by rw [hres]; rfl, by rw [hres]; exact IsT.ext he ht⟩
      · have hw : was = true := by simpa using hc
        subst hw
        repeat (first | refine TL.move rfl rfl rfl ?_ | refine TL.assign rfl rfl rfl ?_ | refine TL.nilCheck rfl rfl rfl ?_ | refine TL.fieldAddr rfl rfl rfl ?_ | refine TL.convI rfl rfl rfl ?_ | refine TL.cmpI rfl rfl rfl rfl rfl ?_ | refine TL.arith rfl rfl rfl rfl rfl ?_ | refine TL.lenS rfl rfl rfl ?_ | refine TL.lenStr rfl rfl rfl ?_ | refine TL.not rfl rfl rfl ?_ | refine TL.skipG rfl rfl ?_ | refine TL.pickT rfl rfl rfl rfl ?_ | refine TL.pickF rfl rfl rfl rfl ?_ | refine TL.extract rfl rfl rfl rfl ?_ | refine TL.maxI rfl rfl rfl rfl ?_ | refine TL.minI rfl rfl rfl rfl ?_ | refine TL.nilCheckF rfl rfl rfl ?_ | refine TL.nil ?_ | refine T.seqK fun K hK => ?_ | (refine T.regionO fun ops => ?_) | refine T.condT rfl ?_ | refine T.condF rfl ?_ | refine T.block ?_ | refine T.skip ?_ | refine T.ret ?_ | refine T.exit ?_ | (refine hK _ _ ?_; clear hK K) | clear hK K | clear ops)
        refine TL.eqPtr rfl rfl rfl rfl ?_
        repeat (first | refine TL.move rfl rfl rfl ?_ | refine TL.assign rfl rfl rfl ?_ | refine TL.nilCheck rfl rfl rfl ?_ | refine TL.fieldAddr rfl rfl rfl ?_ | refine TL.convI rfl rfl rfl ?_ | refine TL.cmpI rfl rfl rfl rfl rfl ?_ | refine TL.arith rfl rfl rfl rfl rfl ?_ | refine TL.lenS rfl rfl rfl ?_ | refine TL.lenStr rfl rfl rfl ?_ | refine TL.not rfl rfl rfl ?_ | refine TL.skipG rfl rfl ?_ | refine TL.pickT rfl rfl rfl rfl ?_ | refine TL.pickF rfl rfl rfl rfl ?_ | refine TL.extract rfl rfl rfl rfl ?_ | refine TL.maxI rfl rfl rfl rfl ?_ | refine TL.minI rfl rfl rfl rfl ?_ | refine TL.nilCheckF rfl rfl rfl ?_ | refine TL.nil ?_ | refine T.seqK fun K hK => ?_ | (refine T.regionO fun ops => ?_) | refine T.condT rfl ?_ | refine T.condF rfl ?_ | refine T.block ?_ | refine T.skip ?_ | refine T.ret ?_ | refine T.exit ?_ | (refine hK _ _ ?_; clear hK K) | clear hK K | clear ops)
        refine T.cond rfl (fun hc => ?_) (fun hc => ?_)
        · repeat (first | refine TL.move rfl rfl rfl ?_ | refine TL.assign rfl rfl rfl ?_ | refine TL.nilCheck rfl rfl rfl ?_ | refine TL.fieldAddr rfl rfl rfl ?_ | refine TL.convI rfl rfl rfl ?_ | refine TL.cmpI rfl rfl rfl rfl rfl ?_ | refine TL.arith rfl rfl rfl rfl rfl ?_ | refine TL.lenS rfl rfl rfl ?_ | refine TL.lenStr rfl rfl rfl ?_ | refine TL.not rfl rfl rfl ?_ | refine TL.skipG rfl rfl ?_ | refine TL.pickT rfl rfl rfl rfl ?_ | refine TL.pickF rfl rfl rfl rfl ?_ | refine TL.extract rfl rfl rfl rfl ?_ | refine TL.maxI rfl rfl rfl rfl ?_ | refine TL.minI rfl rfl rfl rfl ?_ | refine TL.nilCheckF rfl rfl rfl ?_ | refine TL.nil ?_ | refine T.seqK fun K hK => ?_ | (refine T.regionO fun ops => ?_) | refine T.condT rfl ?_ | refine T.condF rfl ?_ | refine T.block ?_ | refine T.skip ?_ | refine T.ret ?_ | refine T.exit ?_ | (refine hK _ _ ?_; clear hK K) | clear hK K | clear ops)
          cases lo with
          | none => exact ⟨_, rfl, he, _, by rw [hres]; rfl, by rw [hres]; exact hro⟩
          | some a => rw [hpq] at hc; cases hc
        · cases lo with
          | none => rw [hpq] at hc; cases hc
          | some x =>
          repeat (first | refine TL.move rfl rfl rfl ?_ | refine TL.assign rfl rfl rfl ?_ | refine TL.nilCheck rfl rfl rfl ?_ | refine TL.fieldAddr rfl rfl rfl ?_ | refine TL.convI rfl rfl rfl ?_ | refine TL.cmpI rfl rfl rfl rfl rfl ?_ | refine TL.arith rfl rfl rfl rfl rfl ?_ | refine TL.lenS rfl rfl rfl ?_ | refine TL.lenStr rfl rfl rfl ?_ | refine TL.not rfl rfl rfl ?_ | refine TL.skipG rfl rfl ?_ | refine TL.pickT rfl rfl rfl rfl ?_ | refine TL.pickF rfl rfl rfl rfl ?_ | refine TL.extract rfl rfl rfl rfl ?_ | refine TL.maxI rfl rfl rfl rfl ?_ | refine TL.minI rfl rfl rfl rfl ?_ | refine TL.nilCheckF rfl rfl rfl ?_ | refine TL.nil ?_ | refine T.seqK fun K hK => ?_ | (refine T.regionO fun ops => ?_) | refine T.condT rfl ?_ | refine T.condF rfl ?_ | refine T.block ?_ | refine T.skip ?_ | refine T.ret ?_ | refine T.exit ?_ | (refine hK _ _ ?_; clear hK K) | clear hK K | clear ops)
          refine TL.eqPtr rfl rfl rfl rfl ?_
          repeat (first | refine TL.move rfl rfl rfl ?_ | refine TL.assign rfl rfl rfl ?_ | refine TL.nilCheck rfl rfl rfl ?_ | refine TL.fieldAddr rfl rfl rfl ?_ | refine TL.convI rfl rfl rfl ?_ | refine TL.cmpI rfl rfl rfl rfl rfl ?_ | refine TL.arith rfl rfl rfl rfl rfl ?_ | refine TL.lenS rfl rfl rfl ?_ | refine TL.lenStr rfl rfl rfl ?_ | refine TL.not rfl rfl rfl ?_ | refine TL.skipG rfl rfl ?_ | refine TL.pickT rfl rfl rfl rfl ?_ | refine TL.pickF rfl rfl rfl rfl ?_ | refine TL.extract rfl rfl rfl rfl ?_ | refine TL.maxI rfl rfl rfl rfl ?_ | refine TL.minI rfl rfl rfl rfl ?_ | refine TL.nilCheckF rfl rfl rfl ?_ | refine TL.nil ?_ | refine T.seqK fun K hK => ?_ | (refine T.regionO fun ops => ?_) | refine T.condT rfl ?_ | refine T.condF rfl ?_ | refine T.block ?_ | refine T.skip ?_ | refine T.ret ?_ | refine T.exit ?_ | (refine hK _ _ ?_; clear hK K) | clear hK K | clear ops)
          refine T.cond rfl (fun hc => ?_) (fun hc => ?_)
          · repeat (first | refine TL.move rfl rfl rfl ?_ | refine TL.assign rfl rfl rfl ?_ | refine TL.nilCheck rfl rfl rfl ?_ | refine TL.fieldAddr rfl rfl rfl ?_ | refine TL.convI rfl rfl rfl ?_ | refine TL.cmpI rfl rfl rfl rfl rfl ?_ | refine TL.arith rfl rfl rfl rfl rfl ?_ | refine TL.lenS rfl rfl rfl ?_ | refine TL.lenStr rfl rfl rfl ?_ | refine TL.not rfl rfl rfl ?_ | refine TL.skipG rfl rfl ?_ | refine TL.pickT rfl rfl rfl rfl ?_ | refine TL.pickF rfl rfl rfl rfl ?_ | refine TL.extract rfl rfl rfl rfl ?_ | refine TL.maxI rfl rfl rfl rfl ?_ | refine TL.minI rfl rfl rfl rfl ?_ | refine TL.nilCheckF rfl rfl rfl ?_ | refine TL.nil ?_ | refine T.seqK fun K hK => ?_ | (refine T.regionO fun ops => ?_) | refine T.condT rfl ?_ | refine T.condF rfl ?_ | refine T.block ?_ | refine T.skip ?_ | refine T.ret ?_ | refine T.exit ?_ | (refine hK _ _ ?_; clear hK K) | clear hK K | clear ops)
            cases ro with
            | none => exact ⟨_, rfl, he, _, by rw [hres]; rfl, by rw [hres]; exact hlo⟩
            | some a => rw [hpr] at hc; cases hc
          · cases ro with
            | none => rw [hpr] at hc; cases hc
            | some y =>
            repeat (first | refine TL.move rfl rfl rfl ?_ | refine TL.assign rfl rfl rfl ?_ | refine TL.nilCheck rfl rfl rfl ?_ | refine TL.fieldAddr rfl rfl rfl ?_ | refine TL.convI rfl rfl rfl ?_ | refine TL.cmpI rfl rfl rfl rfl rfl ?_ | refine TL.arith rfl rfl rfl rfl rfl ?_ | refine TL.lenS rfl rfl rfl ?_ | refine TL.lenStr rfl rfl rfl ?_ | refine TL.not rfl rfl rfl ?_ | refine TL.skipG rfl rfl ?_ | refine TL.pickT rfl rfl rfl rfl ?_ | refine TL.pickF rfl rfl rfl rfl ?_ | refine TL.extract rfl rfl rfl rfl ?_ | refine TL.maxI rfl rfl rfl rfl ?_ | refine TL.minI rfl rfl rfl rfl ?_ | refine TL.nilCheckF rfl rfl rfl ?_ | refine TL.nil ?_ | refine T.seqK fun K hK => ?_ | (refine T.regionO fun ops => ?_) | refine T.condT rfl ?_ | refine T.condF rfl ?_ | refine T.block ?_ | refine T.skip ?_ | refine T.ret ?_ | refine T.exit ?_ | (refine hK _ _ ?_; clear hK K) | clear hK K | clear ops)
            refine TL.call rfl rfl rfl (balanced_ret x y _ _ w' (hW.ext he) hlo hro (hfl x rfl) (hfr y rfl) (hsz x y rfl rfl)) ?_
            rintro u w2 ⟨e1, e2⟩
            repeat (first | refine TL.move rfl rfl rfl ?_ | refine TL.assign rfl rfl rfl ?_ | refine TL.nilCheck rfl rfl rfl ?_ | refine TL.fieldAddr rfl rfl rfl ?_ | refine TL.convI rfl rfl rfl ?_ | refine TL.cmpI rfl rfl rfl rfl rfl ?_ | refine TL.arith rfl rfl rfl rfl rfl ?_ | refine TL.lenS rfl rfl rfl ?_ | refine TL.lenStr rfl rfl rfl ?_ | refine TL.not rfl rfl rfl ?_ | refine TL.skipG rfl rfl ?_ | refine TL.pickT rfl rfl rfl rfl ?_ | refine TL.pickF rfl rfl rfl rfl ?_ | refine TL.extract rfl rfl rfl rfl ?_ | refine TL.maxI rfl rfl rfl rfl ?_ | refine TL.minI rfl rfl rfl rfl ?_ | refine TL.nilCheckF rfl rfl rfl ?_ | refine TL.nil ?_ | refine T.seqK fun K hK => ?_ | (refine T.regionO fun ops => ?_) | refine T.condT rfl ?_ | refine T.condF rfl ?_ | refine T.block ?_ | refine T.skip ?_ | refine T.ret ?_ | refine T.exit ?_ | (refine hK _ _ ?_; clear hK K) | clear hK K | clear ops)
            exact ⟨_, rfl, he.trans e1, _, by rw [hres]; rfl, by rw [hres]; exact e2⟩
    refine T.cond rfl (fun hc => ?_) (fun hc => ?_)
    · have hc' : cmpL key r.least < 0 := of_decide_eq_true hc
      have e : (Tr.node l r).cut key = Tr.join (Tr.node l r) (l.cut key).2 (l.cut key).1 (some r) := by simp only [Tr.cut, if_pos hc']
      repeat (first | refine TL.move rfl rfl rfl ?_ | refine TL.assign rfl rfl rfl ?_ | refine TL.nilCheck rfl rfl rfl ?_ | refine TL.fieldAddr rfl rfl rfl ?_ | refine TL.convI rfl rfl rfl ?_ | refine TL.cmpI rfl rfl rfl rfl rfl ?_ | refine TL.arith rfl rfl rfl rfl rfl ?_ | refine TL.lenS rfl rfl rfl ?_ | refine TL.lenStr rfl rfl rfl ?_ | refine TL.not rfl rfl rfl ?_ | refine TL.skipG rfl rfl ?_ | refine TL.pickT rfl rfl rfl rfl ?_ | refine TL.pickF rfl rfl rfl rfl ?_ | refine TL.extract rfl rfl rfl rfl ?_ | refine TL.maxI rfl rfl rfl rfl ?_ | refine TL.minI rfl rfl rfl rfl ?_ | refine TL.nilCheckF rfl rfl rfl ?_ | refine TL.nil ?_ | refine T.seqK fun K hK => ?_ | (refine T.regionO fun ops => ?_) | refine T.condT rfl ?_ | refine T.condF rfl ?_ | refine T.block ?_ | refine T.skip ?_ | refine T.ret ?_ | refine T.exit ?_ | (refine hK _ _ ?_; clear hK K) | clear hK K | clear ops)
      refine TL.call rfl rfl rfl (ihl _ w1 (hW.ext hb1) (IsT.ext hb1 hl) (By.ext hk hb1) hf.1 (by omega)) ?_
      rintro _ w2 ⟨e1, q, rfl, e2⟩
      repeat (first | refine TL.move rfl rfl rfl ?_ | refine TL.assign rfl rfl rfl ?_ | refine TL.nilCheck rfl rfl rfl ?_ | refine TL.fieldAddr rfl rfl rfl ?_ | refine TL.convI rfl rfl rfl ?_ | refine TL.cmpI rfl rfl rfl rfl rfl ?_ | refine TL.arith rfl rfl rfl rfl rfl ?_ | refine TL.lenS rfl rfl rfl ?_ | refine TL.lenStr rfl rfl rfl ?_ | refine TL.not rfl rfl rfl ?_ | refine TL.skipG rfl rfl ?_ | refine TL.pickT rfl rfl rfl rfl ?_ | refine TL.pickF rfl rfl rfl rfl ?_ | refine TL.extract rfl rfl rfl rfl ?_ | refine TL.maxI rfl rfl rfl rfl ?_ | refine TL.minI rfl rfl rfl rfl ?_ | refine TL.nilCheckF rfl rfl rfl ?_)
      refine TL.nil (hrest _ w2 (l.cut key).1 (some r) _ _ _ (by repeat (first | exact Less.nil _ | refine Less.cons rfl ?_)) (Ext.trans hb1 e1) e2 (IsT.ext (Ext.trans hb1 e1) hr) (fun t h => (hal t h).1) (fun t h => by cases h; exact hf.2) (fun a b ha hb => by cases hb; have := (hal a ha).2; omega) e)
    · have hc' : ¬ cmpL key r.least < 0 := of_decide_eq_false hc
      have e : (Tr.node l r).cut key = Tr.join (Tr.node l r) (r.cut key).2 (some l) (r.cut key).1 := by simp only [Tr.cut, if_neg hc']
      repeat (first | refine TL.move rfl rfl rfl ?_ | refine TL.assign rfl rfl rfl ?_ | refine TL.nilCheck rfl rfl rfl ?_ | refine TL.fieldAddr rfl rfl rfl ?_ | refine TL.convI rfl rfl rfl ?_ | refine TL.cmpI rfl rfl rfl rfl rfl ?_ | refine TL.arith rfl rfl rfl rfl rfl ?_ | refine TL.lenS rfl rfl rfl ?_ | refine TL.lenStr rfl rfl rfl ?_ | refine TL.not rfl rfl rfl ?_ | refine TL.skipG rfl rfl ?_ | refine TL.pickT rfl rfl rfl rfl ?_ | refine TL.pickF rfl rfl rfl rfl ?_ | refine TL.extract rfl rfl rfl rfl ?_ | refine TL.maxI rfl rfl rfl rfl ?_ | refine TL.minI rfl rfl rfl rfl ?_ | refine TL.nilCheckF rfl rfl rfl ?_ | refine TL.nil ?_ | refine T.seqK fun K hK => ?_ | (refine T.regionO fun ops => ?_) | refine T.condT rfl ?_ | refine T.condF rfl ?_ | refine T.block ?_ | refine T.skip ?_ | refine T.ret ?_ | refine T.exit ?_ | (refine hK _ _ ?_; clear hK K) | clear hK K | clear ops)
      refine TL.call rfl rfl rfl (ihr _ w1 (hW.ext hb1) (IsT.ext hb1 hr) (By.ext hk hb1) hf.2 (by omega)) ?_
      rintro _ w2 ⟨e1, q, rfl, e2⟩
      repeat (first | refine TL.move rfl rfl rfl ?_ | refine TL.assign rfl rfl rfl ?_ | refine TL.nilCheck rfl rfl rfl ?_ | refine TL.fieldAddr rfl rfl rfl ?_ | refine TL.convI rfl rfl rfl ?_ | refine TL.cmpI rfl rfl rfl rfl rfl ?_ | refine TL.arith rfl rfl rfl rfl rfl ?_ | refine TL.lenS rfl rfl rfl ?_ | refine TL.lenStr rfl rfl rfl ?_ | refine TL.not rfl rfl rfl ?_ | refine TL.skipG rfl rfl ?_ | refine TL.pickT rfl rfl rfl rfl ?_ | refine TL.pickF rfl rfl rfl rfl ?_ | refine TL.extract rfl rfl rfl rfl ?_ | refine TL.maxI rfl rfl rfl rfl ?_ | refine TL.minI rfl rfl rfl rfl ?_ | refine TL.nilCheckF rfl rfl rfl ?_)
      refine TL.nil (hrest _ w2 (some l) (r.cut key).1 _ _ _ (by repeat (first | exact Less.nil _ | refine Less.cons rfl ?_)) (Ext.trans hb1 e1) (IsT.ext (Ext.trans hb1 e1) hl) e2 (fun t h => by cases h; exact hf.1) (fun t h => (har t h).1) (fun a b ha hb => by cases ha; have := (har b hb).2; omega) e)
end Go.Proofs
