/- What slices.SortFunc comes to at texts that are held by bytes.Compare. Conditions: as the theorem says. -/
import Derived.Shelf.SlSortCmp.Whole1
import Derived.Test.YtflioeagjefkmaaDoorCpt
set_option linter.all false
namespace Go.Proofs
open Go.Shelf
def Tryd.sortB_ren : Go.Shelf.Ren := ⟨fun | 6 => 83 | 15 => 109 | 14 => 108 | 28 => 124 | 29 => 125 | 20 => 116 | 21 => 117 | 22 => 118 | 23 => 119 | 24 => 120 | 25 => 121 | 26 => 122 | 27 => 123 | 46 => 127 | 47 => 128 | 48 => 129 | 49 => 130 | 50 => 131 | 57 => 132 | n => n, fun | 22 => 29 | 24 => 23 | 25 => 111 | 3 => 3 | 39 => 127 | 0 => 0 | 53 => 195 | 55 => 56 | 4 => 4 | 46 => 250 | 45 => 249 | 50 => 183 | 5 => 5 | 9 => 9 | 66 => 257 | 70 => 261 | 76 => 263 | 77 => 264 | n => n, fun | n => n⟩
theorem Tryd.sortB : Go.Proofs.SlLaysF.n6 Tryd.prog Tryd.sortB_ren := {
  mixed := by kernel_rfl,
  f6 := ⟨Tryd.f83.name, by decide, Tryd.func83.trans (congrArg some (by kernel_rfl))⟩,
  f14 := ⟨Tryd.f108.name, by decide, Tryd.func108.trans (congrArg some (by kernel_rfl))⟩,
  f15 := Tryd.func109.trans (congrArg some (by kernel_rfl)),
  f20 := ⟨Tryd.f116.name, by decide, Tryd.func116.trans (congrArg some (by kernel_rfl))⟩,
  f21 := ⟨Tryd.f117.name, by decide, Tryd.func117.trans (congrArg some (by kernel_rfl))⟩,
  f22 := ⟨Tryd.f118.name, by decide, Tryd.func118.trans (congrArg some (by kernel_rfl))⟩,
  f23 := ⟨Tryd.f119.name, by decide, Tryd.func119.trans (congrArg some (by kernel_rfl))⟩,
  f24 := ⟨Tryd.f120.name, by decide, Tryd.func120.trans (congrArg some (by kernel_rfl))⟩,
  f25 := ⟨Tryd.f121.name, by decide, Tryd.func121.trans (congrArg some (by kernel_rfl))⟩,
  f26 := ⟨Tryd.f122.name, by decide, Tryd.func122.trans (congrArg some (by kernel_rfl))⟩,
  f27 := ⟨Tryd.f123.name, by decide, Tryd.func123.trans (congrArg some (by kernel_rfl))⟩,
  f28 := Tryd.func124.trans (congrArg some (by kernel_rfl)),
  f29 := Tryd.func125.trans (congrArg some (by kernel_rfl)),
  f46 := ⟨Tryd.f127.name, by decide, Tryd.func127.trans (congrArg some (by kernel_rfl))⟩,
  f47 := Tryd.func128.trans (congrArg some (by kernel_rfl)),
  f48 := Tryd.func129.trans (congrArg some (by kernel_rfl)),
  f49 := ⟨Tryd.f130.name, by decide, Tryd.func130.trans (congrArg some (by kernel_rfl))⟩,
  f50 := ⟨Tryd.f131.name, by decide, Tryd.func131.trans (congrArg some (by kernel_rfl))⟩,
  f57 := ⟨Tryd.f132.name, by decide, Tryd.func132.trans (congrArg some (by kernel_rfl))⟩,
  t0 := Tryd.underlying0,
  a0 := Tryd.isAgg0,
  z0 := Tryd.sizeOf0,
  v0 := Tryd.zeroValue0,
  t3 := Tryd.underlying3,
  a3 := Tryd.isAgg3,
  z3 := Tryd.sizeOf3,
  v3 := Tryd.zeroValue3,
  t4 := Tryd.underlying4,
  a4 := Tryd.isAgg4,
  z4 := Tryd.sizeOf4,
  v4 := Tryd.zeroValue4,
  t5 := Tryd.underlying5,
  a5 := Tryd.isAgg5,
  z5 := Tryd.sizeOf5,
  v5 := Tryd.zeroValue5,
  t9 := Tryd.underlying9,
  a9 := Tryd.isAgg9,
  z9 := Tryd.sizeOf9,
  v9 := Tryd.zeroValue9,
  t22 := Tryd.underlying29,
  a22 := Tryd.isAgg29,
  z22 := Tryd.sizeOf29,
  v22 := Tryd.zeroValue29,
  a24 := Tryd.isAgg23,
  z24 := Tryd.sizeOf23,
  t25 := Tryd.underlying111,
  a25 := Tryd.isAgg111,
  z25 := Tryd.sizeOf111,
  v25 := Tryd.zeroValue111,
  t39 := Tryd.underlying127,
  a39 := Tryd.isAgg127,
  z39 := Tryd.sizeOf127,
  v39 := Tryd.zeroValue127,
  t45 := Tryd.underlying249,
  a45 := Tryd.isAgg249,
  z45 := Tryd.sizeOf249,
  v45 := Tryd.zeroValue249,
  t46 := Tryd.underlying250,
  a46 := Tryd.isAgg250,
  z46 := Tryd.sizeOf250,
  v46 := Tryd.zeroValue250,
  t50 := Tryd.underlying183,
  a50 := Tryd.isAgg183,
  z50 := Tryd.sizeOf183,
  v50 := Tryd.zeroValue183,
  t53 := Tryd.underlying195,
  a53 := Tryd.isAgg195,
  z53 := Tryd.sizeOf195,
  v53 := Tryd.zeroValue195,
  t55 := Tryd.underlying56,
  a55 := Tryd.isAgg56,
  z55 := Tryd.sizeOf56,
  v55 := Tryd.zeroValue56,
  t66 := Tryd.underlying257,
  a66 := Tryd.isAgg257,
  z66 := Tryd.sizeOf257,
  v66 := Tryd.zeroValue257,
  t70 := Tryd.underlying261,
  a70 := Tryd.isAgg261,
  z70 := Tryd.sizeOf261,
  v70 := Tryd.zeroValue261,
  t76 := Tryd.underlying263,
  a76 := Tryd.isAgg263,
  z76 := Tryd.sizeOf263,
  v76 := Tryd.zeroValue263,
  t77 := Tryd.underlying264,
  a77 := Tryd.isAgg264,
  z77 := Tryd.sizeOf264,
  v77 := Tryd.zeroValue264 }

open Go.Fw Go.RowKit
theorem sort_cmp_le_trans {a b c : List UInt8} (h1 : cmpL a b ≤ 0) (h2 : cmpL b c ≤ 0) : cmpL a c ≤ 0 := by
  by_cases e1 : cmpL a b = 0
  · rw [cmpL_eq0 e1]; exact h2
  · by_cases e2 : cmpL b c = 0
    · rw [← cmpL_eq0 e2]; exact h1
    · have := cmpL_trans (a := a) (b := b) (c := c) (by omega) (by omega); omega
def leB (a b : List UInt8) : Bool := decide (cmpL a b ≤ 0)
def sortF (l : List (List UInt8)) : List (List UInt8) := l.mergeSort leB
theorem leB_trans (a b c : List UInt8) (h1 : leB a b = true) (h2 : leB b c = true) : leB a c = true := by
  simp only [leB, decide_eq_true_eq] at *; exact sort_cmp_le_trans h1 h2
theorem leB_total (a b : List UInt8) : (leB a b || leB b a) = true := by
  have := cmpL_swap a b
  simp only [leB, Bool.or_eq_true, decide_eq_true_eq]; omega
theorem sortF_unique {l l' : List (List UInt8)} (hp : l'.Perm l) (hs : l'.Pairwise fun a b => cmpL a b ≤ 0) : l' = sortF l := by
  refine List.Perm.eq_of_pairwise (le := fun a b => leB a b = true) (fun a b _ _ h1 h2 => ?_) (hs.imp fun h => by simpa [leB] using h) (List.pairwise_mergeSort leB_trans leB_total l) (hp.trans (List.mergeSort_perm l leB).symm)
  simp only [leB, decide_eq_true_eq] at h1 h2
  have := cmpL_swap a b
  exact cmpL_eq0 (by omega)

/-- a text that lies elsewhere than in a block -/
abbrev Tx (w : World) (g : Nat) : Type := { p : Value × List UInt8 // By (fun k => k ≠ g ∧ k < w.heap.size) w p.1 p.2 }
instance (w : World) (g : Nat) : Inhabited (Tx w g) := ⟨⟨(nils, []), ⟨none, 0, rfl, by simp, Nat.le_refl _, Nat.zero_le _, fun _ => rfl, fun h => absurd rfl h⟩⟩⟩
def Tx.enc {w : World} {g : Nat} (x : Tx w g) : Value := x.1.1
def Tx.cf {w : World} {g : Nat} (x y : Tx w g) : Int := cmpL x.1.2 y.1.2
theorem Tx.swo (w : World) (g : Nat) : Sort.SWO (ltOf (Tx.cf (w := w) (g := g))) where
  irrefl x := decide_eq_false (by rw [Tx.cf, cmpL_self]; omega)
  trans x y z h1 h2 := decide_eq_true (cmpL_trans (of_decide_eq_true h1) (of_decide_eq_true h2))
  ntrans x y z h1 h2 := decide_eq_false (by
    have h1' : ¬ cmpL x.1.2 y.1.2 < 0 := of_decide_eq_false h1
    have h2' : ¬ cmpL y.1.2 z.1.2 < 0 := of_decide_eq_false h2
    show ¬ cmpL x.1.2 z.1.2 < 0
    have e1 := cmpL_swap x.1.2 y.1.2
    have e2 := cmpL_swap y.1.2 z.1.2
    have e3 := cmpL_swap x.1.2 z.1.2
    have := sort_cmp_le_trans (a := z.1.2) (b := y.1.2) (c := x.1.2) (by omega) (by omega)
    omega)

theorem sortWorld_other {α : Type} [Inhabited α] (enc : α → Value) (w : World) (g m : Nat) (dk : Array α) (os : Array Obj) (k : Nat) (hk : k ≠ g) (hl : k < w.heap.size) : (sortWorld enc w g 0 m dk os).heap[k]? = w.heap[k]? := by
  show ((w.heap.modify g _) ++ os)[k]? = _
  rw [Array.getElem?_append_left (by simpa using hl), Array.getElem?_modify, if_neg (Ne.symm hk)]
theorem sortWorld_row {α : Type} [Inhabited α] (enc : α → Value) (w : World) (g m : Nat) (dk : Array α) (os : Array Obj) (cur : Array Value) (e : TypeId) (fr : Nat × Nat) (h : w.heap[g]? = some (.cells cur e fr)) :
    (sortWorld enc w g 0 m dk os).heap[g]? = some (.cells (Sort.putCells enc 0 dk cur) e fr) := by
  have hl : g < w.heap.size := (Array.getElem?_eq_some_iff.1 h).1
  show ((w.heap.modify g _) ++ os)[g]? = _
  rw [Array.getElem?_append_left (by simpa using hl), Array.getElem?_modify, if_pos rfl, h]
  rfl
theorem sortWorld_size {α : Type} [Inhabited α] (enc : α → Value) (w : World) (g m : Nat) (dk : Array α) (os : Array Obj) : w.heap.size ≤ (sortWorld enc w g 0 m dk os).heap.size := by
  show _ ≤ ((w.heap.modify g _) ++ os).size
  simp

attribute [local irreducible] TL T TS Ev Ret in
theorem ins0_ret (f : Value) (w : World) : Ret Tryd.prog 116 #[nils, .int .i64 0, .int .i64 0, f] w fun u w' => u = .tuple #[] ∧ w' = w := by
  refine Ret.of_T Tryd.func116 rfl Tryd.ntmps116 Tryd.results116 rfl ?_
  repeat (first | refine TL.move rfl rfl rfl ?_ | refine TL.assign rfl rfl rfl ?_ | refine TL.nilCheck rfl rfl rfl ?_ | refine TL.fieldAddr rfl rfl rfl ?_ | refine TL.convI rfl rfl rfl ?_ | refine TL.cmpI rfl rfl rfl rfl rfl ?_ | refine TL.arith rfl rfl rfl rfl rfl ?_ | refine TL.lenS rfl rfl rfl ?_ | refine TL.lenStr rfl rfl rfl ?_ | refine TL.not rfl rfl rfl ?_ | refine TL.skipG rfl rfl ?_ | refine TL.pickT rfl rfl rfl rfl ?_ | refine TL.pickF rfl rfl rfl rfl ?_ | refine TL.extract rfl rfl rfl rfl ?_ | refine TL.maxI rfl rfl rfl rfl ?_ | refine TL.minI rfl rfl rfl rfl ?_ | refine TL.nilCheckF rfl rfl rfl ?_ | refine TL.nil ?_ | refine T.seqK fun K hK => ?_ | (refine T.regionO fun ops => ?_) | refine T.condT rfl ?_ | refine T.condF rfl ?_ | refine T.block ?_ | refine T.skip ?_ | refine T.ret ?_ | refine T.exit ?_ | (refine hK _ _ ?_; clear hK K) | clear hK K | clear ops)
  refine T.loop (fun m L w' => Less [(2, .int .i64 0), (8, .int .i64 1)] L ∧ w' = w) 0 ⟨(by repeat (first | exact Less.nil _ | refine Less.cons rfl ?_)), rfl⟩ ?_
  rintro m L w1 ⟨hL, rfl⟩
  refine T.sub hL ?_
  repeat (first | refine TL.move rfl rfl rfl ?_ | refine TL.assign rfl rfl rfl ?_ | refine TL.nilCheck rfl rfl rfl ?_ | refine TL.fieldAddr rfl rfl rfl ?_ | refine TL.convI rfl rfl rfl ?_ | refine TL.cmpI rfl rfl rfl rfl rfl ?_ | refine TL.arith rfl rfl rfl rfl rfl ?_ | refine TL.lenS rfl rfl rfl ?_ | refine TL.lenStr rfl rfl rfl ?_ | refine TL.not rfl rfl rfl ?_ | refine TL.skipG rfl rfl ?_ | refine TL.pickT rfl rfl rfl rfl ?_ | refine TL.pickF rfl rfl rfl rfl ?_ | refine TL.extract rfl rfl rfl rfl ?_ | refine TL.maxI rfl rfl rfl rfl ?_ | refine TL.minI rfl rfl rfl rfl ?_ | refine TL.nilCheckF rfl rfl rfl ?_ | refine TL.nil ?_ | refine T.seqK fun K hK => ?_ | (refine T.regionO fun ops => ?_) | refine T.condT rfl ?_ | refine T.condF rfl ?_ | refine T.block ?_ | refine T.skip ?_ | refine T.ret ?_ | refine T.exit ?_ | (refine hK _ _ ?_; clear hK K) | clear hK K | clear ops)
  exact ⟨_, rfl, rfl, rfl⟩
attribute [local irreducible] TL T TS Ev Ret in
theorem pdq0_ret (f : Value) (lim : Int) (w : World) : Ret Tryd.prog 108 #[nils, .int .i64 0, .int .i64 0, .int .i64 lim, f] w fun u w' => u = .tuple #[] ∧ w' = w := by
  refine Ret.of_T Tryd.func108 rfl Tryd.ntmps108 Tryd.results108 rfl ?_
  repeat (first | refine TL.move rfl rfl rfl ?_ | refine TL.assign rfl rfl rfl ?_ | refine TL.nilCheck rfl rfl rfl ?_ | refine TL.fieldAddr rfl rfl rfl ?_ | refine TL.convI rfl rfl rfl ?_ | refine TL.cmpI rfl rfl rfl rfl rfl ?_ | refine TL.arith rfl rfl rfl rfl rfl ?_ | refine TL.lenS rfl rfl rfl ?_ | refine TL.lenStr rfl rfl rfl ?_ | refine TL.not rfl rfl rfl ?_ | refine TL.skipG rfl rfl ?_ | refine TL.pickT rfl rfl rfl rfl ?_ | refine TL.pickF rfl rfl rfl rfl ?_ | refine TL.extract rfl rfl rfl rfl ?_ | refine TL.maxI rfl rfl rfl rfl ?_ | refine TL.minI rfl rfl rfl rfl ?_ | refine TL.nilCheckF rfl rfl rfl ?_ | refine TL.nil ?_ | refine T.seqK fun K hK => ?_ | (refine T.regionO fun ops => ?_) | refine T.condT rfl ?_ | refine T.condF rfl ?_ | refine T.block ?_ | refine T.skip ?_ | refine T.ret ?_ | refine T.exit ?_ | (refine hK _ _ ?_; clear hK K) | clear hK K | clear ops)
  refine T.loop (fun m L w' => Less [(0, nils), (1, .int .i64 0), (2, .int .i64 0), (4, f)] L ∧ w' = w) 0 ⟨(by repeat (first | exact Less.nil _ | refine Less.cons rfl ?_)), rfl⟩ ?_
  rintro m L w1 ⟨hL, rfl⟩
  refine T.sub hL ?_
  repeat (first | refine TL.move rfl rfl rfl ?_ | refine TL.assign rfl rfl rfl ?_ | refine TL.nilCheck rfl rfl rfl ?_ | refine TL.fieldAddr rfl rfl rfl ?_ | refine TL.convI rfl rfl rfl ?_ | refine TL.cmpI rfl rfl rfl rfl rfl ?_ | refine TL.arith rfl rfl rfl rfl rfl ?_ | refine TL.lenS rfl rfl rfl ?_ | refine TL.lenStr rfl rfl rfl ?_ | refine TL.not rfl rfl rfl ?_ | refine TL.skipG rfl rfl ?_ | refine TL.pickT rfl rfl rfl rfl ?_ | refine TL.pickF rfl rfl rfl rfl ?_ | refine TL.extract rfl rfl rfl rfl ?_ | refine TL.maxI rfl rfl rfl rfl ?_ | refine TL.minI rfl rfl rfl rfl ?_ | refine TL.nilCheckF rfl rfl rfl ?_ | refine TL.nil ?_ | refine T.seqK fun K hK => ?_ | (refine T.regionO fun ops => ?_) | refine T.condT rfl ?_ | refine T.condF rfl ?_ | refine T.block ?_ | refine T.skip ?_ | refine T.ret ?_ | refine T.exit ?_ | (refine hK _ _ ?_; clear hK K) | clear hK K | clear ops)
  refine TL.call rfl rfl rfl (ins0_ret f w1) ?_
  rintro _ w2 ⟨rfl, rfl⟩
  repeat (first | refine TL.move rfl rfl rfl ?_ | refine TL.assign rfl rfl rfl ?_ | refine TL.nilCheck rfl rfl rfl ?_ | refine TL.fieldAddr rfl rfl rfl ?_ | refine TL.convI rfl rfl rfl ?_ | refine TL.cmpI rfl rfl rfl rfl rfl ?_ | refine TL.arith rfl rfl rfl rfl rfl ?_ | refine TL.lenS rfl rfl rfl ?_ | refine TL.lenStr rfl rfl rfl ?_ | refine TL.not rfl rfl rfl ?_ | refine TL.skipG rfl rfl ?_ | refine TL.pickT rfl rfl rfl rfl ?_ | refine TL.pickF rfl rfl rfl rfl ?_ | refine TL.extract rfl rfl rfl rfl ?_ | refine TL.maxI rfl rfl rfl rfl ?_ | refine TL.minI rfl rfl rfl rfl ?_ | refine TL.nilCheckF rfl rfl rfl ?_ | refine TL.nil ?_ | refine T.seqK fun K hK => ?_ | (refine T.regionO fun ops => ?_) | refine T.condT rfl ?_ | refine T.condF rfl ?_ | refine T.block ?_ | refine T.skip ?_ | refine T.ret ?_ | refine T.exit ?_ | (refine hK _ _ ?_; clear hK K) | clear hK K | clear ops)
  exact ⟨_, rfl, rfl, rfl⟩
theorem len0_ret (w : World) : Ret Tryd.prog 109 #[.int .u64 0] w fun u w' => (∃ n : Int, u = .int .i64 n) ∧ w' = w :=
  Calls.mono (Any.bits_Len (SlLaysF0.n15.bits (P := Tryd.prog) (ρ := Tryd.sortB_ren) { Tryd.sortB with }) 0 w (by omega) (by omega)) fun e w' ⟨he, hw⟩ => ⟨_, he, ⟨_, rfl⟩, hw⟩
attribute [local irreducible] TL T TS Ev Ret in
theorem sort0_ret (f : Value) (w : World) : Ret Tryd.prog 83 #[nils, f] w fun u w' => u = .tuple #[] ∧ w' = w := by
  refine Ret.of_T Tryd.func83 rfl Tryd.ntmps83 Tryd.results83 rfl ?_
  repeat (first | refine TL.move rfl rfl rfl ?_ | refine TL.assign rfl rfl rfl ?_ | refine TL.nilCheck rfl rfl rfl ?_ | refine TL.fieldAddr rfl rfl rfl ?_ | refine TL.convI rfl rfl rfl ?_ | refine TL.cmpI rfl rfl rfl rfl rfl ?_ | refine TL.arith rfl rfl rfl rfl rfl ?_ | refine TL.lenS rfl rfl rfl ?_ | refine TL.lenStr rfl rfl rfl ?_ | refine TL.not rfl rfl rfl ?_ | refine TL.skipG rfl rfl ?_ | refine TL.pickT rfl rfl rfl rfl ?_ | refine TL.pickF rfl rfl rfl rfl ?_ | refine TL.extract rfl rfl rfl rfl ?_ | refine TL.maxI rfl rfl rfl rfl ?_ | refine TL.minI rfl rfl rfl rfl ?_ | refine TL.nilCheckF rfl rfl rfl ?_ | refine TL.nil ?_ | refine T.seqK fun K hK => ?_ | (refine T.regionO fun ops => ?_) | refine T.condT rfl ?_ | refine T.condF rfl ?_ | refine T.block ?_ | refine T.skip ?_ | refine T.ret ?_ | refine T.exit ?_ | (refine hK _ _ ?_; clear hK K) | clear hK K | clear ops)
  refine TL.call rfl rfl rfl (len0_ret w) ?_
  rintro _ w1 ⟨⟨n, rfl⟩, rfl⟩
  repeat (first | refine TL.move rfl rfl rfl ?_ | refine TL.assign rfl rfl rfl ?_ | refine TL.nilCheck rfl rfl rfl ?_ | refine TL.fieldAddr rfl rfl rfl ?_ | refine TL.convI rfl rfl rfl ?_ | refine TL.cmpI rfl rfl rfl rfl rfl ?_ | refine TL.arith rfl rfl rfl rfl rfl ?_ | refine TL.lenS rfl rfl rfl ?_ | refine TL.lenStr rfl rfl rfl ?_ | refine TL.not rfl rfl rfl ?_ | refine TL.skipG rfl rfl ?_ | refine TL.pickT rfl rfl rfl rfl ?_ | refine TL.pickF rfl rfl rfl rfl ?_ | refine TL.extract rfl rfl rfl rfl ?_ | refine TL.maxI rfl rfl rfl rfl ?_ | refine TL.minI rfl rfl rfl rfl ?_ | refine TL.nilCheckF rfl rfl rfl ?_ | refine TL.nil ?_ | refine T.seqK fun K hK => ?_ | (refine T.regionO fun ops => ?_) | refine T.condT rfl ?_ | refine T.condF rfl ?_ | refine T.block ?_ | refine T.skip ?_ | refine T.ret ?_ | refine T.exit ?_ | (refine hK _ _ ?_; clear hK K) | clear hK K | clear ops)
  refine TL.call rfl rfl rfl (pdq0_ret f n w1) ?_
  rintro _ w2 ⟨rfl, rfl⟩
  repeat (first | refine TL.move rfl rfl rfl ?_ | refine TL.assign rfl rfl rfl ?_ | refine TL.nilCheck rfl rfl rfl ?_ | refine TL.fieldAddr rfl rfl rfl ?_ | refine TL.convI rfl rfl rfl ?_ | refine TL.cmpI rfl rfl rfl rfl rfl ?_ | refine TL.arith rfl rfl rfl rfl rfl ?_ | refine TL.lenS rfl rfl rfl ?_ | refine TL.lenStr rfl rfl rfl ?_ | refine TL.not rfl rfl rfl ?_ | refine TL.skipG rfl rfl ?_ | refine TL.pickT rfl rfl rfl rfl ?_ | refine TL.pickF rfl rfl rfl rfl ?_ | refine TL.extract rfl rfl rfl rfl ?_ | refine TL.maxI rfl rfl rfl rfl ?_ | refine TL.minI rfl rfl rfl rfl ?_ | refine TL.nilCheckF rfl rfl rfl ?_ | refine TL.nil ?_ | refine T.seqK fun K hK => ?_ | (refine T.regionO fun ops => ?_) | refine T.condT rfl ?_ | refine T.condF rfl ?_ | refine T.block ?_ | refine T.skip ?_ | refine T.ret ?_ | refine T.exit ?_ | (refine hK _ _ ?_; clear hK K) | clear hK K | clear ops)
  exact ⟨_, rfl, rfl, rfl⟩

set_option maxHeartbeats 1000000 in
theorem Sort_ret (w0 : World) (v : Value) (l : List (List UInt8)) (w : World) (hl : Lst bytesE w0.heap.size w0 w 23 v l) (hn : l.length ≤ 2 ^ 40) :
    Ret Tryd.prog 83 #[v, .func (.func 42) #[] #[]] w fun u w' => Below w0.heap.size w w' ∧ Lst bytesE w0.heap.size w0 w' 23 v (sortF l) := by
  have hB : w0.heap.size ≤ w.heap.size := hl.below.size
  have hl0 := hl
  obtain ⟨xss, ha, hb⟩ := hl.ex
  obtain ⟨hxl, hown⟩ := ha.own
  rcases hown with ⟨rfl, hz⟩ | ⟨g, cap, cur, rfl, hg, hcur, hnc, hcm, hcs, htk⟩
  · obtain rfl : l = [] := List.eq_nil_of_length_eq_zero hz
    refine (sort0_ret _ w).mono ?_
    rintro u w' ⟨_, rfl⟩
    exact ⟨Below.refl _ _, by rw [show sortF [] = [] by simp [sortF]]; exact hl0⟩
  have hvl : xss.flatten.length = l.length := by rw [hxl]; show l.length * 1 = _; omega
  have hbys := hb.bys
  have hgl : g < w.heap.size := (Array.getElem?_eq_some_iff.1 hcur).1
  have htk : cur.toList.take l.length = xss.flatten := by simpa [bytesE] using htk
  have hcs : cur.size = cap := by simpa [bytesE] using hcs
  have hval : ∀ (i : Nat) (h : i < l.length), By (fun k => k ≠ g ∧ k < w.heap.size) w (xss.flatten[i]'(by omega)) l[i] := fun i h =>
    (hbys.2 i _ _ (List.getElem?_eq_getElem (by omega)) (List.getElem?_eq_getElem h)).ltSize.sub fun k hk => ⟨fun e => hk.1.2 (by subst e; rfl), hk.2⟩
  obtain ⟨d, hd⟩ : ∃ d : Array (Tx w g), d = Array.ofFn (n := l.length) fun i => ⟨(xss.flatten[i.1]'(by omega), l[i.1]), hval i.1 i.2⟩ := ⟨_, rfl⟩
  have hds : d.size = l.length := by simp [hd]
  have hdc : d.toList.map (fun x => x.1.2) = l := by
    apply List.ext_getElem
    · simp [hds]
    · intro i h1 h2; simp [hd]
  have hH : Sort.Holds (Tx.enc (w := w) (g := g)) w g 0 d := by
    intro j hj
    have hj' : j < l.length := by omega
    have hjx : j < xss.flatten.length := by omega
    have hx : cur[j]? = some (xss.flatten[j]'hjx) := by
      have h1 : xss.flatten[j]? = some (xss.flatten[j]'hjx) := List.getElem?_eq_getElem hjx
      have h2 : xss.flatten[j]? = cur[j]? := by rw [← htk, List.getElem?_take, if_pos hj', Array.getElem?_toList]
      rw [← h2, h1]
    refine ⟨?_, ?_⟩
    · rw [Nat.zero_add, getElem!_pos d j hj]
      simp only [World.cell?, hcur, hx]
      simp [hd, Tx.enc]
    · simp [World.frozen?, hcur]
  have hcmp : CmpLays1 Tryd.prog 42 #[] (Tx.enc (w := w) (g := g)) (Tx.cf (w := w) (g := g)) g 0 d.size w := by
    intro m os dk _ x y
    have hS : Same (fun k => k ≠ g ∧ k < w.heap.size) w (sortWorld (Tx.enc (w := w) (g := g)) w g 0 m dk os) := fun k hk hlt => sortWorld_other _ w g m dk os k hk.1 hlt
    have h := Compare_ret x.1.1 y.1.1 x.1.2 y.1.2 (sortWorld (Tx.enc (w := w) (g := g)) w g 0 m dk os) (x.2.keep hS) (y.2.keep hS)
    have h' : Ret Tryd.prog 42 (#[Tx.enc x, Tx.enc y] ++ #[]) (sortWorld (Tx.enc (w := w) (g := g)) w g 0 m dk os) fun r w' => r = .int .i64 (cmpL x.1.2 y.1.2) ∧ w' = sortWorld (Tx.enc (w := w) (g := g)) w g 0 m dk os := by simpa [Tx.enc] using h
    refine Calls.mono h' ?_
    rintro e w' ⟨v, rfl, rfl, rfl⟩
    exact ⟨rfl, 0, #[], by simp [World.drewN]⟩
  have eg : ∀ args w, (callFunc 42 args).run Tryd.prog w = .ok (.enter 42 args) w := enters_of Tryd.func42 (by kernel_rfl) rfl
  have h := Any.slices_SortFunc Tryd.sortB (Tx.enc (w := w) (g := g)) (fun x => by obtain ⟨a, c, hv, _⟩ := x.2; show x.1.1.oneCell' = true; rw [hv]; rfl) (Tx.cf (w := w) (g := g)) (Tx.swo w g) 42 #[] g 0 cap d w eg hcmp hH hgl (by omega)
  rw [hds] at h
  refine Calls.mono h fun e w' ⟨he, d', n, os, hP, hSo, hw⟩ => ⟨_, he, ?_⟩
  subst hw
  obtain ⟨hps, _, hperm⟩ := hP
  have hd's : d'.size = l.length := by omega
  have hperm' : d'.toList.Perm d.toList := by
    have e1 : d'.extract 0 l.length = d' := by rw [← hd's]; simp
    have e2 : d.extract 0 l.length = d := by rw [← hds]; simp
    rwa [e1, e2] at hperm
  have hsort : d'.toList.map (fun x => x.1.2) = sortF l := by
    refine sortF_unique (by rw [← hdc]; exact hperm'.map _) ?_
    rw [List.pairwise_iff_getElem]
    intro i j hi hj hij
    simp only [List.length_map, Array.length_toList] at hi hj
    have := hSo i j (Nat.zero_le _) hij (by omega)
    rw [getElem!_pos d' j hj, getElem!_pos d' i hi] at this
    have this : ¬ cmpL d'[j].1.2 d'[i].1.2 < 0 := of_decide_eq_false this
    have hsw := cmpL_swap d'[i].1.2 d'[j].1.2
    simp only [List.getElem_map, Array.getElem_toList]
    omega
  have hBel : Below w0.heap.size w (sortWorld (Tx.enc (w := w) (g := g)) w g 0 n d' os) := ⟨rfl, rfl, rfl, sortWorld_size _ _ _ _ _ _, fun k hk => sortWorld_other _ w g n d' os k (by omega) (by omega)⟩
  have hsl : (sortF l).length = l.length := by rw [← hsort]; simp [hd's]
  have hrow := sortWorld_row (Tx.enc (w := w) (g := g)) w g n d' os cur _ _ hcur
  refine ⟨hBel, ⟨(d'.toList.map (Tx.enc (w := w) (g := g))).map ([·]), ⟨?_, ha.below.trans hBel, ha.base⟩, ?_⟩⟩
  · rw [hsl]
    refine ⟨by rw [map_single_flat]; simp [hd's, bytesE], Or.inr ⟨g, cap, _, rfl, hg, hrow, hnc, hcm, by simp [Sort.putCells, hcs, bytesE], ?_⟩⟩
    rw [map_single_flat]
    apply List.ext_getElem
    · simp [Sort.putCells, bytesE, hd's]; omega
    · intro i h1 h2
      have hi : i < d'.size := by simpa using h2
      simp [Sort.putCells, hi, getElem!_pos d' i hi]
  · refine ⟨by simp [hsl, hd's], fun i u q hu hq => ?_⟩
    rw [← hsort] at hq
    simp only [List.getElem?_map, Option.map_eq_some_iff] at hu hq
    obtain ⟨_, ⟨x, hx, rfl⟩, rfl⟩ := hu
    obtain ⟨y, hy, rfl⟩ := hq
    obtain rfl : x = y := Option.some.inj (hx.symm.trans hy)
    refine ⟨_, rfl, (x.2.keep (fun k hk hlt => sortWorld_other _ w g n d' os k hk.1 hlt)).sub fun k hk => ⟨trivial, fun e => hk.1 ?_⟩⟩
    simpa [Value.ownBlock] using e.symm
end Go.Proofs
