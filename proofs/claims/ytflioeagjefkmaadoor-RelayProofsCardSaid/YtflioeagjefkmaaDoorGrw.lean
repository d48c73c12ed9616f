/- What ferrymanlaw05.Grow comes to. Conditions: xs each theorem says. -/
import Derived.Test.YtflioeagjefkmaaDoorLvs
import Derived.Test.YtflioeagjefkmaaDoorRfp
set_option linter.all false
namespace Go.Proofs
open Go.Fw Go.RowKit
attribute [local irreducible] TL T TS Ev Ret
/-- an act -/
structure Ac where
  kind : UInt8
  k : UInt8
  raw : List UInt8
  val : List UInt8
def actE : Elm Ac where
  sz := 4
  rel F w xs a := ∃ u v, xs = [vb a.kind, vb a.k, u, v] ∧ By F w u a.raw ∧ By F w v a.val
  keep := fun ⟨u, v, h1, h2, h3⟩ hs => ⟨u, v, h1, h2.keep hs, h3.keep hs⟩
  lt := fun ⟨u, v, h1, h2, h3⟩ => ⟨u, v, h1, h2.ltSize, h3.ltSize⟩
  sub := fun ⟨u, v, h1, h2, h3⟩ hs => ⟨u, v, h1, h2.sub hs, h3.sub hs⟩
  len := fun ⟨u, v, h1, h2, h3⟩ => by rw [h1]; rfl
  one := fun ⟨u, v, h1, h2, h3⟩ x hx => by
    subst h1
    simp at hx
    rcases hx with rfl | rfl | rfl | rfl
    · rfl
    · rfl
    · obtain ⟨a, c, hv, _⟩ := h2; rw [hv]; rfl
    · obtain ⟨a, c, hv, _⟩ := h3; rw [hv]; rfl
def keyA (a : Ac) : List UInt8 := if a.raw = [] then [107, UInt8.ofNat (97 + a.k.toNat % 26), UInt8.ofNat (97 + a.k.toNat / 26)] else a.raw
theorem keyA_pos (a : Ac) : 0 < (keyA a).length := by
  unfold keyA; split
  · simp
  · rename_i h; exact List.length_pos_iff.2 h

set_option maxRecDepth 20000 in
theorem Key_ret (a : Ac) (us : List Value) (w : World) (hu : actE.rel Any w us a) : Ret Tryd.prog 35 #[.agg us.toArray] w fun r w' => Ext w w' ∧ B0 w' r (keyA a) := by
  obtain ⟨u, v, rfl, h1, h2⟩ := hu
  obtain ⟨ra, rc, rfl, _⟩ := h1.shape
  refine Ret.of_T Tryd.func35 rfl Tryd.ntmps35 Tryd.results35 rfl ?_
  repeat (first | refine TL.move rfl rfl rfl ?_ | refine TL.assign rfl rfl rfl ?_ | refine TL.nilCheck rfl rfl rfl ?_ | refine TL.fieldAddr rfl rfl rfl ?_ | refine TL.convI rfl rfl rfl ?_ | refine TL.cmpI rfl rfl rfl rfl rfl ?_ | refine TL.arith rfl rfl rfl rfl rfl ?_ | refine TL.lenS rfl rfl rfl ?_ | refine TL.lenStr rfl rfl rfl ?_ | refine TL.not rfl rfl rfl ?_ | refine TL.skipG rfl rfl ?_ | refine TL.pickT rfl rfl rfl rfl ?_ | refine TL.pickF rfl rfl rfl rfl ?_ | refine TL.extract rfl rfl rfl rfl ?_ | refine TL.maxI rfl rfl rfl rfl ?_ | refine TL.minI rfl rfl rfl rfl ?_ | refine TL.nilCheckF rfl rfl rfl ?_ | refine TL.nil ?_ | refine T.seqK fun K hK => ?_ | (refine T.regionO fun ops => ?_) | refine T.condT rfl ?_ | refine T.condF rfl ?_ | refine T.block ?_ | refine T.skip ?_ | refine T.ret ?_ | refine T.exit ?_ | (refine hK _ _ ?_; clear hK K) | clear hK K | clear ops)
  refine TL.box rfl rfl rfl fun b w1 hal => ?_
  have hR : Row w1 b [vb a.kind, vb a.k, .slice ra a.raw.length rc, v] 100 (0, 0) := hal.row
  have hw1 : Ext w w1 := hal.below
  repeat (first | refine TL.move rfl rfl rfl ?_ | refine TL.assign rfl rfl rfl ?_ | refine TL.nilCheck rfl rfl rfl ?_ | refine TL.fieldAddr rfl rfl rfl ?_ | refine TL.convI rfl rfl rfl ?_ | refine TL.cmpI rfl rfl rfl rfl rfl ?_ | refine TL.arith rfl rfl rfl rfl rfl ?_ | refine TL.lenS rfl rfl rfl ?_ | refine TL.lenStr rfl rfl rfl ?_ | refine TL.not rfl rfl rfl ?_ | refine TL.skipG rfl rfl ?_ | refine TL.pickT rfl rfl rfl rfl ?_ | refine TL.pickF rfl rfl rfl rfl ?_ | refine TL.extract rfl rfl rfl rfl ?_ | refine TL.maxI rfl rfl rfl rfl ?_ | refine TL.minI rfl rfl rfl rfl ?_ | refine TL.nilCheckF rfl rfl rfl ?_ | refine TL.nil ?_ | refine T.seqK fun K hK => ?_ | (refine T.regionO fun ops => ?_) | refine T.condT rfl ?_ | refine T.condF rfl ?_ | refine T.block ?_ | refine T.skip ?_ | refine T.ret ?_ | refine T.exit ?_ | (refine hK _ _ ?_; clear hK K) | clear hK K | clear ops)
  refine TL.loadR rfl rfl rfl hR rfl ?_
  repeat (first | refine TL.move rfl rfl rfl ?_ | refine TL.assign rfl rfl rfl ?_ | refine TL.nilCheck rfl rfl rfl ?_ | refine TL.fieldAddr rfl rfl rfl ?_ | refine TL.convI rfl rfl rfl ?_ | refine TL.cmpI rfl rfl rfl rfl rfl ?_ | refine TL.arith rfl rfl rfl rfl rfl ?_ | refine TL.lenS rfl rfl rfl ?_ | refine TL.lenStr rfl rfl rfl ?_ | refine TL.not rfl rfl rfl ?_ | refine TL.skipG rfl rfl ?_ | refine TL.pickT rfl rfl rfl rfl ?_ | refine TL.pickF rfl rfl rfl rfl ?_ | refine TL.extract rfl rfl rfl rfl ?_ | refine TL.maxI rfl rfl rfl rfl ?_ | refine TL.minI rfl rfl rfl rfl ?_ | refine TL.nilCheckF rfl rfl rfl ?_ | refine TL.nil ?_ | refine T.seqK fun K hK => ?_ | (refine T.regionO fun ops => ?_) | refine T.condT rfl ?_ | refine T.condF rfl ?_ | refine T.block ?_ | refine T.skip ?_ | refine T.ret ?_ | refine T.exit ?_ | (refine hK _ _ ?_; clear hK K) | clear hK K | clear ops)
  refine T.cond rfl (fun hc => ?_) (fun hc => ?_)
  · have hne : a.raw ≠ [] := by rintro h; rw [h] at hc; simp at hc
    repeat (first | refine TL.move rfl rfl rfl ?_ | refine TL.assign rfl rfl rfl ?_ | refine TL.nilCheck rfl rfl rfl ?_ | refine TL.fieldAddr rfl rfl rfl ?_ | refine TL.convI rfl rfl rfl ?_ | refine TL.cmpI rfl rfl rfl rfl rfl ?_ | refine TL.arith rfl rfl rfl rfl rfl ?_ | refine TL.lenS rfl rfl rfl ?_ | refine TL.lenStr rfl rfl rfl ?_ | refine TL.not rfl rfl rfl ?_ | refine TL.skipG rfl rfl ?_ | refine TL.pickT rfl rfl rfl rfl ?_ | refine TL.pickF rfl rfl rfl rfl ?_ | refine TL.extract rfl rfl rfl rfl ?_ | refine TL.maxI rfl rfl rfl rfl ?_ | refine TL.minI rfl rfl rfl rfl ?_ | refine TL.nilCheckF rfl rfl rfl ?_ | refine TL.nil ?_ | refine T.seqK fun K hK => ?_ | (refine T.regionO fun ops => ?_) | refine T.condT rfl ?_ | refine T.condF rfl ?_ | refine T.block ?_ | refine T.skip ?_ | refine T.ret ?_ | refine T.exit ?_ | (refine hK _ _ ?_; clear hK K) | clear hK K | clear ops)
    refine TL.loadR rfl rfl rfl hR rfl ?_
    repeat (first | refine TL.move rfl rfl rfl ?_ | refine TL.assign rfl rfl rfl ?_ | refine TL.nilCheck rfl rfl rfl ?_ | refine TL.fieldAddr rfl rfl rfl ?_ | refine TL.convI rfl rfl rfl ?_ | refine TL.cmpI rfl rfl rfl rfl rfl ?_ | refine TL.arith rfl rfl rfl rfl rfl ?_ | refine TL.lenS rfl rfl rfl ?_ | refine TL.lenStr rfl rfl rfl ?_ | refine TL.not rfl rfl rfl ?_ | refine TL.skipG rfl rfl ?_ | refine TL.pickT rfl rfl rfl rfl ?_ | refine TL.pickF rfl rfl rfl rfl ?_ | refine TL.extract rfl rfl rfl rfl ?_ | refine TL.maxI rfl rfl rfl rfl ?_ | refine TL.minI rfl rfl rfl rfl ?_ | refine TL.nilCheckF rfl rfl rfl ?_ | refine TL.nil ?_ | refine T.seqK fun K hK => ?_ | (refine T.regionO fun ops => ?_) | refine T.condT rfl ?_ | refine T.condF rfl ?_ | refine T.block ?_ | refine T.skip ?_ | refine T.ret ?_ | refine T.exit ?_ | (refine hK _ _ ?_; clear hK K) | clear hK K | clear ops)
    exact ⟨_, rfl, hw1, by rw [keyA, if_neg hne]; exact By.ext h1 hw1⟩
  · have he : a.raw = [] := by
      cases h : a.raw with
      | nil => rfl
      | cons x l => rw [h] at hc; have := of_decide_eq_false hc; simp at this
    have hk := a.k.toNat_lt
    repeat (first | refine TL.move rfl rfl rfl ?_ | refine TL.assign rfl rfl rfl ?_ | refine TL.nilCheck rfl rfl rfl ?_ | refine TL.fieldAddr rfl rfl rfl ?_ | refine TL.convI rfl rfl rfl ?_ | refine TL.cmpI rfl rfl rfl rfl rfl ?_ | refine TL.arith rfl rfl rfl rfl rfl ?_ | refine TL.lenS rfl rfl rfl ?_ | refine TL.lenStr rfl rfl rfl ?_ | refine TL.not rfl rfl rfl ?_ | refine TL.skipG rfl rfl ?_ | refine TL.pickT rfl rfl rfl rfl ?_ | refine TL.pickF rfl rfl rfl rfl ?_ | refine TL.extract rfl rfl rfl rfl ?_ | refine TL.maxI rfl rfl rfl rfl ?_ | refine TL.minI rfl rfl rfl rfl ?_ | refine TL.nilCheckF rfl rfl rfl ?_ | refine TL.nil ?_ | refine T.seqK fun K hK => ?_ | (refine T.regionO fun ops => ?_) | refine T.condT rfl ?_ | refine T.condF rfl ?_ | refine T.block ?_ | refine T.skip ?_ | refine T.ret ?_ | refine T.exit ?_ | (refine hK _ _ ?_; clear hK K) | clear hK K | clear ops)
    refine TL.loadR (v := .int .u8 (a.k.toNat : Int)) rfl rfl rfl hR rfl ?_
    refine TL.arith rfl rfl rfl rfl rfl ?_
    refine TL.norm (v' := .int .u8 ((a.k.toNat % 26 : Nat) : Int)) (by rw [Int.tmod_eq_emod_of_nonneg (by omega)]; rfl) ?_
    refine TL.arith rfl rfl rfl rfl rfl ?_
    refine TL.norm (v' := vb (UInt8.ofNat (97 + a.k.toNat % 26))) (by rw [show (97 : Int) + ((a.k.toNat % 26 : Nat) : Int) = ((97 + a.k.toNat % 26 : Nat) : Int) by omega, wr_u8_nat]; rfl) ?_
    repeat (first | refine TL.move rfl rfl rfl ?_ | refine TL.assign rfl rfl rfl ?_ | refine TL.nilCheck rfl rfl rfl ?_ | refine TL.fieldAddr rfl rfl rfl ?_ | refine TL.convI rfl rfl rfl ?_ | refine TL.cmpI rfl rfl rfl rfl rfl ?_ | refine TL.arith rfl rfl rfl rfl rfl ?_ | refine TL.lenS rfl rfl rfl ?_ | refine TL.lenStr rfl rfl rfl ?_ | refine TL.not rfl rfl rfl ?_ | refine TL.skipG rfl rfl ?_ | refine TL.pickT rfl rfl rfl rfl ?_ | refine TL.pickF rfl rfl rfl rfl ?_ | refine TL.extract rfl rfl rfl rfl ?_ | refine TL.maxI rfl rfl rfl rfl ?_ | refine TL.minI rfl rfl rfl rfl ?_ | refine TL.nilCheckF rfl rfl rfl ?_ | refine TL.nil ?_ | refine T.seqK fun K hK => ?_ | (refine T.regionO fun ops => ?_) | refine T.condT rfl ?_ | refine T.condF rfl ?_ | refine T.block ?_ | refine T.skip ?_ | refine T.ret ?_ | refine T.exit ?_ | (refine hK _ _ ?_; clear hK K) | clear hK K | clear ops)
    refine TL.loadR (v := .int .u8 (a.k.toNat : Int)) rfl rfl rfl hR rfl ?_
    refine TL.arith rfl rfl rfl rfl rfl ?_
    refine TL.norm (v' := .int .u8 ((a.k.toNat / 26 : Nat) : Int)) (by rw [Int.tdiv_eq_ediv_of_nonneg (by omega), wr_u8 (by omega) (by omega)]; rfl) ?_
    refine TL.arith rfl rfl rfl rfl rfl ?_
    refine TL.norm (v' := vb (UInt8.ofNat (97 + a.k.toNat / 26))) (by rw [show (97 : Int) + ((a.k.toNat / 26 : Nat) : Int) = ((97 + a.k.toNat / 26 : Nat) : Int) by omega, wr_u8_nat]; rfl) ?_
    refine TL.buildSlice rfl rfl rfl rfl rfl (by intro u hu; simp only [List.mem_cons, List.not_mem_nil, or_false] at hu; rcases hu with rfl | rfl | rfl <;> rfl) rfl fun b3 w3 hal3 => ?_
    have hrd : By (· = b3) w3 _ [107, UInt8.ofNat (97 + a.k.toNat % 26), UInt8.ofNat (97 + a.k.toNat / 26)] := hal3.rd rfl (by simp [maxLen])
    repeat (first | refine TL.move rfl rfl rfl ?_ | refine TL.assign rfl rfl rfl ?_ | refine TL.nilCheck rfl rfl rfl ?_ | refine TL.fieldAddr rfl rfl rfl ?_ | refine TL.convI rfl rfl rfl ?_ | refine TL.cmpI rfl rfl rfl rfl rfl ?_ | refine TL.arith rfl rfl rfl rfl rfl ?_ | refine TL.lenS rfl rfl rfl ?_ | refine TL.lenStr rfl rfl rfl ?_ | refine TL.not rfl rfl rfl ?_ | refine TL.skipG rfl rfl ?_ | refine TL.pickT rfl rfl rfl rfl ?_ | refine TL.pickF rfl rfl rfl rfl ?_ | refine TL.extract rfl rfl rfl rfl ?_ | refine TL.maxI rfl rfl rfl rfl ?_ | refine TL.minI rfl rfl rfl rfl ?_ | refine TL.nilCheckF rfl rfl rfl ?_ | refine TL.nil ?_ | refine T.seqK fun K hK => ?_ | (refine T.regionO fun ops => ?_) | refine T.condT rfl ?_ | refine T.condF rfl ?_ | refine T.block ?_ | refine T.skip ?_ | refine T.ret ?_ | refine T.exit ?_ | (refine hK _ _ ?_; clear hK K) | clear hK K | clear ops)
    exact ⟨_, rfl, hw1.trans hal3.below, by rw [keyA, if_pos he]; exact hrd.any⟩

/-- what Grow comes to -/
def growG : List Ac → Nat → Nat → Option Tr × Prs → Option Tr × Prs
  | [], _, _, st => st
  | a :: xs, i, most, (o, l) => if most ≤ i ∨ 90 < (keyA a).length then (o, l) else
      growG xs (i + 1) most (if a.kind.toNat % 6 < 4 then (some (putO (keyA a) (a.val.take 100) o), ppG (keyA a) (a.val.take 100) l) else ((cutO (keyA a) o).1, cpG (keyA a) l))
/-- a tree and its pairs -/
structure Gi (o : Option Tr) (l : Prs) (k : Nat) : Prop where
  fit : fitO o
  lv : lvO o = l
  rise : rise l
  small : small l
  sz : szO o ≤ k
  len : l.length ≤ k
theorem szO_len (o : Option Tr) : szO o = (lvO o).length := by cases o <;> simp [szO, lvO, Tr.leaves_len]
theorem Gi.nil : Gi none [] 0 := ⟨(fun t h => by cases h), rfl, List.Pairwise.nil, (fun q hq => by cases hq), Nat.le_refl _, Nat.le_refl _⟩
theorem Gi.put {o : Option Tr} {l : Prs} {n : Nat} (h : Gi o l n) {k v : List UInt8} (hk : k.length ≤ 90) (hv : v.length ≤ 100) : Gi (some (putO k v o)) (ppG k v l) (n + 1) := by
  have hlv : lvO (some (putO k v o)) = ppG k v l := by
    cases o with
    | none => have : l = [] := h.lv.symm; subst this; rfl
    | some t => have h1 : t.leaves = l := h.lv; have h2 := h.rise; rw [← h1] at h2 ⊢; exact Tr.put_leaves k v t h2
  have hln := ppG_len k v l
  have := h.len
  refine ⟨?_, hlv, rise_put h.rise, small_put h.small (by omega) (by omega), by rw [szO_len, hlv]; omega, by omega⟩
  intro t ht
  cases ht
  cases o with
  | none => exact ⟨by omega, by omega⟩
  | some t => exact Tr.put_fit (by omega) (by omega) (h.fit t rfl)
theorem Gi.cut {o : Option Tr} {l : Prs} {n : Nat} (h : Gi o l n) {k : List UInt8} : Gi (cutO k o).1 (cpG k l) (n + 1) := by
  have hlv : lvO (cutO k o).1 = cpG k l := by
    cases o with
    | none => have : l = [] := h.lv.symm; subst this; rfl
    | some t => have h1 : t.leaves = l := h.lv; have h2 := h.rise; rw [← h1] at h2 ⊢; exact (Tr.cut_leaves k t h2).1
  have hln : (cpG k l).length ≤ l.length := List.length_filter_le _ _
  have := h.len
  refine ⟨?_, hlv, rise_cut h.rise, small_cut h.small, by rw [szO_len, hlv]; omega, by omega⟩
  intro t ht
  cases o with
  | none => cases ht
  | some t' => exact (Tr.cut_all k (h.fit t' rfl) t ht).1
theorem Gi.mono {o : Option Tr} {l : Prs} {n m : Nat} (h : Gi o l n) (hm : n ≤ m) : Gi o l m := ⟨h.fit, h.lv, h.rise, h.small, Nat.le_trans h.sz hm, Nat.le_trans h.len hm⟩
theorem min_nat (n : Nat) : (if (100 : Int) < (n : Int) then (100 : Int) else (n : Int)) = ((min n 100 : Nat) : Int) := by split <;> omega

set_option maxRecDepth 20000 in
set_option maxHeartbeats 4000000 in
theorem Grow_ret (v : Value) (xs : List Ac) (most : Nat) (w : World) (hW : KW w) (hl : Lsr actE Any w v xs) (hn : xs.length ≤ 9223372036854775807) (hm : most ≤ 64) :
    Ret Tryd.prog 7 #[v, .int .i64 most] w fun u w' => Ext w w' ∧ ∃ p lv, u = .tuple #[p, lv] ∧ IsR w' (growG xs 0 most (none, [])).1 p ∧ Lsr pairE Any w' lv (growG xs 0 most (none, [])).2 ∧ Gi (growG xs 0 most (none, [])).1 (growG xs 0 most (none, [])).2 most := by
  obtain ⟨va, vc, rfl, _⟩ := hl.shape
  refine Ret.of_T Tryd.func7 rfl Tryd.ntmps7 Tryd.results7 rfl ?_
  repeat (first | refine TL.move rfl rfl rfl ?_ | refine TL.assign rfl rfl rfl ?_ | refine TL.nilCheck rfl rfl rfl ?_ | refine TL.fieldAddr rfl rfl rfl ?_ | refine TL.convI rfl rfl rfl ?_ | refine TL.cmpI rfl rfl rfl rfl rfl ?_ | refine TL.arith rfl rfl rfl rfl rfl ?_ | refine TL.lenS rfl rfl rfl ?_ | refine TL.lenStr rfl rfl rfl ?_ | refine TL.not rfl rfl rfl ?_ | refine TL.skipG rfl rfl ?_ | refine TL.pickT rfl rfl rfl rfl ?_ | refine TL.pickF rfl rfl rfl rfl ?_ | refine TL.extract rfl rfl rfl rfl ?_ | refine TL.maxI rfl rfl rfl rfl ?_ | refine TL.minI rfl rfl rfl rfl ?_ | refine TL.nilCheckF rfl rfl rfl ?_ | refine TL.nil ?_ | refine T.seqK fun K hK => ?_ | (refine T.regionO fun ops => ?_) | refine T.condT rfl ?_ | refine T.condF rfl ?_ | refine T.block ?_ | refine T.skip ?_ | refine T.ret ?_ | refine T.exit ?_ | (refine hK _ _ ?_; clear hK K) | clear hK K | clear ops)
  refine TL.call rfl rfl rfl (New_ret w) ?_
  rintro t1 w1 ⟨hw1, ht1⟩
  repeat (first | refine TL.move rfl rfl rfl ?_ | refine TL.assign rfl rfl rfl ?_ | refine TL.nilCheck rfl rfl rfl ?_ | refine TL.fieldAddr rfl rfl rfl ?_ | refine TL.convI rfl rfl rfl ?_ | refine TL.cmpI rfl rfl rfl rfl rfl ?_ | refine TL.arith rfl rfl rfl rfl rfl ?_ | refine TL.lenS rfl rfl rfl ?_ | refine TL.lenStr rfl rfl rfl ?_ | refine TL.not rfl rfl rfl ?_ | refine TL.skipG rfl rfl ?_ | refine TL.pickT rfl rfl rfl rfl ?_ | refine TL.pickF rfl rfl rfl rfl ?_ | refine TL.extract rfl rfl rfl rfl ?_ | refine TL.maxI rfl rfl rfl rfl ?_ | refine TL.minI rfl rfl rfl rfl ?_ | refine TL.nilCheckF rfl rfl rfl ?_ | refine TL.nil ?_ | refine T.seqK fun K hK => ?_ | (refine T.regionO fun ops => ?_) | refine T.condT rfl ?_ | refine T.condF rfl ?_ | refine T.block ?_ | refine T.skip ?_ | refine T.ret ?_ | refine T.exit ?_ | (refine hK _ _ ?_; clear hK K) | clear hK K | clear ops)
  refine T.loop (fun m L w' => ∃ (k : Nat) (tv lv : Value) (o : Option Tr) (l : Prs), Less [(1, .int .i64 most), (6, tv), (7, lv), (13, .slice va xs.length vc), (14, .int .i64 xs.length), (15, .int .i64 k)] L ∧ Ext w w' ∧ IsR w' o tv ∧ Lsr pairE Any w' lv l ∧ Gi o l k ∧ k ≤ most ∧
      growG (xs.drop k) k most (o, l) = growG xs 0 most (none, []) ∧ k + m = xs.length) xs.length
    ⟨0, t1, _, none, [], (by repeat (first | exact Less.nil _ | refine Less.cons rfl ?_)), hw1, ht1, Lsr.nilF _ _ _, Gi.nil, Nat.zero_le _, rfl, by omega⟩ ?_
  rintro m L w2 ⟨k, tv, lv, o, l, hL, hw2, ht, hll, hgi, hkm, hg, hkl⟩
  have hend : ∀ (w' : World) (L' : Sl), Less [(6, tv), (7, lv)] L' → Ext w2 w' → growG xs 0 most (none, []) = (o, l) → K L' w' := by
    intro w' L' hL' he hgr
    refine hK _ _ (T.sub hL' ?_)
    clear hK K
    repeat (first | refine TL.move rfl rfl rfl ?_ | refine TL.assign rfl rfl rfl ?_ | refine TL.nilCheck rfl rfl rfl ?_ | refine TL.fieldAddr rfl rfl rfl ?_ | refine TL.convI rfl rfl rfl ?_ | refine TL.cmpI rfl rfl rfl rfl rfl ?_ | refine TL.arith rfl rfl rfl rfl rfl ?_ | refine TL.lenS rfl rfl rfl ?_ | refine TL.lenStr rfl rfl rfl ?_ | refine TL.not rfl rfl rfl ?_ | refine TL.skipG rfl rfl ?_ | refine TL.pickT rfl rfl rfl rfl ?_ | refine TL.pickF rfl rfl rfl rfl ?_ | refine TL.extract rfl rfl rfl rfl ?_ | refine TL.maxI rfl rfl rfl rfl ?_ | refine TL.minI rfl rfl rfl rfl ?_ | refine TL.nilCheckF rfl rfl rfl ?_ | refine TL.nil ?_ | refine T.seqK fun K hK => ?_ | (refine T.regionO fun ops => ?_) | refine T.condT rfl ?_ | refine T.condF rfl ?_ | refine T.block ?_ | refine T.skip ?_ | refine T.ret ?_ | refine T.exit ?_ | (refine hK _ _ ?_; clear hK K) | clear hK K | clear ops)
    refine ⟨_, rfl, hw2.trans he, tv, lv, rfl, ?_⟩
    rw [hgr]
    exact ⟨IsR.ext he ht, hll.ext he, hgi.mono hkm⟩
  clear hK
  refine T.sub hL ?_
  repeat (first | refine TL.move rfl rfl rfl ?_ | refine TL.assign rfl rfl rfl ?_ | refine TL.nilCheck rfl rfl rfl ?_ | refine TL.fieldAddr rfl rfl rfl ?_ | refine TL.convI rfl rfl rfl ?_ | refine TL.cmpI rfl rfl rfl rfl rfl ?_ | refine TL.arith rfl rfl rfl rfl rfl ?_ | refine TL.lenS rfl rfl rfl ?_ | refine TL.lenStr rfl rfl rfl ?_ | refine TL.not rfl rfl rfl ?_ | refine TL.skipG rfl rfl ?_ | refine TL.pickT rfl rfl rfl rfl ?_ | refine TL.pickF rfl rfl rfl rfl ?_ | refine TL.extract rfl rfl rfl rfl ?_ | refine TL.maxI rfl rfl rfl rfl ?_ | refine TL.minI rfl rfl rfl rfl ?_ | refine TL.nilCheckF rfl rfl rfl ?_ | refine TL.nil ?_ | refine T.seqK fun K hK => ?_ | (refine T.regionO fun ops => ?_) | refine T.condT rfl ?_ | refine T.condF rfl ?_ | refine T.block ?_ | refine T.skip ?_ | refine T.ret ?_ | refine T.exit ?_ | (refine hK _ _ ?_; clear hK K) | clear hK K | clear ops)
  refine T.cond rfl (fun hc => ?_) (fun hc => ?_)
  · have hk : k < xs.length := by simpa using hc
    obtain ⟨a, ha⟩ : ∃ a, xs[k]? = some a := ⟨_, List.getElem?_eq_getElem hk⟩
    have hdrop : xs.drop k = a :: xs.drop (k + 1) := by
      obtain ⟨h1, h2⟩ := List.getElem?_eq_some_iff.1 ha
      rw [List.drop_eq_getElem_cons h1, h2]
    rw [hdrop, growG] at hg
    repeat (first | refine TL.move rfl rfl rfl ?_ | refine TL.assign rfl rfl rfl ?_ | refine TL.nilCheck rfl rfl rfl ?_ | refine TL.fieldAddr rfl rfl rfl ?_ | refine TL.convI rfl rfl rfl ?_ | refine TL.cmpI rfl rfl rfl rfl rfl ?_ | refine TL.arith rfl rfl rfl rfl rfl ?_ | refine TL.lenS rfl rfl rfl ?_ | refine TL.lenStr rfl rfl rfl ?_ | refine TL.not rfl rfl rfl ?_ | refine TL.skipG rfl rfl ?_ | refine TL.pickT rfl rfl rfl rfl ?_ | refine TL.pickF rfl rfl rfl rfl ?_ | refine TL.extract rfl rfl rfl rfl ?_ | refine TL.maxI rfl rfl rfl rfl ?_ | refine TL.minI rfl rfl rfl rfl ?_ | refine TL.nilCheckF rfl rfl rfl ?_ | refine TL.nil ?_ | refine T.seqK fun K hK => ?_ | (refine T.regionO fun ops => ?_) | refine T.condT rfl ?_ | refine T.condF rfl ?_ | refine T.block ?_ | refine T.skip ?_ | refine T.ret ?_ | refine T.exit ?_ | (refine hK _ _ ?_; clear hK K) | clear hK K | clear ops)
    refine TL.elemE (E := actE) rfl rfl (fun _ => rfl) rfl rfl rfl rfl (hl.ext hw2) rfl ha rfl fun pp us hus => ?_
    refine TL.alloc rfl rfl fun b3 w3 hal => ?_
    obtain ⟨ru, vu, rfl, hru, hvu⟩ := id hus
    obtain ⟨vva, vvc, rfl, _⟩ := hvu.shape
    have hz : Row w3 b3 [.int .u8 0, .int .u8 0, nils, nils] 100 (0, 0) := hal.at_
    have hw23 : Ext w2 w3 := hal.below
    have hb3 : w2.heap.size ≤ b3 := by rw [hal.num]; exact Nat.le_refl _
    clear hal
    repeat (first | refine TL.move rfl rfl rfl ?_ | refine TL.assign rfl rfl rfl ?_ | refine TL.nilCheck rfl rfl rfl ?_ | refine TL.fieldAddr rfl rfl rfl ?_ | refine TL.convI rfl rfl rfl ?_ | refine TL.cmpI rfl rfl rfl rfl rfl ?_ | refine TL.arith rfl rfl rfl rfl rfl ?_ | refine TL.lenS rfl rfl rfl ?_ | refine TL.lenStr rfl rfl rfl ?_ | refine TL.not rfl rfl rfl ?_ | refine TL.skipG rfl rfl ?_ | refine TL.pickT rfl rfl rfl rfl ?_ | refine TL.pickF rfl rfl rfl rfl ?_ | refine TL.extract rfl rfl rfl rfl ?_ | refine TL.maxI rfl rfl rfl rfl ?_ | refine TL.minI rfl rfl rfl rfl ?_ | refine TL.nilCheckF rfl rfl rfl ?_ | refine TL.nil ?_ | refine T.seqK fun K hK => ?_ | (refine T.regionO fun ops => ?_) | refine T.condT rfl ?_ | refine T.condF rfl ?_ | refine T.block ?_ | refine T.skip ?_ | refine T.ret ?_ | refine T.exit ?_ | (refine hK _ _ ?_; clear hK K) | clear hK K | clear ops)
    refine TL.storeRA (A := []) (C := []) (old := [.int .u8 0, .int .u8 0, nils, nils]) (xs := [vb a.kind, vb a.k, ru, .slice vva a.val.length vvc]) rfl rfl rfl (by simpa using hz) rfl (by simp [Value.cells]) rfl rfl (actE.one hus) fun w4 hg4 hr4 hs4 => ?_
    have hr4 : Row w4 b3 [vb a.kind, vb a.k, ru, .slice vva a.val.length vvc] 100 (0, 0) := hr4
    have hw24 : Ext w2 w4 := Below.trans hw23 (below_grown hg4 hb3 hw23.size)
    have hw4 : Ext w w4 := hw2.trans hw24
    clear hz hg4 hs4
    have hvu4 : B0 w4 (.slice vva a.val.length vvc) a.val := (By.any hvu).ext hw24
    have hcap : a.val.length ≤ vvc := by obtain ⟨_, _, hh, h2⟩ := hvu4.shape; simp only [Value.slice.injEq] at hh; omega
    repeat (first | refine TL.move rfl rfl rfl ?_ | refine TL.assign rfl rfl rfl ?_ | refine TL.nilCheck rfl rfl rfl ?_ | refine TL.fieldAddr rfl rfl rfl ?_ | refine TL.convI rfl rfl rfl ?_ | refine TL.cmpI rfl rfl rfl rfl rfl ?_ | refine TL.arith rfl rfl rfl rfl rfl ?_ | refine TL.lenS rfl rfl rfl ?_ | refine TL.lenStr rfl rfl rfl ?_ | refine TL.not rfl rfl rfl ?_ | refine TL.skipG rfl rfl ?_ | refine TL.pickT rfl rfl rfl rfl ?_ | refine TL.pickF rfl rfl rfl rfl ?_ | refine TL.extract rfl rfl rfl rfl ?_ | refine TL.maxI rfl rfl rfl rfl ?_ | refine TL.minI rfl rfl rfl rfl ?_ | refine TL.nilCheckF rfl rfl rfl ?_ | refine TL.nil ?_ | refine T.seqK fun K hK => ?_ | (refine T.regionO fun ops => ?_) | refine T.condT rfl ?_ | refine T.condF rfl ?_ | refine T.block ?_ | refine T.skip ?_ | refine T.ret ?_ | refine T.exit ?_ | (refine hK _ _ ?_; clear hK K) | clear hK K | clear ops)
    refine T.drawK 10 Tryd.mixed (by kernel_rfl) fun ops w5 hb5 hh5 K' hK' => ?_
    have hr5 := hr4.keepA hb5
    have hw25 : Ext w2 w5 := hw24.trans hb5
    simp only [List.take_succ_cons, List.take_zero]
    refine DR.v (.agg [vb a.kind, vb a.k, ru, .slice vva a.val.length vvc].toArray) rfl (fun w' σ he => Ev.loadRA rfl (hr5.keepA he) rfl rfl) ?_
    refine DR.a (fun u w' => B0 w' u (keyA a)) (fun u w1 w2 h e => By.ext h e) (fun w' σ he hσ => ?_) ?_
    · refine TL.call rfl rfl rfl (Key_ret a _ w' (actE.keep (actE.sub hus fun _ _ => trivial) (Same.ofBelow (hw25.trans he) _))) ?_
      rintro u w6 ⟨h6, h7⟩
      exact TL.nil ⟨h6, u, rfl, h7⟩
    repeat (refine DR.v _ rfl (fun w' σ he => by first | exact Ev.move rfl | exact Ev.nilCheck rfl | exact Ev.fieldAddr rfl) ?_)
    refine DR.v _ rfl (fun w' σ he => Ev.loadR rfl (hr5.keepA he) rfl) ?_
    repeat (refine DR.v _ rfl (fun w' σ he => by first | exact Ev.move rfl | exact Ev.nilCheck rfl | exact Ev.fieldAddr rfl) ?_)
    refine DR.v _ rfl (fun w' σ he => Ev.loadR rfl (hr5.keepA he) rfl) ?_
    refine DR.v _ rfl (fun w' σ he => Ev.lenS rfl) ?_
    refine DR.v (.int .i64 ((min a.val.length 100 : Nat) : Int)) rfl (fun w' σ he => by rw [← min_nat]; exact Ev.minI rfl rfl) ?_
    refine DR.v _ rfl (fun w' σ he => Ev.sliceS (lw := 0) (hw := min a.val.length 100) rfl rfl rfl (Nat.zero_le _) (by omega)) ?_
    refine DR.a (fun u w' => B0 w' u (keyA a)) (fun u w1 w2 h e => By.ext h e) (fun w' σ he hσ => TL.ev rfl rfl (Ev.assign rfl) (TL.nil ⟨Ext.refl _, _, rfl, hσ.get 21 rfl⟩)) ?_
    refine DR.nil (hK' _ fun w6 σ he hσ => ?_)
    simp only [List.drop_succ_cons, List.drop_zero]
    clear hK' K'
    have hkey : B0 w6 (σ 10) (keyA a) := hσ.get 10 rfl
    obtain ⟨ka, kc, hke, _⟩ := hkey.shape
    have hval : B0 w6 (.slice (if vvc = 0 then vva else vva.map (·.add (0 * 1))) (min a.val.length 100 - 0) (vvc - 0)) (a.val.take 100) := by
      have := By.slice (By.ext hvu4 (Ext.trans hb5 he)) rfl (Nat.zero_le (min a.val.length 100)) (Nat.min_le_left _ _)
      have e : ((a.val.drop 0).take (min a.val.length 100 - 0)) = a.val.take 100 := by
        rw [List.drop_zero, Nat.sub_zero, List.take_eq_take_iff]; omega
      rw [e] at this; exact this
    have hw26 : Ext w2 w6 := hw25.trans he
    have hw6 : Ext w w6 := hw2.trans hw26
    have hr6 := hr5.keepA he
    generalize hvv : Value.slice (if vvc = 0 then vva else vva.map (·.add (0 * 1))) (min a.val.length 100 - 0) (vvc - 0) = vv at hval
    refine TL.sub (L' := [(1, .int .i64 most), (6, tv), (7, lv), (8, .int .i64 k), (9, .pointer (some ⟨b3, 0, none⟩)), (10, .slice ka (keyA a).length kc), (28, vv), (13, .slice va xs.length vc), (14, .int .i64 xs.length), (15, .int .i64 k)]) ?_ ?_
    · repeat (first | exact Less.nil _ | refine Less.cons rfl ?_)
      refine Less.cons' rfl hke ?_
      repeat (first | exact Less.nil _ | refine Less.cons rfl ?_)
    rw [hke] at hkey
    clear hσ hke
    refine TL.assign rfl rfl rfl ?_
    repeat (first | refine TL.move rfl rfl rfl ?_ | refine TL.assign rfl rfl rfl ?_ | refine TL.nilCheck rfl rfl rfl ?_ | refine TL.fieldAddr rfl rfl rfl ?_ | refine TL.convI rfl rfl rfl ?_ | refine TL.cmpI rfl rfl rfl rfl rfl ?_ | refine TL.arith rfl rfl rfl rfl rfl ?_ | refine TL.lenS rfl rfl rfl ?_ | refine TL.lenStr rfl rfl rfl ?_ | refine TL.not rfl rfl rfl ?_ | refine TL.skipG rfl rfl ?_ | refine TL.pickT rfl rfl rfl rfl ?_ | refine TL.pickF rfl rfl rfl rfl ?_ | refine TL.extract rfl rfl rfl rfl ?_ | refine TL.maxI rfl rfl rfl rfl ?_ | refine TL.minI rfl rfl rfl rfl ?_ | refine TL.nilCheckF rfl rfl rfl ?_ | refine TL.nil ?_ | refine T.seqK fun K hK => ?_ | refine T.region ?_ | refine T.condT rfl ?_ | refine T.condF rfl ?_ | refine T.block ?_ | refine T.skip ?_ | refine T.ret ?_ | refine T.exit ?_ | (refine hK _ _ ?_; clear hK K) | clear hK K)
    by_cases hmk : most ≤ k
    · rw [show decide ((k : Int) ≥ (most : Int)) = true by simpa using hmk]
      rw [if_pos (Or.inl hmk)] at hg
      repeat (first | refine TL.move rfl rfl rfl ?_ | refine TL.assign rfl rfl rfl ?_ | refine TL.nilCheck rfl rfl rfl ?_ | refine TL.fieldAddr rfl rfl rfl ?_ | refine TL.convI rfl rfl rfl ?_ | refine TL.cmpI rfl rfl rfl rfl rfl ?_ | refine TL.arith rfl rfl rfl rfl rfl ?_ | refine TL.lenS rfl rfl rfl ?_ | refine TL.lenStr rfl rfl rfl ?_ | refine TL.not rfl rfl rfl ?_ | refine TL.skipG rfl rfl ?_ | refine TL.pickT rfl rfl rfl rfl ?_ | refine TL.pickF rfl rfl rfl rfl ?_ | refine TL.extract rfl rfl rfl rfl ?_ | refine TL.maxI rfl rfl rfl rfl ?_ | refine TL.minI rfl rfl rfl rfl ?_ | refine TL.nilCheckF rfl rfl rfl ?_ | refine TL.nil ?_ | refine T.seqK fun K hK => ?_ | refine T.region ?_ | refine T.condT rfl ?_ | refine T.condF rfl ?_ | refine T.block ?_ | refine T.skip ?_ | refine T.ret ?_ | refine T.exit ?_ | (refine hK _ _ ?_; clear hK K) | clear hK K)
      exact hend w6 _ (by repeat (first | exact Less.nil _ | refine Less.cons rfl ?_)) hw26 hg.symm
    · rw [show decide ((k : Int) ≥ (most : Int)) = false by simpa using hmk]
      repeat (first | refine TL.move rfl rfl rfl ?_ | refine TL.assign rfl rfl rfl ?_ | refine TL.nilCheck rfl rfl rfl ?_ | refine TL.fieldAddr rfl rfl rfl ?_ | refine TL.convI rfl rfl rfl ?_ | refine TL.cmpI rfl rfl rfl rfl rfl ?_ | refine TL.arith rfl rfl rfl rfl rfl ?_ | refine TL.lenS rfl rfl rfl ?_ | refine TL.lenStr rfl rfl rfl ?_ | refine TL.not rfl rfl rfl ?_ | refine TL.skipG rfl rfl ?_ | refine TL.pickT rfl rfl rfl rfl ?_ | refine TL.pickF rfl rfl rfl rfl ?_ | refine TL.extract rfl rfl rfl rfl ?_ | refine TL.maxI rfl rfl rfl rfl ?_ | refine TL.minI rfl rfl rfl rfl ?_ | refine TL.nilCheckF rfl rfl rfl ?_ | refine TL.nil ?_ | refine T.seqK fun K hK => ?_ | refine T.region ?_ | refine T.condT rfl ?_ | refine T.condF rfl ?_ | refine T.block ?_ | refine T.skip ?_ | refine T.ret ?_ | refine T.exit ?_ | (refine hK _ _ ?_; clear hK K) | clear hK K)
      refine T.cond rfl (fun hd => ?_) (fun hd => ?_)
      · have hd' : 90 < (keyA a).length := by have := of_decide_eq_true hd; omega
        rw [if_pos (Or.inr hd')] at hg
        repeat (first | refine TL.move rfl rfl rfl ?_ | refine TL.assign rfl rfl rfl ?_ | refine TL.nilCheck rfl rfl rfl ?_ | refine TL.fieldAddr rfl rfl rfl ?_ | refine TL.convI rfl rfl rfl ?_ | refine TL.cmpI rfl rfl rfl rfl rfl ?_ | refine TL.arith rfl rfl rfl rfl rfl ?_ | refine TL.lenS rfl rfl rfl ?_ | refine TL.lenStr rfl rfl rfl ?_ | refine TL.not rfl rfl rfl ?_ | refine TL.skipG rfl rfl ?_ | refine TL.pickT rfl rfl rfl rfl ?_ | refine TL.pickF rfl rfl rfl rfl ?_ | refine TL.extract rfl rfl rfl rfl ?_ | refine TL.maxI rfl rfl rfl rfl ?_ | refine TL.minI rfl rfl rfl rfl ?_ | refine TL.nilCheckF rfl rfl rfl ?_ | refine TL.nil ?_ | refine T.seqK fun K hK => ?_ | refine T.region ?_ | refine T.condT rfl ?_ | refine T.condF rfl ?_ | refine T.block ?_ | refine T.skip ?_ | refine T.ret ?_ | refine T.exit ?_ | (refine hK _ _ ?_; clear hK K) | clear hK K)
        exact hend w6 _ (by repeat (first | exact Less.nil _ | refine Less.cons rfl ?_)) hw26 hg.symm
      · have hd' : (keyA a).length ≤ 90 := by have := of_decide_eq_false hd; omega
        have hkp := keyA_pos a
        have hvl : (a.val.take 100).length ≤ 100 := by simp; omega
        rw [if_neg (by omega)] at hg
        repeat (first | refine TL.move rfl rfl rfl ?_ | refine TL.assign rfl rfl rfl ?_ | refine TL.nilCheck rfl rfl rfl ?_ | refine TL.fieldAddr rfl rfl rfl ?_ | refine TL.convI rfl rfl rfl ?_ | refine TL.cmpI rfl rfl rfl rfl rfl ?_ | refine TL.arith rfl rfl rfl rfl rfl ?_ | refine TL.lenS rfl rfl rfl ?_ | refine TL.lenStr rfl rfl rfl ?_ | refine TL.not rfl rfl rfl ?_ | refine TL.skipG rfl rfl ?_ | refine TL.pickT rfl rfl rfl rfl ?_ | refine TL.pickF rfl rfl rfl rfl ?_ | refine TL.extract rfl rfl rfl rfl ?_ | refine TL.maxI rfl rfl rfl rfl ?_ | refine TL.minI rfl rfl rfl rfl ?_ | refine TL.nilCheckF rfl rfl rfl ?_ | refine TL.nil ?_ | refine T.seqK fun K hK => ?_ | refine T.region ?_ | refine T.condT rfl ?_ | refine T.condF rfl ?_ | refine T.block ?_ | refine T.skip ?_ | refine T.ret ?_ | refine T.exit ?_ | (refine hK _ _ ?_; clear hK K) | clear hK K)
        refine TL.loadR (v := .int .u8 (a.kind.toNat : Int)) rfl rfl rfl hr6 rfl ?_
        refine TL.arith rfl rfl rfl rfl rfl ?_
        refine TL.norm (v' := .int .u8 ((a.kind.toNat % 6 : Nat) : Int)) (by rw [Int.tmod_eq_emod_of_nonneg (by omega)]; rfl) ?_
        repeat (first | refine TL.move rfl rfl rfl ?_ | refine TL.assign rfl rfl rfl ?_ | refine TL.nilCheck rfl rfl rfl ?_ | refine TL.fieldAddr rfl rfl rfl ?_ | refine TL.convI rfl rfl rfl ?_ | refine TL.cmpI rfl rfl rfl rfl rfl ?_ | refine TL.arith rfl rfl rfl rfl rfl ?_ | refine TL.lenS rfl rfl rfl ?_ | refine TL.lenStr rfl rfl rfl ?_ | refine TL.not rfl rfl rfl ?_ | refine TL.skipG rfl rfl ?_ | refine TL.pickT rfl rfl rfl rfl ?_ | refine TL.pickF rfl rfl rfl rfl ?_ | refine TL.extract rfl rfl rfl rfl ?_ | refine TL.maxI rfl rfl rfl rfl ?_ | refine TL.minI rfl rfl rfl rfl ?_ | refine TL.nilCheckF rfl rfl rfl ?_ | refine TL.nil ?_ | refine T.seqK fun K hK => ?_ | refine T.region ?_ | refine T.condT rfl ?_ | refine T.condF rfl ?_ | refine T.block ?_ | refine T.skip ?_ | refine T.ret ?_ | refine T.exit ?_ | (refine hK _ _ ?_; clear hK K) | clear hK K)
        refine T.cond rfl (fun hq => ?_) (fun hq => ?_)
        · have hq' : a.kind.toNat % 6 < 4 := by have := of_decide_eq_true hq; omega
          rw [if_pos hq'] at hg
          have hgi' := hgi.put hd' hvl
          repeat (first | refine TL.move rfl rfl rfl ?_ | refine TL.assign rfl rfl rfl ?_ | refine TL.nilCheck rfl rfl rfl ?_ | refine TL.fieldAddr rfl rfl rfl ?_ | refine TL.convI rfl rfl rfl ?_ | refine TL.cmpI rfl rfl rfl rfl rfl ?_ | refine TL.arith rfl rfl rfl rfl rfl ?_ | refine TL.lenS rfl rfl rfl ?_ | refine TL.lenStr rfl rfl rfl ?_ | refine TL.not rfl rfl rfl ?_ | refine TL.skipG rfl rfl ?_ | refine TL.pickT rfl rfl rfl rfl ?_ | refine TL.pickF rfl rfl rfl rfl ?_ | refine TL.extract rfl rfl rfl rfl ?_ | refine TL.maxI rfl rfl rfl rfl ?_ | refine TL.minI rfl rfl rfl rfl ?_ | refine TL.nilCheckF rfl rfl rfl ?_ | refine TL.nil ?_ | refine T.seqK fun K hK => ?_ | refine T.region ?_ | refine T.condT rfl ?_ | refine T.condF rfl ?_ | refine T.block ?_ | refine T.skip ?_ | refine T.ret ?_ | refine T.exit ?_ | (refine hK _ _ ?_; clear hK K) | clear hK K)
          refine TL.call rfl rfl rfl (TPut_ret o tv _ vv (keyA a) (a.val.take 100) w6 (hW.ext hw6) (IsR.ext hw26 ht) hkey hval hkp (by omega) (by omega) hgi.fit (by have := hgi.sz; omega)) ?_
          rintro _ w7 ⟨hw67, tv', rfl, ht7⟩
          repeat (first | refine TL.move rfl rfl rfl ?_ | refine TL.assign rfl rfl rfl ?_ | refine TL.nilCheck rfl rfl rfl ?_ | refine TL.fieldAddr rfl rfl rfl ?_ | refine TL.convI rfl rfl rfl ?_ | refine TL.cmpI rfl rfl rfl rfl rfl ?_ | refine TL.arith rfl rfl rfl rfl rfl ?_ | refine TL.lenS rfl rfl rfl ?_ | refine TL.lenStr rfl rfl rfl ?_ | refine TL.not rfl rfl rfl ?_ | refine TL.skipG rfl rfl ?_ | refine TL.pickT rfl rfl rfl rfl ?_ | refine TL.pickF rfl rfl rfl rfl ?_ | refine TL.extract rfl rfl rfl rfl ?_ | refine TL.maxI rfl rfl rfl rfl ?_ | refine TL.minI rfl rfl rfl rfl ?_ | refine TL.nilCheckF rfl rfl rfl ?_ | refine TL.nil ?_ | refine T.seqK fun K hK => ?_ | refine T.region ?_ | refine T.condT rfl ?_ | refine T.condF rfl ?_ | refine T.block ?_ | refine T.skip ?_ | refine T.ret ?_ | refine T.exit ?_ | (refine hK _ _ ?_; clear hK K) | clear hK K)
          refine TL.call rfl rfl rfl (PutPair_ret lv _ vv l (keyA a) (a.val.take 100) w7 (hll.ext (hw26.trans hw67)) (hkey.ext hw67) (hval.ext hw67) (by have := hgi.len; omega)) ?_
          rintro lv' w8 ⟨hw78, hll8⟩
          repeat (first | refine TL.move rfl rfl rfl ?_ | refine TL.assign rfl rfl rfl ?_ | refine TL.nilCheck rfl rfl rfl ?_ | refine TL.fieldAddr rfl rfl rfl ?_ | refine TL.convI rfl rfl rfl ?_ | refine TL.cmpI rfl rfl rfl rfl rfl ?_ | refine TL.arith rfl rfl rfl rfl rfl ?_ | refine TL.lenS rfl rfl rfl ?_ | refine TL.lenStr rfl rfl rfl ?_ | refine TL.not rfl rfl rfl ?_ | refine TL.skipG rfl rfl ?_ | refine TL.pickT rfl rfl rfl rfl ?_ | refine TL.pickF rfl rfl rfl rfl ?_ | refine TL.extract rfl rfl rfl rfl ?_ | refine TL.maxI rfl rfl rfl rfl ?_ | refine TL.minI rfl rfl rfl rfl ?_ | refine TL.nilCheckF rfl rfl rfl ?_ | refine TL.nil ?_ | refine T.seqK fun K hK => ?_ | refine T.region ?_ | refine T.condT rfl ?_ | refine T.condF rfl ?_ | refine T.block ?_ | refine T.skip ?_ | refine T.ret ?_ | refine T.exit ?_ | (refine hK _ _ ?_; clear hK K) | clear hK K)
          refine ⟨m - 1, by omega, k + 1, tv', lv', _, _, ?_, hw6.trans (hw67.trans hw78), IsR.ext hw78 ht7, hll8, hgi', by omega, hg, by omega⟩
          repeat (first | exact Less.nil _ | refine Less.cons rfl ?_)
          refine Less.cons' rfl (by rw [wr_succ (by omega)]) ?_
          repeat (first | exact Less.nil _ | refine Less.cons rfl ?_)
        · have hq' : ¬ a.kind.toNat % 6 < 4 := by have := of_decide_eq_false hq; omega
          rw [if_neg hq'] at hg
          have hgi' := hgi.cut (k := keyA a)
          repeat (first | refine TL.move rfl rfl rfl ?_ | refine TL.assign rfl rfl rfl ?_ | refine TL.nilCheck rfl rfl rfl ?_ | refine TL.fieldAddr rfl rfl rfl ?_ | refine TL.convI rfl rfl rfl ?_ | refine TL.cmpI rfl rfl rfl rfl rfl ?_ | refine TL.arith rfl rfl rfl rfl rfl ?_ | refine TL.lenS rfl rfl rfl ?_ | refine TL.lenStr rfl rfl rfl ?_ | refine TL.not rfl rfl rfl ?_ | refine TL.skipG rfl rfl ?_ | refine TL.pickT rfl rfl rfl rfl ?_ | refine TL.pickF rfl rfl rfl rfl ?_ | refine TL.extract rfl rfl rfl rfl ?_ | refine TL.maxI rfl rfl rfl rfl ?_ | refine TL.minI rfl rfl rfl rfl ?_ | refine TL.nilCheckF rfl rfl rfl ?_ | refine TL.nil ?_ | refine T.seqK fun K hK => ?_ | refine T.region ?_ | refine T.condT rfl ?_ | refine T.condF rfl ?_ | refine T.block ?_ | refine T.skip ?_ | refine T.ret ?_ | refine T.exit ?_ | (refine hK _ _ ?_; clear hK K) | clear hK K)
          refine TL.call rfl rfl rfl (TCut_ret o tv _ (keyA a) w6 (hW.ext hw6) (IsR.ext hw26 ht) hkey hgi.fit (by have := hgi.sz; omega)) ?_
          rintro _ w7 ⟨hw67, tv', rfl, ht7⟩
          repeat (first | refine TL.move rfl rfl rfl ?_ | refine TL.assign rfl rfl rfl ?_ | refine TL.nilCheck rfl rfl rfl ?_ | refine TL.fieldAddr rfl rfl rfl ?_ | refine TL.convI rfl rfl rfl ?_ | refine TL.cmpI rfl rfl rfl rfl rfl ?_ | refine TL.arith rfl rfl rfl rfl rfl ?_ | refine TL.lenS rfl rfl rfl ?_ | refine TL.lenStr rfl rfl rfl ?_ | refine TL.not rfl rfl rfl ?_ | refine TL.skipG rfl rfl ?_ | refine TL.pickT rfl rfl rfl rfl ?_ | refine TL.pickF rfl rfl rfl rfl ?_ | refine TL.extract rfl rfl rfl rfl ?_ | refine TL.maxI rfl rfl rfl rfl ?_ | refine TL.minI rfl rfl rfl rfl ?_ | refine TL.nilCheckF rfl rfl rfl ?_ | refine TL.nil ?_ | refine T.seqK fun K hK => ?_ | refine T.region ?_ | refine T.condT rfl ?_ | refine T.condF rfl ?_ | refine T.block ?_ | refine T.skip ?_ | refine T.ret ?_ | refine T.exit ?_ | (refine hK _ _ ?_; clear hK K) | clear hK K)
          refine TL.call rfl rfl rfl (CutPair_ret lv _ l (keyA a) w7 (hll.ext (hw26.trans hw67)) (hkey.ext hw67) (by have := hgi.len; omega)) ?_
          rintro lv' w8 ⟨hw78, hll8⟩
          repeat (first | refine TL.move rfl rfl rfl ?_ | refine TL.assign rfl rfl rfl ?_ | refine TL.nilCheck rfl rfl rfl ?_ | refine TL.fieldAddr rfl rfl rfl ?_ | refine TL.convI rfl rfl rfl ?_ | refine TL.cmpI rfl rfl rfl rfl rfl ?_ | refine TL.arith rfl rfl rfl rfl rfl ?_ | refine TL.lenS rfl rfl rfl ?_ | refine TL.lenStr rfl rfl rfl ?_ | refine TL.not rfl rfl rfl ?_ | refine TL.skipG rfl rfl ?_ | refine TL.pickT rfl rfl rfl rfl ?_ | refine TL.pickF rfl rfl rfl rfl ?_ | refine TL.extract rfl rfl rfl rfl ?_ | refine TL.maxI rfl rfl rfl rfl ?_ | refine TL.minI rfl rfl rfl rfl ?_ | refine TL.nilCheckF rfl rfl rfl ?_ | refine TL.nil ?_ | refine T.seqK fun K hK => ?_ | refine T.region ?_ | refine T.condT rfl ?_ | refine T.condF rfl ?_ | refine T.block ?_ | refine T.skip ?_ | refine T.ret ?_ | refine T.exit ?_ | (refine hK _ _ ?_; clear hK K) | clear hK K)
          refine ⟨m - 1, by omega, k + 1, tv', lv', _, _, ?_, hw6.trans (hw67.trans hw78), IsR.ext hw78 ht7, hll8, hgi', by omega, hg, by omega⟩
          repeat (first | exact Less.nil _ | refine Less.cons rfl ?_)
          refine Less.cons' rfl (by rw [wr_succ (by omega)]) ?_
          repeat (first | exact Less.nil _ | refine Less.cons rfl ?_)
  · have hk : k = xs.length := by simp at hc; omega
    repeat (first | refine TL.move rfl rfl rfl ?_ | refine TL.assign rfl rfl rfl ?_ | refine TL.nilCheck rfl rfl rfl ?_ | refine TL.fieldAddr rfl rfl rfl ?_ | refine TL.convI rfl rfl rfl ?_ | refine TL.cmpI rfl rfl rfl rfl rfl ?_ | refine TL.arith rfl rfl rfl rfl rfl ?_ | refine TL.lenS rfl rfl rfl ?_ | refine TL.lenStr rfl rfl rfl ?_ | refine TL.not rfl rfl rfl ?_ | refine TL.skipG rfl rfl ?_ | refine TL.pickT rfl rfl rfl rfl ?_ | refine TL.pickF rfl rfl rfl rfl ?_ | refine TL.extract rfl rfl rfl rfl ?_ | refine TL.maxI rfl rfl rfl rfl ?_ | refine TL.minI rfl rfl rfl rfl ?_ | refine TL.nilCheckF rfl rfl rfl ?_ | refine TL.nil ?_ | refine T.seqK fun K hK => ?_ | (refine T.regionO fun ops => ?_) | refine T.condT rfl ?_ | refine T.condF rfl ?_ | refine T.block ?_ | refine T.skip ?_ | refine T.ret ?_ | refine T.exit ?_ | (refine hK _ _ ?_; clear hK K) | clear hK K | clear ops)
    refine hend w2 _ (by repeat (first | exact Less.nil _ | refine Less.cons rfl ?_)) (Ext.refl _) ?_
    rw [← hg, hk, List.drop_length]; rfl
end Go.Proofs
