/- What sha.Sum comes to. Conditions: the constants lie where they were laid; not more than 2^40 bytes. -/
import Derived.Test.YtflioeagjefkmaaDoorBlk
set_option linter.all false
namespace Go.Proofs
open Go.Fw Go.RowKit
attribute [local irreducible] TL T TS Ev Ret

/-- how many noughts are put behind -/
def zs (n : Nat) : Nat := (120 - (n + 1) % 64) % 64
def be8 (n : Nat) (j : Nat) : List UInt8 := (List.range j).map fun t => UInt8.ofNat (n / 2 ^ (56 - 8 * t))
/-- the bytes that are summed, with what is put behind -/
def padF (l : List UInt8) : List UInt8 := l ++ [0x80] ++ List.replicate (zs l.length) 0 ++ be8 (l.length * 8) 8
def h0 : List UInt32 := [0x6a09e667, 0xbb67ae85, 0x3c6ef372, 0xa54ff53a, 0x510e527f, 0x9b05688c, 0x1f83d9ab, 0x5be0cd19]
def blocks : Nat → List UInt32 → List UInt8 → List UInt32
  | 0, h, _ => h
  | k + 1, h, l => blocks k (blockF h l) (l.drop 64)
def outB (h : List UInt32) (j : Nat) : List UInt8 := (List.range j).map fun i => UInt8.ofNat ((h.getD (i / 4) 0) >>> UInt32.ofNat (24 - i % 4 * 8)).toNat
/-- the sum of bytes -/
def shaF (l : List UInt8) : List UInt8 := outB (blocks ((padF l).length / 64) h0 (padF l)) 32
theorem shaF_len (l : List UInt8) : (shaF l).length = 32 := by simp [shaF, outB]
theorem be8_len (n j : Nat) : (be8 n j).length = j := by simp [be8]
theorem padF_len (l : List UInt8) : (padF l).length % 64 = 0 := by
  unfold padF zs; simp [be8_len]; omega
theorem blockF_len (h : List UInt32) (l : List UInt8) (hh : h.length = 8) : (blockF h l).length = 8 := by
  obtain ⟨a, b, c, d, e, f, g, i, hv⟩ := rounds8 (sched l 48) h hh 64
  unfold blockF; rw [List.length_zipWith, hv, hh]; rfl
theorem blocks_len : ∀ (k : Nat) (h : List UInt32) (l : List UInt8), h.length = 8 → (blocks k h l).length = 8
  | 0, _, _, hh => hh
  | k + 1, h, l, hh => blocks_len k _ _ (blockF_len h l hh)
/-- only the first 64 bytes of a block count -/
theorem flat_take_succ {ls : List (List UInt8)} {k : Nat} {v : List UInt8} (h : ls[k]? = some v) : (ls.take (k + 1)).flatten = (ls.take k).flatten ++ v := by
  obtain ⟨hk, rfl⟩ := List.getElem?_eq_some_iff.1 h
  rw [List.take_succ_eq_append_getElem hk, List.flatten_append]; simp only [List.flatten_cons, List.flatten_nil, List.append_nil]
theorem flat_le (ls : List (List UInt8)) (k : Nat) : ((ls.take k).flatten).length ≤ ls.flatten.length := by
  have : ls.flatten = (ls.take k).flatten ++ (ls.drop k).flatten := by rw [← List.flatten_append, List.take_append_drop]
  rw [this]; simp

set_option maxRecDepth 20000 in
set_option maxHeartbeats 2000000 in
theorem Sum_ret {F G : Nat → Prop} (v : Value) (ls : List (List UInt8)) (w : World) (hK' : KW w) (h : BB F G w v ls) (hn : ls.length ≤ 2 ^ 40) (hl : ls.flatten.length ≤ 2 ^ 40) :
    Ret Tryd.prog 86 #[v] w fun r w' => r = .agg ((shaF ls.flatten).map vb).toArray ∧ Below w.heap.size w w' := by
  obtain ⟨vs, hr, hb⟩ := h
  obtain ⟨a, c, rfl, hr0⟩ := id hr
  refine Ret.of_T2 Tryd.func86 rfl Tryd.ntmps86 Tryd.results86 rfl ?_
  repeat (first | refine TL.move rfl rfl rfl ?_ | refine TL.assign rfl rfl rfl ?_ | refine TL.nilCheck rfl rfl rfl ?_ | refine TL.fieldAddr rfl rfl rfl ?_ | refine TL.convI rfl rfl rfl ?_ | refine TL.cmpI rfl rfl rfl rfl rfl ?_ | refine TL.arith rfl rfl rfl rfl rfl ?_ | refine TL.lenS rfl rfl rfl ?_ | refine TL.lenStr rfl rfl rfl ?_ | refine TL.not rfl rfl rfl ?_ | refine TL.skipG rfl rfl ?_ | refine TL.pickT rfl rfl rfl rfl ?_ | refine TL.pickF rfl rfl rfl rfl ?_ | refine TL.extract rfl rfl rfl rfl ?_ | refine TL.maxI rfl rfl rfl rfl ?_ | refine TL.minI rfl rfl rfl rfl ?_ | refine TL.nilCheckF rfl rfl rfl ?_ | refine TL.nil ?_ | refine T.seqK fun K hK => ?_ | (refine T.regionO fun ops => ?_) | refine T.condT rfl ?_ | refine T.condF rfl ?_ | refine T.block ?_ | refine T.skip ?_ | refine T.ret ?_ | refine T.exit ?_ | (refine hK _ _ ?_; clear hK K) | clear hK K | clear ops)
  refine TL.alloc rfl rfl fun b2 w1 hal => ?_
  have hO : Row w1 b2 ([] ++ (List.replicate 32 0).map vb ++ []) 54 (0, 0) := hal.at_
  repeat (first | refine TL.move rfl rfl rfl ?_ | refine TL.assign rfl rfl rfl ?_ | refine TL.nilCheck rfl rfl rfl ?_ | refine TL.fieldAddr rfl rfl rfl ?_ | refine TL.convI rfl rfl rfl ?_ | refine TL.cmpI rfl rfl rfl rfl rfl ?_ | refine TL.arith rfl rfl rfl rfl rfl ?_ | refine TL.lenS rfl rfl rfl ?_ | refine TL.lenStr rfl rfl rfl ?_ | refine TL.not rfl rfl rfl ?_ | refine TL.skipG rfl rfl ?_ | refine TL.pickT rfl rfl rfl rfl ?_ | refine TL.pickF rfl rfl rfl rfl ?_ | refine TL.extract rfl rfl rfl rfl ?_ | refine TL.maxI rfl rfl rfl rfl ?_ | refine TL.minI rfl rfl rfl rfl ?_ | refine TL.nilCheckF rfl rfl rfl ?_ | refine TL.nil ?_ | refine T.seqK fun K hK => ?_ | (refine T.regionO fun ops => ?_) | refine T.condT rfl ?_ | refine T.condF rfl ?_ | refine T.block ?_ | refine T.skip ?_ | refine T.ret ?_ | refine T.exit ?_ | (refine hK _ _ ?_; clear hK K) | clear hK K | clear ops)
  refine T.loop (fun m L w' => ∃ (k : Nat) (u : Value), Less [(2, .pointer (some ⟨b2, 0, none⟩)), (11, .slice a ls.length c), (12, .int .i64 ls.length), (13, .int .i64 k), (3, u)] L ∧ Fw.Acc w1.heap.size w1 w' 5 1 u (ls.take k).flatten.length ((ls.take k).flatten.map vb) ∧ k + m = ls.length) ls.length
    ⟨0, _, (by repeat (first | exact Less.nil _ | refine Less.cons rfl ?_)), Acc.nil _ _ _, by simp⟩ ?_
  have hbel1' : Below w.heap.size w w1 := hal.below
  have hb2w : w.heap.size ≤ b2 := by rw [hal.num]; exact Nat.le_refl _
  rintro m L w2 ⟨k, u, hL, hacc, hkm⟩
  refine T.sub hL ?_
  have hbel : Below w.heap.size w w2 := hal.below.trans (hacc.below.mono hal.below.size)
  have hlt2 : b2 < w1.heap.size := by rw [hal.size]; omega
  repeat (first | refine TL.move rfl rfl rfl ?_ | refine TL.assign rfl rfl rfl ?_ | refine TL.nilCheck rfl rfl rfl ?_ | refine TL.fieldAddr rfl rfl rfl ?_ | refine TL.convI rfl rfl rfl ?_ | refine TL.cmpI rfl rfl rfl rfl rfl ?_ | refine TL.arith rfl rfl rfl rfl rfl ?_ | refine TL.lenS rfl rfl rfl ?_ | refine TL.lenStr rfl rfl rfl ?_ | refine TL.not rfl rfl rfl ?_ | refine TL.skipG rfl rfl ?_ | refine TL.pickT rfl rfl rfl rfl ?_ | refine TL.pickF rfl rfl rfl rfl ?_ | refine TL.extract rfl rfl rfl rfl ?_ | refine TL.maxI rfl rfl rfl rfl ?_ | refine TL.minI rfl rfl rfl rfl ?_ | refine TL.nilCheckF rfl rfl rfl ?_ | refine TL.nil ?_ | refine T.seqK fun K hK => ?_ | (refine T.regionO fun ops => ?_) | refine T.condT rfl ?_ | refine T.condF rfl ?_ | refine T.block ?_ | refine T.skip ?_ | refine T.ret ?_ | refine T.exit ?_ | (refine hK _ _ ?_; clear hK K) | clear hK K | clear ops)
  refine T.cond rfl (fun hc => ?_) (fun hc => ?_)
  · have hk : k < ls.length := by simp at hc; omega
    obtain ⟨x, hx⟩ : ∃ x, ls[k]? = some x := ⟨_, List.getElem?_eq_getElem hk⟩
    obtain ⟨xv, hxv⟩ : ∃ xv, vs[k]? = some xv := ⟨_, List.getElem?_eq_getElem (by rw [hb.1]; exact hk)⟩
    have hxb : By G w xv x := hb.2 k xv x hxv hx
    have hstep := flat_take_succ hx
    have hle := flat_le ls (k + 1)
    rw [hstep] at hle
    simp at hle hl
    repeat (first | refine TL.move rfl rfl rfl ?_ | refine TL.assign rfl rfl rfl ?_ | refine TL.nilCheck rfl rfl rfl ?_ | refine TL.fieldAddr rfl rfl rfl ?_ | refine TL.convI rfl rfl rfl ?_ | refine TL.cmpI rfl rfl rfl rfl rfl ?_ | refine TL.arith rfl rfl rfl rfl rfl ?_ | refine TL.lenS rfl rfl rfl ?_ | refine TL.lenStr rfl rfl rfl ?_ | refine TL.not rfl rfl rfl ?_ | refine TL.skipG rfl rfl ?_ | refine TL.pickT rfl rfl rfl rfl ?_ | refine TL.pickF rfl rfl rfl rfl ?_ | refine TL.extract rfl rfl rfl rfl ?_ | refine TL.maxI rfl rfl rfl rfl ?_ | refine TL.minI rfl rfl rfl rfl ?_ | refine TL.nilCheckF rfl rfl rfl ?_ | refine TL.nil ?_ | refine T.seqK fun K hK => ?_ | (refine T.regionO fun ops => ?_) | refine T.condT rfl ?_ | refine T.condF rfl ?_ | refine T.block ?_ | refine T.skip ?_ | refine T.ret ?_ | refine T.exit ?_ | (refine hK _ _ ?_; clear hK K) | clear hK K | clear ops)
    refine TL.elem1 rfl rfl (fun _ => rfl) rfl rfl rfl (hr.keep (Same.ofBelow hbel _)) rfl hxv fun p => ?_
    repeat (first | refine TL.move rfl rfl rfl ?_ | refine TL.assign rfl rfl rfl ?_ | refine TL.nilCheck rfl rfl rfl ?_ | refine TL.fieldAddr rfl rfl rfl ?_ | refine TL.convI rfl rfl rfl ?_ | refine TL.cmpI rfl rfl rfl rfl rfl ?_ | refine TL.arith rfl rfl rfl rfl rfl ?_ | refine TL.lenS rfl rfl rfl ?_ | refine TL.lenStr rfl rfl rfl ?_ | refine TL.not rfl rfl rfl ?_ | refine TL.skipG rfl rfl ?_ | refine TL.pickT rfl rfl rfl rfl ?_ | refine TL.pickF rfl rfl rfl rfl ?_ | refine TL.extract rfl rfl rfl rfl ?_ | refine TL.maxI rfl rfl rfl rfl ?_ | refine TL.minI rfl rfl rfl rfl ?_ | refine TL.nilCheckF rfl rfl rfl ?_ | refine TL.nil ?_ | refine T.seqK fun K hK => ?_ | (refine T.regionO fun ops => ?_) | refine T.condT rfl ?_ | refine T.condF rfl ?_ | refine T.block ?_ | refine T.skip ?_ | refine T.ret ?_ | refine T.exit ?_ | (refine hK _ _ ?_; clear hK K) | clear hK K | clear ops)
    refine TL.push rfl rfl rfl rfl hacc (hxb.keep (Same.ofBelow hbel _)) (vb_all _) rfl (by simp; omega) (by simp [maxLen]; omega) fun u3 w5 hacc3 _ _ => ?_
    repeat (first | refine TL.move rfl rfl rfl ?_ | refine TL.assign rfl rfl rfl ?_ | refine TL.nilCheck rfl rfl rfl ?_ | refine TL.fieldAddr rfl rfl rfl ?_ | refine TL.convI rfl rfl rfl ?_ | refine TL.cmpI rfl rfl rfl rfl rfl ?_ | refine TL.arith rfl rfl rfl rfl rfl ?_ | refine TL.lenS rfl rfl rfl ?_ | refine TL.lenStr rfl rfl rfl ?_ | refine TL.not rfl rfl rfl ?_ | refine TL.skipG rfl rfl ?_ | refine TL.pickT rfl rfl rfl rfl ?_ | refine TL.pickF rfl rfl rfl rfl ?_ | refine TL.extract rfl rfl rfl rfl ?_ | refine TL.maxI rfl rfl rfl rfl ?_ | refine TL.minI rfl rfl rfl rfl ?_ | refine TL.nilCheckF rfl rfl rfl ?_ | refine TL.nil ?_ | refine T.seqK fun K hK => ?_ | (refine T.regionO fun ops => ?_) | refine T.condT rfl ?_ | refine T.condF rfl ?_ | refine T.block ?_ | refine T.skip ?_ | refine T.ret ?_ | refine T.exit ?_ | (refine hK _ _ ?_; clear hK K) | clear hK K | clear ops)
    refine ⟨m - 1, by omega, k + 1, u3, ?_, ?_, by omega⟩
    · repeat (first | exact Less.nil _ | refine Less.cons rfl ?_)
      refine Less.cons' rfl (by rw [wr_succ (by omega)]) ?_
      repeat (first | exact Less.nil _ | refine Less.cons rfl ?_)
    · rw [hstep]; exact hacc3.toB (by simp)
  · have hk : k = ls.length := by simp at hc; omega
    subst hk
    rw [List.take_length] at hacc
    generalize ls.flatten = l at *
    clear hr hb hr0 hL hal hkm
    have hO2 : Row w2 b2 ([] ++ (List.replicate 32 0).map vb ++ []) 54 (0, 0) := hO.keep hacc.below hlt2
    obtain ⟨ua, uc, rfl⟩ := hacc.shape
    repeat (first | refine TL.move rfl rfl rfl ?_ | refine TL.assign rfl rfl rfl ?_ | refine TL.nilCheck rfl rfl rfl ?_ | refine TL.fieldAddr rfl rfl rfl ?_ | refine TL.convI rfl rfl rfl ?_ | refine TL.cmpI rfl rfl rfl rfl rfl ?_ | refine TL.arith rfl rfl rfl rfl rfl ?_ | refine TL.lenS rfl rfl rfl ?_ | refine TL.lenStr rfl rfl rfl ?_ | refine TL.not rfl rfl rfl ?_ | refine TL.skipG rfl rfl ?_ | refine TL.pickT rfl rfl rfl rfl ?_ | refine TL.pickF rfl rfl rfl rfl ?_ | refine TL.extract rfl rfl rfl rfl ?_ | refine TL.maxI rfl rfl rfl rfl ?_ | refine TL.minI rfl rfl rfl rfl ?_ | refine TL.nilCheckF rfl rfl rfl ?_ | refine TL.nil ?_ | refine T.seqK fun K hK => ?_ | (refine T.regionO fun ops => ?_) | refine T.condT rfl ?_ | refine T.condF rfl ?_ | refine T.block ?_ | refine T.skip ?_ | refine T.ret ?_ | refine T.exit ?_ | (refine hK _ _ ?_; clear hK K) | clear hK K | clear ops)
    have hnb : IntKind.u64.wrap (IntKind.u64.wrap (l.length : Int) * 8) = ((l.length * 8 : Nat) : Int) := by
      rw [wr_u64 (x := (l.length : Int)) (by omega) (by omega), wr_u64 (by omega) (by omega)]; push_cast; rfl
    rw [hnb]
    refine TL.buildSlice (vs := [vb 0x80]) rfl rfl rfl rfl rfl (by simp [vb_oneCell]) rfl fun k2 w3 hal2 => ?_
    have hrd : By (· = k2) w3 _ [0x80] := hal2.rd rfl (by simp [maxLen])
    refine TL.push rfl rfl rfl rfl (hacc.keep hal2.below) hrd (vb_all _) rfl (by simp; omega) (by simp [maxLen]; omega) fun u2 w4 hacc2 _ _ => ?_
    repeat (first | refine TL.move rfl rfl rfl ?_ | refine TL.assign rfl rfl rfl ?_ | refine TL.nilCheck rfl rfl rfl ?_ | refine TL.fieldAddr rfl rfl rfl ?_ | refine TL.convI rfl rfl rfl ?_ | refine TL.cmpI rfl rfl rfl rfl rfl ?_ | refine TL.arith rfl rfl rfl rfl rfl ?_ | refine TL.lenS rfl rfl rfl ?_ | refine TL.lenStr rfl rfl rfl ?_ | refine TL.not rfl rfl rfl ?_ | refine TL.skipG rfl rfl ?_ | refine TL.pickT rfl rfl rfl rfl ?_ | refine TL.pickF rfl rfl rfl rfl ?_ | refine TL.extract rfl rfl rfl rfl ?_ | refine TL.maxI rfl rfl rfl rfl ?_ | refine TL.minI rfl rfl rfl rfl ?_ | refine TL.nilCheckF rfl rfl rfl ?_ | refine TL.nil ?_ | refine T.seqK fun K hK => ?_ | (refine T.regionO fun ops => ?_) | refine T.condT rfl ?_ | refine T.condF rfl ?_ | refine T.block ?_ | refine T.skip ?_ | refine T.ret ?_ | refine T.exit ?_ | (refine hK _ _ ?_; clear hK K) | clear hK K | clear ops)
    refine T.loop (fun m L w' => ∃ (k : Nat) (u : Value), Less [(2, .pointer (some ⟨b2, 0, none⟩)), (6, .int .u64 ((l.length * 8 : Nat) : Int)), (3, u)] L ∧ Fw.Acc w1.heap.size w1 w' 5 1 u (l ++ [0x80] ++ List.replicate k 0).length ((l ++ [0x80] ++ List.replicate k 0).map vb) ∧ k + m = zs l.length) (zs l.length)
      ⟨0, _, (by repeat (first | exact Less.nil _ | refine Less.cons rfl ?_)), hacc2.toB (by simp), by simp⟩ ?_
    clear hacc hacc2 hO2
    have hbel1 : Below w.heap.size w w1 := hbel1'
    clear hbel
    rintro m2 L2 w5 ⟨k, u, hL, hacc, hkm⟩
    obtain ⟨ua, uc, rfl⟩ := hacc.shape
    refine T.sub hL ?_
    have hz : zs l.length < 64 := by unfold zs; omega
    repeat (first | refine TL.move rfl rfl rfl ?_ | refine TL.assign rfl rfl rfl ?_ | refine TL.nilCheck rfl rfl rfl ?_ | refine TL.fieldAddr rfl rfl rfl ?_ | refine TL.convI rfl rfl rfl ?_ | refine TL.cmpI rfl rfl rfl rfl rfl ?_ | refine TL.arith rfl rfl rfl rfl rfl ?_ | refine TL.lenS rfl rfl rfl ?_ | refine TL.lenStr rfl rfl rfl ?_ | refine TL.not rfl rfl rfl ?_ | refine TL.skipG rfl rfl ?_ | refine TL.pickT rfl rfl rfl rfl ?_ | refine TL.pickF rfl rfl rfl rfl ?_ | refine TL.extract rfl rfl rfl rfl ?_ | refine TL.maxI rfl rfl rfl rfl ?_ | refine TL.minI rfl rfl rfl rfl ?_ | refine TL.nilCheckF rfl rfl rfl ?_ | refine TL.nil ?_ | refine T.seqK fun K hK => ?_ | (refine T.regionO fun ops => ?_) | refine T.condT rfl ?_ | refine T.condF rfl ?_ | refine T.block ?_ | refine T.skip ?_ | refine T.ret ?_ | refine T.exit ?_ | (refine hK _ _ ?_; clear hK K) | clear hK K | clear ops)
    refine T.cond rfl (fun hc => ?_) (fun hc => ?_)
    · have hk : k < zs l.length := by
        rcases Nat.lt_or_ge k (zs l.length) with h | h
        · exact h
        · have : k = zs l.length := by omega
          subst this
          exfalso
          rw [Int.tmod_eq_emod_of_nonneg (by omega)] at hc
          simp at hc
          apply hc
          unfold zs; omega
      repeat (first | refine TL.move rfl rfl rfl ?_ | refine TL.assign rfl rfl rfl ?_ | refine TL.nilCheck rfl rfl rfl ?_ | refine TL.fieldAddr rfl rfl rfl ?_ | refine TL.convI rfl rfl rfl ?_ | refine TL.cmpI rfl rfl rfl rfl rfl ?_ | refine TL.arith rfl rfl rfl rfl rfl ?_ | refine TL.lenS rfl rfl rfl ?_ | refine TL.lenStr rfl rfl rfl ?_ | refine TL.not rfl rfl rfl ?_ | refine TL.skipG rfl rfl ?_ | refine TL.pickT rfl rfl rfl rfl ?_ | refine TL.pickF rfl rfl rfl rfl ?_ | refine TL.extract rfl rfl rfl rfl ?_ | refine TL.maxI rfl rfl rfl rfl ?_ | refine TL.minI rfl rfl rfl rfl ?_ | refine TL.nilCheckF rfl rfl rfl ?_ | refine TL.nil ?_ | refine T.seqK fun K hK => ?_ | (refine T.regionO fun ops => ?_) | refine T.condT rfl ?_ | refine T.condF rfl ?_ | refine T.block ?_ | refine T.skip ?_ | refine T.ret ?_ | refine T.exit ?_ | (refine hK _ _ ?_; clear hK K) | clear hK K | clear ops)
      refine TL.buildSlice (vs := [vb 0]) rfl rfl rfl rfl rfl (by simp [vb_oneCell]) rfl fun k2 w3 hal2 => ?_
      have hrd : By (· = k2) w3 _ [0] := hal2.rd rfl (by simp [maxLen])
      refine TL.push rfl rfl rfl rfl (hacc.keep hal2.below) hrd (vb_all _) rfl (by simp; omega) (by simp [maxLen]; omega) fun u2 w4 hacc2 _ _ => ?_
      repeat (first | refine TL.move rfl rfl rfl ?_ | refine TL.assign rfl rfl rfl ?_ | refine TL.nilCheck rfl rfl rfl ?_ | refine TL.fieldAddr rfl rfl rfl ?_ | refine TL.convI rfl rfl rfl ?_ | refine TL.cmpI rfl rfl rfl rfl rfl ?_ | refine TL.arith rfl rfl rfl rfl rfl ?_ | refine TL.lenS rfl rfl rfl ?_ | refine TL.lenStr rfl rfl rfl ?_ | refine TL.not rfl rfl rfl ?_ | refine TL.skipG rfl rfl ?_ | refine TL.pickT rfl rfl rfl rfl ?_ | refine TL.pickF rfl rfl rfl rfl ?_ | refine TL.extract rfl rfl rfl rfl ?_ | refine TL.maxI rfl rfl rfl rfl ?_ | refine TL.minI rfl rfl rfl rfl ?_ | refine TL.nilCheckF rfl rfl rfl ?_ | refine TL.nil ?_ | refine T.seqK fun K hK => ?_ | (refine T.regionO fun ops => ?_) | refine T.condT rfl ?_ | refine T.condF rfl ?_ | refine T.block ?_ | refine T.skip ?_ | refine T.ret ?_ | refine T.exit ?_ | (refine hK _ _ ?_; clear hK K) | clear hK K | clear ops)
      refine ⟨m2 - 1, by omega, k + 1, u2, ?_, ?_, by omega⟩
      · repeat (first | exact Less.nil _ | refine Less.cons rfl ?_)
      · exact hacc2.toB (by simp [List.replicate_succ'])
    · have hk : k = zs l.length := by
        rw [Int.tmod_eq_emod_of_nonneg (by omega)] at hc
        simp at hc
        unfold zs at hkm hz ⊢; omega
      subst hk
      repeat (first | refine TL.move rfl rfl rfl ?_ | refine TL.assign rfl rfl rfl ?_ | refine TL.nilCheck rfl rfl rfl ?_ | refine TL.fieldAddr rfl rfl rfl ?_ | refine TL.convI rfl rfl rfl ?_ | refine TL.cmpI rfl rfl rfl rfl rfl ?_ | refine TL.arith rfl rfl rfl rfl rfl ?_ | refine TL.lenS rfl rfl rfl ?_ | refine TL.lenStr rfl rfl rfl ?_ | refine TL.not rfl rfl rfl ?_ | refine TL.skipG rfl rfl ?_ | refine TL.pickT rfl rfl rfl rfl ?_ | refine TL.pickF rfl rfl rfl rfl ?_ | refine TL.extract rfl rfl rfl rfl ?_ | refine TL.maxI rfl rfl rfl rfl ?_ | refine TL.minI rfl rfl rfl rfl ?_ | refine TL.nilCheckF rfl rfl rfl ?_ | refine TL.nil ?_ | refine T.seqK fun K hK => ?_ | (refine T.regionO fun ops => ?_) | refine T.condT rfl ?_ | refine T.condF rfl ?_ | refine T.block ?_ | refine T.skip ?_ | refine T.ret ?_ | refine T.exit ?_ | (refine hK _ _ ?_; clear hK K) | clear hK K | clear ops)
      refine T.loop (fun m L w' => ∃ (j : Nat) (u : Value), Less [(2, .pointer (some ⟨b2, 0, none⟩)), (6, .int .u64 ((l.length * 8 : Nat) : Int)), (7, .int .i64 (56 - 8 * (j : Int))), (3, u)] L ∧ Fw.Acc w1.heap.size w1 w' 5 1 u (l ++ [0x80] ++ List.replicate (zs l.length) 0 ++ be8 (l.length * 8) j).length ((l ++ [0x80] ++ List.replicate (zs l.length) 0 ++ be8 (l.length * 8) j).map vb) ∧ j + m = 8) 8
        ⟨0, _, (by repeat (first | exact Less.nil _ | refine Less.cons rfl ?_)), hacc.toB (by simp [be8]), rfl⟩ ?_
      clear hacc hkm hL
      rintro m3 L3 w6 ⟨j, u, hL, hacc, hkm⟩
      obtain ⟨ua, uc, rfl⟩ := hacc.shape
      refine T.sub hL ?_
      repeat (first | refine TL.move rfl rfl rfl ?_ | refine TL.assign rfl rfl rfl ?_ | refine TL.nilCheck rfl rfl rfl ?_ | refine TL.fieldAddr rfl rfl rfl ?_ | refine TL.convI rfl rfl rfl ?_ | refine TL.cmpI rfl rfl rfl rfl rfl ?_ | refine TL.arith rfl rfl rfl rfl rfl ?_ | refine TL.lenS rfl rfl rfl ?_ | refine TL.lenStr rfl rfl rfl ?_ | refine TL.not rfl rfl rfl ?_ | refine TL.skipG rfl rfl ?_ | refine TL.pickT rfl rfl rfl rfl ?_ | refine TL.pickF rfl rfl rfl rfl ?_ | refine TL.extract rfl rfl rfl rfl ?_ | refine TL.maxI rfl rfl rfl rfl ?_ | refine TL.minI rfl rfl rfl rfl ?_ | refine TL.nilCheckF rfl rfl rfl ?_ | refine TL.nil ?_ | refine T.seqK fun K hK => ?_ | (refine T.regionO fun ops => ?_) | refine T.condT rfl ?_ | refine T.condF rfl ?_ | refine T.block ?_ | refine T.skip ?_ | refine T.ret ?_ | refine T.exit ?_ | (refine hK _ _ ?_; clear hK K) | clear hK K | clear ops)
      refine T.cond rfl (fun hc => ?_) (fun hc => ?_)
      · have hj : j < 8 := by simp at hc; omega
        repeat (first | refine TL.move rfl rfl rfl ?_ | refine TL.assign rfl rfl rfl ?_ | refine TL.nilCheck rfl rfl rfl ?_ | refine TL.fieldAddr rfl rfl rfl ?_ | refine TL.convI rfl rfl rfl ?_ | refine TL.cmpI rfl rfl rfl rfl rfl ?_ | refine TL.arith rfl rfl rfl rfl rfl ?_ | refine TL.lenS rfl rfl rfl ?_ | refine TL.lenStr rfl rfl rfl ?_ | refine TL.not rfl rfl rfl ?_ | refine TL.skipG rfl rfl ?_ | refine TL.pickT rfl rfl rfl rfl ?_ | refine TL.pickF rfl rfl rfl rfl ?_ | refine TL.extract rfl rfl rfl rfl ?_ | refine TL.maxI rfl rfl rfl rfl ?_ | refine TL.minI rfl rfl rfl rfl ?_ | refine TL.nilCheckF rfl rfl rfl ?_ | refine TL.nil ?_ | refine T.seqK fun K hK => ?_ | (refine T.regionO fun ops => ?_) | refine T.condT rfl ?_ | refine T.condF rfl ?_ | refine T.block ?_ | refine T.skip ?_ | refine T.ret ?_ | refine T.exit ?_ | (refine hK _ _ ?_; clear hK K) | clear hK K | clear ops)
        refine TL.shr rfl rfl rfl rfl (by omega) ?_
        refine TL.norm (v' := .int .u64 ((l.length * 8 / 2 ^ (56 - 8 * j) : Nat) : Int)) (by rw [fdiv_nat]; congr 4; simp [IntKind.bits]; omega) ?_
        refine TL.convI rfl rfl rfl ?_
        refine TL.norm (v' := vb (UInt8.ofNat (l.length * 8 / 2 ^ (56 - 8 * j)))) (by rw [wr_u8_nat]; rfl) ?_
        refine TL.buildSlice (vs := [vb _]) rfl rfl rfl rfl rfl (by simp [vb_oneCell]) rfl fun k2 w3 hal2 => ?_
        have hrd : By (· = k2) w3 _ [UInt8.ofNat (l.length * 8 / 2 ^ (56 - 8 * j))] := hal2.rd rfl (by simp [maxLen])
        refine TL.push rfl rfl rfl rfl (hacc.keep hal2.below) hrd (vb_all _) rfl (by simp [be8_len]; omega) (by simp [maxLen, be8_len]; omega) fun u2 w4 hacc2 _ _ => ?_
        repeat (first | refine TL.move rfl rfl rfl ?_ | refine TL.assign rfl rfl rfl ?_ | refine TL.nilCheck rfl rfl rfl ?_ | refine TL.fieldAddr rfl rfl rfl ?_ | refine TL.convI rfl rfl rfl ?_ | refine TL.cmpI rfl rfl rfl rfl rfl ?_ | refine TL.arith rfl rfl rfl rfl rfl ?_ | refine TL.lenS rfl rfl rfl ?_ | refine TL.lenStr rfl rfl rfl ?_ | refine TL.not rfl rfl rfl ?_ | refine TL.skipG rfl rfl ?_ | refine TL.pickT rfl rfl rfl rfl ?_ | refine TL.pickF rfl rfl rfl rfl ?_ | refine TL.extract rfl rfl rfl rfl ?_ | refine TL.maxI rfl rfl rfl rfl ?_ | refine TL.minI rfl rfl rfl rfl ?_ | refine TL.nilCheckF rfl rfl rfl ?_ | refine TL.nil ?_ | refine T.seqK fun K hK => ?_ | (refine T.regionO fun ops => ?_) | refine T.condT rfl ?_ | refine T.condF rfl ?_ | refine T.block ?_ | refine T.skip ?_ | refine T.ret ?_ | refine T.exit ?_ | (refine hK _ _ ?_; clear hK K) | clear hK K | clear ops)
        refine ⟨m3 - 1, by omega, j + 1, u2, ?_, ?_, by omega⟩
        · repeat (first | exact Less.nil _ | refine Less.cons rfl ?_)
          refine Less.cons' rfl (by rw [wr_i64 (by omega) (by omega)]; congr 1; omega) ?_
          repeat (first | exact Less.nil _ | refine Less.cons rfl ?_)
        · exact hacc2.toB (by simp [be8, List.range_succ])
      · have hj : j = 8 := by simp at hc; omega
        subst hj
        have hpad : l ++ [0x80] ++ List.replicate (zs l.length) 0 ++ be8 (l.length * 8) 8 = padF l := rfl
        rw [hpad] at hacc ⊢
        have hpl : (padF l).length ≤ 2 ^ 41 := by unfold padF; simp [be8_len]; omega
        have hpm := padF_len l
        have hres : shaF l = outB (blocks ((padF l).length / 64) h0 (padF l)) 32 := rfl
        generalize padF l = p at *
        clear hpad
        have hrd := hacc.by_
        repeat (first | refine TL.move rfl rfl rfl ?_ | refine TL.assign rfl rfl rfl ?_ | refine TL.nilCheck rfl rfl rfl ?_ | refine TL.fieldAddr rfl rfl rfl ?_ | refine TL.convI rfl rfl rfl ?_ | refine TL.cmpI rfl rfl rfl rfl rfl ?_ | refine TL.arith rfl rfl rfl rfl rfl ?_ | refine TL.lenS rfl rfl rfl ?_ | refine TL.lenStr rfl rfl rfl ?_ | refine TL.not rfl rfl rfl ?_ | refine TL.skipG rfl rfl ?_ | refine TL.pickT rfl rfl rfl rfl ?_ | refine TL.pickF rfl rfl rfl rfl ?_ | refine TL.extract rfl rfl rfl rfl ?_ | refine TL.maxI rfl rfl rfl rfl ?_ | refine TL.minI rfl rfl rfl rfl ?_ | refine TL.nilCheckF rfl rfl rfl ?_ | refine TL.nil ?_ | refine T.seqK fun K hK => ?_ | (refine T.regionO fun ops => ?_) | refine T.condT rfl ?_ | refine T.condF rfl ?_ | refine T.block ?_ | refine T.skip ?_ | refine T.ret ?_ | refine T.exit ?_ | (refine hK _ _ ?_; clear hK K) | clear hK K | clear ops)
        refine TL.ev rfl rfl (Ev.buildA (vs := h0.map vu) rfl rfl rfl (by intro v hv; obtain ⟨x, _, rfl⟩ := List.mem_map.1 hv; rfl)) ?_
        refine TL.alloc rfl rfl fun b8 w7 hal8 => ?_
        have hz8 : Row w7 b8 ([] ++ (List.replicate 8 0).map vu ++ []) 229 (0, 0) := hal8.at_
        refine TL.storeRA (xs := h0.map vu) rfl rfl rfl hz8 rfl (by simp [Value.cells]) rfl rfl (by intro u hu; obtain ⟨x, _, rfl⟩ := List.mem_map.1 hu; rfl) fun w8 hgr8 hH8 hsz8 => ?_
        simp only [List.nil_append, List.append_nil] at hH8
        have hbel6 : Below w.heap.size w w6 := hbel1.trans (hacc.below.mono hbel1.size)
        have hbel7 := hbel6.trans (hal8.below.mono hbel6.size)
        have hb8 : w.heap.size ≤ b8 := by rw [hal8.num]; exact hbel6.size
        have hbel8 : Below w.heap.size w w8 := hbel7.trans (below_grown hgr8 hb8 hbel7.size)
        have hlt6 : w1.heap.size ≤ w6.heap.size := hacc.below.size
        have hrd8 : By (· < b8) w8 (.slice ua p.length uc) p := by
          have h6 : By (· < b8) w6 (.slice ua p.length uc) p := by rw [hal8.num]; exact hrd.ltSize.sub fun k hk => hk.2
          exact (h6.keep (Same.ofBelow hal8.below _)).keep (Same.ofGrown hgr8 fun k hk => by simp <;> omega)
        have hO8 : Row w8 b2 ((List.replicate 32 0).map vb) 54 (0, 0) := by
          have h6 := hO.keep hacc.below hlt2
          have h7 := (h6.keepA hal8.below).keepG hgr8 (by rw [hal8.num]; simp; omega)
          simpa using h7
        have hb28 : b2 < b8 := by rw [hal8.num]; omega
        clear hacc hL hkm hrd hal8 hgr8 hsz8 hz8 hbel6 hbel7
        repeat (first | refine TL.move rfl rfl rfl ?_ | refine TL.assign rfl rfl rfl ?_ | refine TL.nilCheck rfl rfl rfl ?_ | refine TL.fieldAddr rfl rfl rfl ?_ | refine TL.convI rfl rfl rfl ?_ | refine TL.cmpI rfl rfl rfl rfl rfl ?_ | refine TL.arith rfl rfl rfl rfl rfl ?_ | refine TL.lenS rfl rfl rfl ?_ | refine TL.lenStr rfl rfl rfl ?_ | refine TL.not rfl rfl rfl ?_ | refine TL.skipG rfl rfl ?_ | refine TL.pickT rfl rfl rfl rfl ?_ | refine TL.pickF rfl rfl rfl rfl ?_ | refine TL.extract rfl rfl rfl rfl ?_ | refine TL.maxI rfl rfl rfl rfl ?_ | refine TL.minI rfl rfl rfl rfl ?_ | refine TL.nilCheckF rfl rfl rfl ?_ | refine TL.nil ?_ | refine T.seqK fun K hK => ?_ | (refine T.regionO fun ops => ?_) | refine T.condT rfl ?_ | refine T.condF rfl ?_ | refine T.block ?_ | refine T.skip ?_ | refine T.ret ?_ | refine T.exit ?_ | (refine hK _ _ ?_; clear hK K) | clear hK K | clear ops)
        refine T.loop (fun m L w' => ∃ (k : Nat) (u : Value) (h : List UInt32), Less [(2, .pointer (some ⟨b2, 0, none⟩)), (8, .pointer (some ⟨b8, 0, none⟩)), (3, u)] L ∧ Below w.heap.size w w' ∧ By (· < b8) w' u (p.drop (64 * k)) ∧ Row w' b8 (h.map vu) 229 (0, 0) ∧ h.length = 8 ∧
            blocks m h (p.drop (64 * k)) = blocks (p.length / 64) h0 p ∧ Row w' b2 ((List.replicate 32 0).map vb) 54 (0, 0) ∧ k + m = p.length / 64) (p.length / 64)
          ⟨0, _, h0, (by repeat (first | exact Less.nil _ | refine Less.cons rfl ?_)), hbel8, by simpa using hrd8, hH8, rfl, by simp, hO8, by omega⟩ ?_
        clear hbel8 hrd8 hH8 hO8
        rintro m4 L4 w9 ⟨k, u, h, hL, hbel, hrd, hH, hh8, hbl, hO9, hkm⟩
        obtain ⟨ua, uc, rfl, huc⟩ := hrd.shape
        refine T.sub hL ?_
        have hlen : (p.drop (64 * k)).length = 64 * m4 := by simp; omega
        repeat (first | refine TL.move rfl rfl rfl ?_ | refine TL.assign rfl rfl rfl ?_ | refine TL.nilCheck rfl rfl rfl ?_ | refine TL.fieldAddr rfl rfl rfl ?_ | refine TL.convI rfl rfl rfl ?_ | refine TL.cmpI rfl rfl rfl rfl rfl ?_ | refine TL.arith rfl rfl rfl rfl rfl ?_ | refine TL.lenS rfl rfl rfl ?_ | refine TL.lenStr rfl rfl rfl ?_ | refine TL.not rfl rfl rfl ?_ | refine TL.skipG rfl rfl ?_ | refine TL.pickT rfl rfl rfl rfl ?_ | refine TL.pickF rfl rfl rfl rfl ?_ | refine TL.extract rfl rfl rfl rfl ?_ | refine TL.maxI rfl rfl rfl rfl ?_ | refine TL.minI rfl rfl rfl rfl ?_ | refine TL.nilCheckF rfl rfl rfl ?_ | refine TL.nil ?_ | refine T.seqK fun K hK => ?_ | (refine T.regionO fun ops => ?_) | refine T.condT rfl ?_ | refine T.condF rfl ?_ | refine T.block ?_ | refine T.skip ?_ | refine T.ret ?_ | refine T.exit ?_ | (refine hK _ _ ?_; clear hK K) | clear hK K | clear ops)
        refine T.cond rfl (fun hc => ?_) (fun hc => ?_)
        · have hm4 : 0 < m4 := by
            rw [hlen] at hc; simp at hc; try omega
          repeat (first | refine TL.move rfl rfl rfl ?_ | refine TL.assign rfl rfl rfl ?_ | refine TL.nilCheck rfl rfl rfl ?_ | refine TL.fieldAddr rfl rfl rfl ?_ | refine TL.convI rfl rfl rfl ?_ | refine TL.cmpI rfl rfl rfl rfl rfl ?_ | refine TL.arith rfl rfl rfl rfl rfl ?_ | refine TL.lenS rfl rfl rfl ?_ | refine TL.lenStr rfl rfl rfl ?_ | refine TL.not rfl rfl rfl ?_ | refine TL.skipG rfl rfl ?_ | refine TL.pickT rfl rfl rfl rfl ?_ | refine TL.pickF rfl rfl rfl rfl ?_ | refine TL.extract rfl rfl rfl rfl ?_ | refine TL.maxI rfl rfl rfl rfl ?_ | refine TL.minI rfl rfl rfl rfl ?_ | refine TL.nilCheckF rfl rfl rfl ?_ | refine TL.nil ?_ | refine T.seqK fun K hK => ?_ | (refine T.regionO fun ops => ?_) | refine T.condT rfl ?_ | refine T.condF rfl ?_ | refine T.block ?_ | refine T.skip ?_ | refine T.ret ?_ | refine T.exit ?_ | (refine hK _ _ ?_; clear hK K) | clear hK K | clear ops)
          refine TL.call rfl rfl rfl (Block_ret b8 _ _ h _ w9 (hK'.keep hbel) (by omega) hrd hh8 hH) ?_
          rintro r w10 ⟨rfl, hgr, hH10⟩
          have hbel10 : Below w.heap.size w w10 := hbel.trans (below_grown hgr hb8 hbel.size)
          repeat (first | refine TL.move rfl rfl rfl ?_ | refine TL.assign rfl rfl rfl ?_ | refine TL.nilCheck rfl rfl rfl ?_ | refine TL.fieldAddr rfl rfl rfl ?_ | refine TL.convI rfl rfl rfl ?_ | refine TL.cmpI rfl rfl rfl rfl rfl ?_ | refine TL.arith rfl rfl rfl rfl rfl ?_ | refine TL.lenS rfl rfl rfl ?_ | refine TL.lenStr rfl rfl rfl ?_ | refine TL.not rfl rfl rfl ?_ | refine TL.skipG rfl rfl ?_ | refine TL.pickT rfl rfl rfl rfl ?_ | refine TL.pickF rfl rfl rfl rfl ?_ | refine TL.extract rfl rfl rfl rfl ?_ | refine TL.maxI rfl rfl rfl rfl ?_ | refine TL.minI rfl rfl rfl rfl ?_ | refine TL.nilCheckF rfl rfl rfl ?_ | refine TL.nil ?_ | refine T.seqK fun K hK => ?_ | (refine T.regionO fun ops => ?_) | refine T.condT rfl ?_ | refine T.condF rfl ?_ | refine T.block ?_ | refine T.skip ?_ | refine T.ret ?_ | refine T.exit ?_ | (refine hK _ _ ?_; clear hK K) | clear hK K | clear ops)
          refine TL.ev rfl rfl (Ev.sliceS (lw := 64) (hw := (p.drop (64 * k)).length) rfl rfl rfl (by omega) huc) ?_
          repeat (first | refine TL.move rfl rfl rfl ?_ | refine TL.assign rfl rfl rfl ?_ | refine TL.nilCheck rfl rfl rfl ?_ | refine TL.fieldAddr rfl rfl rfl ?_ | refine TL.convI rfl rfl rfl ?_ | refine TL.cmpI rfl rfl rfl rfl rfl ?_ | refine TL.arith rfl rfl rfl rfl rfl ?_ | refine TL.lenS rfl rfl rfl ?_ | refine TL.lenStr rfl rfl rfl ?_ | refine TL.not rfl rfl rfl ?_ | refine TL.skipG rfl rfl ?_ | refine TL.pickT rfl rfl rfl rfl ?_ | refine TL.pickF rfl rfl rfl rfl ?_ | refine TL.extract rfl rfl rfl rfl ?_ | refine TL.maxI rfl rfl rfl rfl ?_ | refine TL.minI rfl rfl rfl rfl ?_ | refine TL.nilCheckF rfl rfl rfl ?_ | refine TL.nil ?_ | refine T.seqK fun K hK => ?_ | (refine T.regionO fun ops => ?_) | refine T.condT rfl ?_ | refine T.condF rfl ?_ | refine T.block ?_ | refine T.skip ?_ | refine T.ret ?_ | refine T.exit ?_ | (refine hK _ _ ?_; clear hK K) | clear hK K | clear ops)
          obtain ⟨m5, rfl⟩ : ∃ m5, m4 = m5 + 1 := ⟨m4 - 1, by omega⟩
          have hd : (p.drop (64 * k)).drop 64 = p.drop (64 * (k + 1)) := by rw [List.drop_drop]; congr 1
          rw [blocks, hd] at hbl
          refine ⟨m5, by omega, k + 1, _, _, (by repeat (first | exact Less.nil _ | refine Less.cons rfl ?_)), hbel10, ?_, hH10, blockF_len _ _ hh8, hbl, hO9.keepG hgr (by simp <;> omega), by omega⟩
          have := (hrd.keep (Same.ofGrown hgr fun k hk => by simp <;> omega)).drop (lw := 64) (by omega)
          rw [hd] at this; exact this
        · have hm4 : m4 = 0 := by
            rw [hlen] at hc; simp at hc; try omega
          subst hm4
          rw [blocks] at hbl
          repeat (first | refine TL.move rfl rfl rfl ?_ | refine TL.assign rfl rfl rfl ?_ | refine TL.nilCheck rfl rfl rfl ?_ | refine TL.fieldAddr rfl rfl rfl ?_ | refine TL.convI rfl rfl rfl ?_ | refine TL.cmpI rfl rfl rfl rfl rfl ?_ | refine TL.arith rfl rfl rfl rfl rfl ?_ | refine TL.lenS rfl rfl rfl ?_ | refine TL.lenStr rfl rfl rfl ?_ | refine TL.not rfl rfl rfl ?_ | refine TL.skipG rfl rfl ?_ | refine TL.pickT rfl rfl rfl rfl ?_ | refine TL.pickF rfl rfl rfl rfl ?_ | refine TL.extract rfl rfl rfl rfl ?_ | refine TL.maxI rfl rfl rfl rfl ?_ | refine TL.minI rfl rfl rfl rfl ?_ | refine TL.nilCheckF rfl rfl rfl ?_ | refine TL.nil ?_ | refine T.seqK fun K hK => ?_ | (refine T.regionO fun ops => ?_) | refine T.condT rfl ?_ | refine T.condF rfl ?_ | refine T.block ?_ | refine T.skip ?_ | refine T.ret ?_ | refine T.exit ?_ | (refine hK _ _ ?_; clear hK K) | clear hK K | clear ops)
          have hbl' : h = blocks (p.length / 64) h0 p := by rw [← hbl]
          rw [← hbl'] at hres
          refine TL.alloc rfl rfl fun b9 w10 hal9 => ?_
          have hbel10 : Below w.heap.size w w10 := hbel.trans (hal9.below.mono hbel.size)
          have hZ : Row w10 b9 ((List.replicate 32 0).map vb) 54 (0, 0) := hal9.at_
          have hH10 := hH.keepA hal9.below
          have hO10 := hO9.keepA hal9.below
          have hb9 : w.heap.size ≤ b9 := by rw [hal9.num]; exact hbel.size
          have h98 : b9 ≠ b8 := by have := hH.lt; rw [hal9.num]; omega
          have h92 : b9 ≠ b2 := by have := hO9.lt; rw [hal9.num]; omega
          repeat (first | refine TL.move rfl rfl rfl ?_ | refine TL.assign rfl rfl rfl ?_ | refine TL.nilCheck rfl rfl rfl ?_ | refine TL.fieldAddr rfl rfl rfl ?_ | refine TL.convI rfl rfl rfl ?_ | refine TL.cmpI rfl rfl rfl rfl rfl ?_ | refine TL.arith rfl rfl rfl rfl rfl ?_ | refine TL.lenS rfl rfl rfl ?_ | refine TL.lenStr rfl rfl rfl ?_ | refine TL.not rfl rfl rfl ?_ | refine TL.skipG rfl rfl ?_ | refine TL.pickT rfl rfl rfl rfl ?_ | refine TL.pickF rfl rfl rfl rfl ?_ | refine TL.extract rfl rfl rfl rfl ?_ | refine TL.maxI rfl rfl rfl rfl ?_ | refine TL.minI rfl rfl rfl rfl ?_ | refine TL.nilCheckF rfl rfl rfl ?_ | refine TL.nil ?_ | refine T.seqK fun K hK => ?_ | (refine T.regionO fun ops => ?_) | refine T.condT rfl ?_ | refine T.condF rfl ?_ | refine T.block ?_ | refine T.skip ?_ | refine T.ret ?_ | refine T.exit ?_ | (refine hK _ _ ?_; clear hK K) | clear hK K | clear ops)
          refine T.loop (fun m L w' => ∃ (k : Nat), Less [(2, .pointer (some ⟨b2, 0, none⟩)), (8, .pointer (some ⟨b8, 0, none⟩)), (9, .pointer (some ⟨b9, 0, none⟩)), (54, .int .i64 k)] L ∧ Below w.heap.size w w' ∧ Row w' b8 (h.map vu) 229 (0, 0) ∧ Row w' b2 ((List.replicate 32 0).map vb) 54 (0, 0) ∧
              Row w' b9 ((outB h k ++ List.replicate (32 - k) 0).map vb) 54 (0, 0) ∧ k + m = 32) 32
            ⟨0, (by repeat (first | exact Less.nil _ | refine Less.cons rfl ?_)), hbel10, hH10, hO10, hZ, rfl⟩ ?_
          clear hbel hrd hH hbl hO9 hkm hbel10 hZ hH10 hO10 hL hal9
          rintro m5 L5 w11 ⟨k, hL, hbel, hH, hO, hZ, hkm⟩
          refine T.sub hL ?_
          repeat (first | refine TL.move rfl rfl rfl ?_ | refine TL.assign rfl rfl rfl ?_ | refine TL.nilCheck rfl rfl rfl ?_ | refine TL.fieldAddr rfl rfl rfl ?_ | refine TL.convI rfl rfl rfl ?_ | refine TL.cmpI rfl rfl rfl rfl rfl ?_ | refine TL.arith rfl rfl rfl rfl rfl ?_ | refine TL.lenS rfl rfl rfl ?_ | refine TL.lenStr rfl rfl rfl ?_ | refine TL.not rfl rfl rfl ?_ | refine TL.skipG rfl rfl ?_ | refine TL.pickT rfl rfl rfl rfl ?_ | refine TL.pickF rfl rfl rfl rfl ?_ | refine TL.extract rfl rfl rfl rfl ?_ | refine TL.maxI rfl rfl rfl rfl ?_ | refine TL.minI rfl rfl rfl rfl ?_ | refine TL.nilCheckF rfl rfl rfl ?_ | refine TL.nil ?_ | refine T.seqK fun K hK => ?_ | (refine T.regionO fun ops => ?_) | refine T.condT rfl ?_ | refine T.condF rfl ?_ | refine T.block ?_ | refine T.skip ?_ | refine T.ret ?_ | refine T.exit ?_ | (refine hK _ _ ?_; clear hK K) | clear hK K | clear ops)
          refine T.cond rfl (fun hc => ?_) (fun hc => ?_)
          · have hk : k < 32 := by simp at hc; omega
            repeat (first | refine TL.move rfl rfl rfl ?_ | refine TL.assign rfl rfl rfl ?_ | refine TL.nilCheck rfl rfl rfl ?_ | refine TL.fieldAddr rfl rfl rfl ?_ | refine TL.convI rfl rfl rfl ?_ | refine TL.cmpI rfl rfl rfl rfl rfl ?_ | refine TL.arith rfl rfl rfl rfl rfl ?_ | refine TL.lenS rfl rfl rfl ?_ | refine TL.lenStr rfl rfl rfl ?_ | refine TL.not rfl rfl rfl ?_ | refine TL.skipG rfl rfl ?_ | refine TL.pickT rfl rfl rfl rfl ?_ | refine TL.pickF rfl rfl rfl rfl ?_ | refine TL.extract rfl rfl rfl rfl ?_ | refine TL.maxI rfl rfl rfl rfl ?_ | refine TL.minI rfl rfl rfl rfl ?_ | refine TL.nilCheckF rfl rfl rfl ?_ | refine TL.nil ?_ | refine T.seqK fun K hK => ?_ | (refine T.regionO fun ops => ?_) | refine T.condT rfl ?_ | refine T.condF rfl ?_ | refine T.block ?_ | refine T.skip ?_ | refine T.ret ?_ | refine T.exit ?_ | (refine hK _ _ ?_; clear hK K) | clear hK K | clear ops)
            have hq : IntKind.i64.wrap ((k : Int).tdiv 4) = ((k / 4 : Nat) : Int) := by
              rw [Int.tdiv_eq_ediv_of_nonneg (by omega), wr_i64 (by omega) (by omega)]; rfl
            rw [hq]
            refine TL.indexAddrA rfl rfl rfl rfl (by omega) (by omega) ?_
            refine TL.ev rfl rfl (Ev.load1 rfl (cellW hH (by omega))) ?_
            repeat (first | refine TL.move rfl rfl rfl ?_ | refine TL.assign rfl rfl rfl ?_ | refine TL.nilCheck rfl rfl rfl ?_ | refine TL.fieldAddr rfl rfl rfl ?_ | refine TL.convI rfl rfl rfl ?_ | refine TL.cmpI rfl rfl rfl rfl rfl ?_ | refine TL.arith rfl rfl rfl rfl rfl ?_ | refine TL.lenS rfl rfl rfl ?_ | refine TL.lenStr rfl rfl rfl ?_ | refine TL.not rfl rfl rfl ?_ | refine TL.skipG rfl rfl ?_ | refine TL.pickT rfl rfl rfl rfl ?_ | refine TL.pickF rfl rfl rfl rfl ?_ | refine TL.extract rfl rfl rfl rfl ?_ | refine TL.maxI rfl rfl rfl rfl ?_ | refine TL.minI rfl rfl rfl rfl ?_ | refine TL.nilCheckF rfl rfl rfl ?_ | refine TL.nil ?_ | refine T.seqK fun K hK => ?_ | (refine T.regionO fun ops => ?_) | refine T.condT rfl ?_ | refine T.condF rfl ?_ | refine T.block ?_ | refine T.skip ?_ | refine T.ret ?_ | refine T.exit ?_ | (refine hK _ _ ?_; clear hK K) | clear hK K | clear ops)
            have hq2 : IntKind.i64.wrap (24 - IntKind.i64.wrap ((k : Int).tmod 4 * 8)) = ((24 - k % 4 * 8 : Nat) : Int) := by
              rw [Int.tmod_eq_emod_of_nonneg (by omega), wr_i64 (x := (k : Int) % 4 * 8) (by omega) (by omega), wr_i64 (by omega) (by omega)]; omega
            rw [hq2]
            refine TL.ev rfl rfl (Ev.ushr rfl rfl (by simp [Nat.blt_eq]; omega)) ?_
            refine TL.convI rfl rfl rfl ?_
            refine TL.norm (v' := vb (UInt8.ofNat ((h.getD (k / 4) 0) >>> UInt32.ofNat (24 - k % 4 * 8)).toNat)) (by rw [wr_u8_nat]; rfl) ?_
            refine TL.indexAddrA rfl rfl rfl rfl (by omega) (by omega) ?_
            refine TL.storeRS (i := k) rfl rfl rfl hZ (by simp) (by simp [outB]; omega) rfl fun w12 hgr12 hZ12 hsz => ?_
            have hZ13 : Row w12 b9 ((outB h (k + 1) ++ List.replicate (32 - (k + 1)) 0).map vb) 54 (0, 0) := by
              have e : ((outB h k ++ List.replicate (32 - k) 0).map vb).set k (vb (UInt8.ofNat ((h.getD (k / 4) 0) >>> UInt32.ofNat (24 - k % 4 * 8)).toNat)) = (outB h (k + 1) ++ List.replicate (32 - (k + 1)) 0).map vb := by
                rw [← List.map_set]
                congr 1
                have hlen : (outB h k).length = k := by simp [outB]
                rw [List.set_append, if_neg (by omega), hlen, Nat.sub_self]
                rw [show 32 - k = (32 - (k + 1)) + 1 from by omega, List.replicate_succ, List.set_cons_zero]
                simp [outB, List.range_succ]
              rw [← e]; exact hZ12
            repeat (first | refine TL.move rfl rfl rfl ?_ | refine TL.assign rfl rfl rfl ?_ | refine TL.nilCheck rfl rfl rfl ?_ | refine TL.fieldAddr rfl rfl rfl ?_ | refine TL.convI rfl rfl rfl ?_ | refine TL.cmpI rfl rfl rfl rfl rfl ?_ | refine TL.arith rfl rfl rfl rfl rfl ?_ | refine TL.lenS rfl rfl rfl ?_ | refine TL.lenStr rfl rfl rfl ?_ | refine TL.not rfl rfl rfl ?_ | refine TL.skipG rfl rfl ?_ | refine TL.pickT rfl rfl rfl rfl ?_ | refine TL.pickF rfl rfl rfl rfl ?_ | refine TL.extract rfl rfl rfl rfl ?_ | refine TL.maxI rfl rfl rfl rfl ?_ | refine TL.minI rfl rfl rfl rfl ?_ | refine TL.nilCheckF rfl rfl rfl ?_ | refine TL.nil ?_ | refine T.seqK fun K hK => ?_ | (refine T.regionO fun ops => ?_) | refine T.condT rfl ?_ | refine T.condF rfl ?_ | refine T.block ?_ | refine T.skip ?_ | refine T.ret ?_ | refine T.exit ?_ | (refine hK _ _ ?_; clear hK K) | clear hK K | clear ops)
            refine ⟨m5 - 1, by omega, k + 1, ?_, hbel.trans (below_grown hgr12 hb9 hbel.size), hH.keepG hgr12 (by simp <;> omega), hO.keepG hgr12 (by simp <;> omega), hZ13, by omega⟩
            repeat (first | exact Less.nil _ | refine Less.cons rfl ?_)
            refine Less.cons' rfl (by rw [wr_succ (by omega)]) ?_
            repeat (first | exact Less.nil _ | refine Less.cons rfl ?_)
          · have hk : k = 32 := by simp at hc; omega
            subst hk
            have hZ' : Row w11 b9 ((outB h 32).map vb) 54 (0, 0) := by simpa using hZ
            repeat (first | refine TL.move rfl rfl rfl ?_ | refine TL.assign rfl rfl rfl ?_ | refine TL.nilCheck rfl rfl rfl ?_ | refine TL.fieldAddr rfl rfl rfl ?_ | refine TL.convI rfl rfl rfl ?_ | refine TL.cmpI rfl rfl rfl rfl rfl ?_ | refine TL.arith rfl rfl rfl rfl rfl ?_ | refine TL.lenS rfl rfl rfl ?_ | refine TL.lenStr rfl rfl rfl ?_ | refine TL.not rfl rfl rfl ?_ | refine TL.skipG rfl rfl ?_ | refine TL.pickT rfl rfl rfl rfl ?_ | refine TL.pickF rfl rfl rfl rfl ?_ | refine TL.extract rfl rfl rfl rfl ?_ | refine TL.maxI rfl rfl rfl rfl ?_ | refine TL.minI rfl rfl rfl rfl ?_ | refine TL.nilCheckF rfl rfl rfl ?_ | refine TL.nil ?_ | refine T.seqK fun K hK => ?_ | (refine T.regionO fun ops => ?_) | refine T.condT rfl ?_ | refine T.condF rfl ?_ | refine T.block ?_ | refine T.skip ?_ | refine T.ret ?_ | refine T.exit ?_ | (refine hK _ _ ?_; clear hK K) | clear hK K | clear ops)
            refine TL.loadA (xs := (outB h 32).map vb) rfl rfl rfl (by simp [outB]) (fun j u hu => by rw [hZ'.cell]; simpa using hu) ?_
            refine TL.storeRA (A := []) (C := []) (old := (List.replicate 32 0).map vb) (xs := (outB h 32).map vb) rfl rfl rfl (by simpa using hO) rfl (by simp [Value.cells]) (by simp [outB]) (by simp [outB]) (vb_all _) fun w12 hgr12 hO12 hsz => ?_
            have hb2' : w.heap.size ≤ b2 := hb2w
            have hbel12 := hbel.trans (below_grown hgr12 hb2' hbel.size)
            repeat (first | refine TL.move rfl rfl rfl ?_ | refine TL.assign rfl rfl rfl ?_ | refine TL.nilCheck rfl rfl rfl ?_ | refine TL.fieldAddr rfl rfl rfl ?_ | refine TL.convI rfl rfl rfl ?_ | refine TL.cmpI rfl rfl rfl rfl rfl ?_ | refine TL.arith rfl rfl rfl rfl rfl ?_ | refine TL.lenS rfl rfl rfl ?_ | refine TL.lenStr rfl rfl rfl ?_ | refine TL.not rfl rfl rfl ?_ | refine TL.skipG rfl rfl ?_ | refine TL.pickT rfl rfl rfl rfl ?_ | refine TL.pickF rfl rfl rfl rfl ?_ | refine TL.extract rfl rfl rfl rfl ?_ | refine TL.maxI rfl rfl rfl rfl ?_ | refine TL.minI rfl rfl rfl rfl ?_ | refine TL.nilCheckF rfl rfl rfl ?_ | refine TL.nil ?_ | refine T.seqK fun K hK => ?_ | (refine T.regionO fun ops => ?_) | refine T.condT rfl ?_ | refine T.condF rfl ?_ | refine T.block ?_ | refine T.skip ?_ | refine T.ret ?_ | refine T.exit ?_ | (refine hK _ _ ?_; clear hK K) | clear hK K | clear ops)
            refine ⟨_, ResV.cellA (xs := (outB h 32).map vb) rfl (by simp [outB]) (fun j u hu => by rw [hO12.cell]; simpa using hu), ?_, hbel12⟩
            rw [hres]
end Go.Proofs
