/- What sha.block comes to. Conditions: the constants lie where they were laid, at least 64 bytes. -/
import Derived.Test.YtflioeagjefkmaaDoorSha
set_option linter.all false
namespace Go.Proofs
open Go.Fw Go.RowKit
attribute [local irreducible] TL T TS Ev Ret

theorem cellW {w : World} {b : Nat} {W : List UInt32} {e : TypeId} {fr : Nat × Nat} (h : Row w b (W.map vu) e fr) {i : Nat} (hi : i < W.length) : w.cell? ⟨b, 0 + ((i : Nat) : Int).toNat * 1, none⟩ = some (vu (W.getD i 0)) := by
  rw [h.cell]; simp [hi]
theorem setW {W : List UInt32} {i : Nat} {x : UInt32} : (W.map vu).set i (vu x) = (W.set i x).map vu := by rw [List.map_set]
theorem nrm {x : Int} {j : Nat} (h1 : x = (j : Int)) (h2 : j < 9223372036854775808) : Value.int .i64 (IntKind.i64.wrap x) = .int .i64 (j : Int) := by
  rw [wr_i64 (by omega) (by omega), h1]
theorem kwAt {k : Nat} (hk : k < 64) : (kw.map vu)[k]? = some (vu (kw.getD k 0)) := by
  have : k < kw.length := hk
  simp [this]
theorem rounds8 (W h : List UInt32) (hh : h.length = 8) : ∀ k, ∃ a b c d e f g i, rounds W h k = [a, b, c, d, e, f, g, i]
  | 0 => by
    match h, hh with
    | [a, b, c, d, e, f, g, i], _ => exact ⟨_, _, _, _, _, _, _, _, rfl⟩
  | k + 1 => by
    obtain ⟨a, b, c, d, e, f, g, i, h1⟩ := rounds8 W h hh k
    exact ⟨_, _, _, _, _, _, _, _, by rw [rounds, h1, rnd]⟩
/-- the first k words are added -/
def addTo (h v : List UInt32) (k : Nat) : List UInt32 := List.zipWith (· + ·) (h.take k) (v.take k) ++ h.drop k
theorem addTo_succ (h v : List UInt32) (k : Nat) (h1 : k < h.length) (h2 : k < v.length) : (addTo h v k).set k (h.getD k 0 + v.getD k 0) = addTo h v (k + 1) := by
  unfold addTo
  have e1 : (List.zipWith (· + ·) (h.take k) (v.take k)).length = k := by simp; omega
  rw [List.set_append, if_neg (by omega), e1, Nat.sub_self]
  rw [List.drop_eq_getElem_cons h1, List.set_cons_zero, List.take_succ_eq_append_getElem h1, List.take_succ_eq_append_getElem h2]
  rw [List.zipWith_append (by simp; omega)]
  simp [h1, h2]
theorem addTo_get (h v : List UInt32) (k : Nat) (h1 : k < h.length) (h2 : h.length ≤ v.length) : (addTo h v k).getD k 0 = h.getD k 0 := by
  unfold addTo
  have e1 : (List.zipWith (· + ·) (h.take k) (v.take k)).length = k := by simp; omega
  simp only [List.getD_eq_getElem?_getD]
  rw [List.getElem?_append_right (by omega), e1, Nat.sub_self, List.getElem?_drop]; simp
theorem addTo_len (h v : List UInt32) (k : Nat) (h2 : h.length ≤ v.length) : (addTo h v k).length = h.length := by
  unfold addTo; simp; omega
theorem nrm2 {x y : Int} {i j : Nat} (h1 : x = (i : Int)) (hi : i < 9223372036854775808) (h2 : (i : Int) + y = (j : Int)) (hj : j < 9223372036854775808) : Value.int .i64 (IntKind.i64.wrap (IntKind.i64.wrap x + y)) = .int .i64 (j : Int) := by
  rw [wr_i64 (x := x) (by omega) (by omega), h1]; exact nrm h2 hj
theorem wrp {x : Int} {j : Nat} (h1 : x = (j : Int)) (h2 : j < 9223372036854775808) : IntKind.i64.wrap x = (j : Int) := by
  rw [wr_i64 (by omega) (by omega), h1]

set_option maxRecDepth 20000 in
set_option maxHeartbeats 2000000 in
theorem Block_ret {F : Nat → Prop} (hb : Nat) (bv : Value) (l : List UInt8) (h : List UInt32) (ht : TypeId) (w : World) (hK' : KW w) (hl : 64 ≤ l.length) (hbv : By F w bv l) (hh : h.length = 8) (hrow : Row w hb (h.map vu) ht (0, 0)) :
    Ret Tryd.prog 110 #[.pointer (some ⟨hb, 0, none⟩), bv] w fun v w' => v = .tuple #[] ∧ w.grownBy w' (some hb) ∧ Row w' hb ((blockF h l).map vu) ht (0, 0) := by
  obtain ⟨ba, bc, rfl, hb1, hb2, hb3, hb4, hb5⟩ := id hbv
  obtain ⟨bb, off, rfl, _, hcells⟩ := hb5 (by intro e; rw [List.map_eq_nil_iff] at e; subst e; simp at hl)
  have hcell : ∀ w', Below w.heap.size w w' → ∀ i, i < l.length → w'.cell? ⟨bb, off + ((i : Nat) : Int).toNat * 1, none⟩ = some (vb (l.getD i 0)) := by
    intro w' hw' i hi
    have h1 := hcells i (vb (l.getD i 0)) (by simp [hi])
    have h2 := lt_of_cell h1
    rw [World.cell?_of_block (w := w) (w' := w') (hw'.block bb h2)]
    simpa using h1
  refine Ret.of_T Tryd.func110 rfl Tryd.ntmps110 Tryd.results110 rfl ?_
  repeat (first | refine TL.move rfl rfl rfl ?_ | refine TL.assign rfl rfl rfl ?_ | refine TL.nilCheck rfl rfl rfl ?_ | refine TL.fieldAddr rfl rfl rfl ?_ | refine TL.convI rfl rfl rfl ?_ | refine TL.cmpI rfl rfl rfl rfl rfl ?_ | refine TL.arith rfl rfl rfl rfl rfl ?_ | refine TL.lenS rfl rfl rfl ?_ | refine TL.lenStr rfl rfl rfl ?_ | refine TL.not rfl rfl rfl ?_ | refine TL.skipG rfl rfl ?_ | refine TL.pickT rfl rfl rfl rfl ?_ | refine TL.pickF rfl rfl rfl rfl ?_ | refine TL.extract rfl rfl rfl rfl ?_ | refine TL.maxI rfl rfl rfl rfl ?_ | refine TL.minI rfl rfl rfl rfl ?_ | refine TL.nilCheckF rfl rfl rfl ?_ | refine TL.nil ?_ | refine T.seqK fun K hK => ?_ | (refine T.regionO fun ops => ?_) | refine T.condT rfl ?_ | refine T.condF rfl ?_ | refine T.block ?_ | refine T.skip ?_ | refine T.ret ?_ | refine T.exit ?_ | (refine hK _ _ ?_; clear hK K) | clear hK K | clear ops)
  refine TL.alloc rfl rfl fun wb w1 hal => ?_
  have hW0 : Row w1 wb ((first16 l 0).map vu) 198 (0, 0) := hal.at_
  repeat (first | refine TL.move rfl rfl rfl ?_ | refine TL.assign rfl rfl rfl ?_ | refine TL.nilCheck rfl rfl rfl ?_ | refine TL.fieldAddr rfl rfl rfl ?_ | refine TL.convI rfl rfl rfl ?_ | refine TL.cmpI rfl rfl rfl rfl rfl ?_ | refine TL.arith rfl rfl rfl rfl rfl ?_ | refine TL.lenS rfl rfl rfl ?_ | refine TL.lenStr rfl rfl rfl ?_ | refine TL.not rfl rfl rfl ?_ | refine TL.skipG rfl rfl ?_ | refine TL.pickT rfl rfl rfl rfl ?_ | refine TL.pickF rfl rfl rfl rfl ?_ | refine TL.extract rfl rfl rfl rfl ?_ | refine TL.maxI rfl rfl rfl rfl ?_ | refine TL.minI rfl rfl rfl rfl ?_ | refine TL.nilCheckF rfl rfl rfl ?_ | refine TL.nil ?_ | refine T.seqK fun K hK => ?_ | (refine T.regionO fun ops => ?_) | refine T.condT rfl ?_ | refine T.condF rfl ?_ | refine T.block ?_ | refine T.skip ?_ | refine T.ret ?_ | refine T.exit ?_ | (refine hK _ _ ?_; clear hK K) | clear hK K | clear ops)
  refine T.loop (fun m L w' => ∃ (k : Nat), Less [(0, .pointer (some ⟨hb, 0, none⟩)), (1, .slice (some ⟨bb, off, none⟩) l.length bc), (4, .pointer (some ⟨wb, 0, none⟩)), (19, .int .i64 k)] L ∧ Below w.heap.size w w' ∧ Row w' wb ((first16 l k).map vu) 198 (0, 0) ∧ k + m = 16) 16
    ⟨0, (by repeat (first | exact Less.nil _ | refine Less.cons rfl ?_)), hal.below, hW0, rfl⟩ ?_
  · rintro m L w2 ⟨k, hL, hbel, hW, hkm⟩
    refine T.sub hL ?_
    repeat (first | refine TL.move rfl rfl rfl ?_ | refine TL.assign rfl rfl rfl ?_ | refine TL.nilCheck rfl rfl rfl ?_ | refine TL.fieldAddr rfl rfl rfl ?_ | refine TL.convI rfl rfl rfl ?_ | refine TL.cmpI rfl rfl rfl rfl rfl ?_ | refine TL.arith rfl rfl rfl rfl rfl ?_ | refine TL.lenS rfl rfl rfl ?_ | refine TL.lenStr rfl rfl rfl ?_ | refine TL.not rfl rfl rfl ?_ | refine TL.skipG rfl rfl ?_ | refine TL.pickT rfl rfl rfl rfl ?_ | refine TL.pickF rfl rfl rfl rfl ?_ | refine TL.extract rfl rfl rfl rfl ?_ | refine TL.maxI rfl rfl rfl rfl ?_ | refine TL.minI rfl rfl rfl rfl ?_ | refine TL.nilCheckF rfl rfl rfl ?_ | refine TL.nil ?_ | refine T.seqK fun K hK => ?_ | (refine T.regionO fun ops => ?_) | refine T.condT rfl ?_ | refine T.condF rfl ?_ | refine T.block ?_ | refine T.skip ?_ | refine T.ret ?_ | refine T.exit ?_ | (refine hK _ _ ?_; clear hK K) | clear hK K | clear ops)
    refine T.cond rfl (fun hc => ?_) (fun hc => ?_)
    · have hk : k < 16 := by simp at hc; omega
      repeat (first | refine TL.move rfl rfl rfl ?_ | refine TL.assign rfl rfl rfl ?_ | refine TL.nilCheck rfl rfl rfl ?_ | refine TL.fieldAddr rfl rfl rfl ?_ | refine TL.convI rfl rfl rfl ?_ | refine TL.cmpI rfl rfl rfl rfl rfl ?_ | refine TL.arith rfl rfl rfl rfl rfl ?_ | refine TL.lenS rfl rfl rfl ?_ | refine TL.lenStr rfl rfl rfl ?_ | refine TL.not rfl rfl rfl ?_ | refine TL.skipG rfl rfl ?_ | refine TL.pickT rfl rfl rfl rfl ?_ | refine TL.pickF rfl rfl rfl rfl ?_ | refine TL.extract rfl rfl rfl rfl ?_ | refine TL.maxI rfl rfl rfl rfl ?_ | refine TL.minI rfl rfl rfl rfl ?_ | refine TL.nilCheckF rfl rfl rfl ?_ | refine TL.nil ?_ | refine T.seqK fun K hK => ?_ | (refine T.regionO fun ops => ?_) | refine T.condT rfl ?_ | refine T.condF rfl ?_ | refine T.block ?_ | refine T.skip ?_ | refine T.ret ?_ | refine T.exit ?_ | (refine hK _ _ ?_; clear hK K) | clear hK K | clear ops)
      refine T.drawTail 34 Tryd.mixed (by kernel_rfl) fun ops w3 hbel3 heq K hK => ?_
      simp only [List.take_succ_cons, List.take_zero]
      have hbel' := hbel.trans (hbel3.mono hbel.size)
      have hW' := hW.keepA hbel3
      repeat (first | refine TS.ev rfl rfl (Ev.move rfl) ?_ | refine TS.ev rfl rfl (Ev.assign rfl) ?_ | refine TS.ev rfl rfl (Ev.nilCheck rfl) ?_ | refine TS.ev rfl rfl (Ev.fieldAddr rfl) ?_ | refine TS.ev rfl rfl (Ev.uop rfl rfl rfl) ?_ | refine TS.ev rfl rfl (Ev.cmpI rfl rfl rfl) ?_ | refine TS.ev rfl rfl (Ev.arith rfl rfl rfl) ?_ | refine TS.ev rfl rfl (Ev.convI rfl) ?_ | refine TS.ev rfl rfl (Ev.lenS rfl) ?_ | refine TS.ev rfl rfl (Ev.lenStr rfl) ?_ | refine TS.ev rfl rfl (Ev.not rfl) ?_ | refine TS.skipG rfl rfl ?_ | refine TS.ev rfl rfl (Ev.pickT rfl rfl) ?_ | refine TS.ev rfl rfl (Ev.pickF rfl rfl) ?_ | refine TS.ev rfl rfl (Ev.extract rfl rfl) ?_ | refine TS.ev rfl rfl (Ev.maxI rfl rfl) ?_ | refine TS.ev rfl rfl (Ev.minI rfl rfl) ?_ | refine TS.ev rfl rfl (Ev.nilCheckF rfl) ?_ | refine TS.nil ?_)
      refine TS.norm (nrm (j := 4 * k) (by push_cast; rfl) (by omega)) ?_
      refine TS.ev rfl rfl (Ev.indexAddrS rfl rfl (by omega) (by omega)) ?_
      refine TS.ev rfl rfl (Ev.load1 rfl (hcell w3 hbel' _ (by omega))) ?_
      refine TS.ev rfl rfl (Ev.u8u32 rfl) ?_
      refine TS.ev rfl rfl (Ev.ushl (k := 24) rfl rfl rfl) ?_
      repeat (first | refine TS.ev rfl rfl (Ev.move rfl) ?_ | refine TS.ev rfl rfl (Ev.assign rfl) ?_ | refine TS.ev rfl rfl (Ev.nilCheck rfl) ?_ | refine TS.ev rfl rfl (Ev.fieldAddr rfl) ?_ | refine TS.ev rfl rfl (Ev.uop rfl rfl rfl) ?_ | refine TS.ev rfl rfl (Ev.cmpI rfl rfl rfl) ?_ | refine TS.ev rfl rfl (Ev.arith rfl rfl rfl) ?_ | refine TS.ev rfl rfl (Ev.convI rfl) ?_ | refine TS.ev rfl rfl (Ev.lenS rfl) ?_ | refine TS.ev rfl rfl (Ev.lenStr rfl) ?_ | refine TS.ev rfl rfl (Ev.not rfl) ?_ | refine TS.skipG rfl rfl ?_ | refine TS.ev rfl rfl (Ev.pickT rfl rfl) ?_ | refine TS.ev rfl rfl (Ev.pickF rfl rfl) ?_ | refine TS.ev rfl rfl (Ev.extract rfl rfl) ?_ | refine TS.ev rfl rfl (Ev.maxI rfl rfl) ?_ | refine TS.ev rfl rfl (Ev.minI rfl rfl) ?_ | refine TS.ev rfl rfl (Ev.nilCheckF rfl) ?_ | refine TS.nil ?_)
      refine TS.norm (v' := .int .i64 ((4 * k + 1 : Nat) : Int)) (nrm2 (i := 4 * k) (by push_cast; rfl) (by omega) (by push_cast; rfl) (by omega)) ?_
      refine TS.ev rfl rfl (Ev.indexAddrS rfl rfl (by omega) (by omega)) ?_
      refine TS.ev rfl rfl (Ev.load1 rfl (hcell w3 hbel' _ (by omega))) ?_
      refine TS.ev rfl rfl (Ev.u8u32 rfl) ?_
      refine TS.ev rfl rfl (Ev.ushl (k := 16) rfl rfl rfl) ?_
      repeat (first | refine TS.ev rfl rfl (Ev.move rfl) ?_ | refine TS.ev rfl rfl (Ev.assign rfl) ?_ | refine TS.ev rfl rfl (Ev.nilCheck rfl) ?_ | refine TS.ev rfl rfl (Ev.fieldAddr rfl) ?_ | refine TS.ev rfl rfl (Ev.uop rfl rfl rfl) ?_ | refine TS.ev rfl rfl (Ev.cmpI rfl rfl rfl) ?_ | refine TS.ev rfl rfl (Ev.arith rfl rfl rfl) ?_ | refine TS.ev rfl rfl (Ev.convI rfl) ?_ | refine TS.ev rfl rfl (Ev.lenS rfl) ?_ | refine TS.ev rfl rfl (Ev.lenStr rfl) ?_ | refine TS.ev rfl rfl (Ev.not rfl) ?_ | refine TS.skipG rfl rfl ?_ | refine TS.ev rfl rfl (Ev.pickT rfl rfl) ?_ | refine TS.ev rfl rfl (Ev.pickF rfl rfl) ?_ | refine TS.ev rfl rfl (Ev.extract rfl rfl) ?_ | refine TS.ev rfl rfl (Ev.maxI rfl rfl) ?_ | refine TS.ev rfl rfl (Ev.minI rfl rfl) ?_ | refine TS.ev rfl rfl (Ev.nilCheckF rfl) ?_ | refine TS.nil ?_)
      refine TS.norm (v' := .int .i64 ((4 * k + 2 : Nat) : Int)) (nrm2 (i := 4 * k) (by push_cast; rfl) (by omega) (by push_cast; rfl) (by omega)) ?_
      refine TS.ev rfl rfl (Ev.indexAddrS rfl rfl (by omega) (by omega)) ?_
      refine TS.ev rfl rfl (Ev.load1 rfl (hcell w3 hbel' _ (by omega))) ?_
      refine TS.ev rfl rfl (Ev.u8u32 rfl) ?_
      refine TS.ev rfl rfl (Ev.ushl (k := 8) rfl rfl rfl) ?_
      repeat (first | refine TS.ev rfl rfl (Ev.move rfl) ?_ | refine TS.ev rfl rfl (Ev.assign rfl) ?_ | refine TS.ev rfl rfl (Ev.nilCheck rfl) ?_ | refine TS.ev rfl rfl (Ev.fieldAddr rfl) ?_ | refine TS.ev rfl rfl (Ev.uop rfl rfl rfl) ?_ | refine TS.ev rfl rfl (Ev.cmpI rfl rfl rfl) ?_ | refine TS.ev rfl rfl (Ev.arith rfl rfl rfl) ?_ | refine TS.ev rfl rfl (Ev.convI rfl) ?_ | refine TS.ev rfl rfl (Ev.lenS rfl) ?_ | refine TS.ev rfl rfl (Ev.lenStr rfl) ?_ | refine TS.ev rfl rfl (Ev.not rfl) ?_ | refine TS.skipG rfl rfl ?_ | refine TS.ev rfl rfl (Ev.pickT rfl rfl) ?_ | refine TS.ev rfl rfl (Ev.pickF rfl rfl) ?_ | refine TS.ev rfl rfl (Ev.extract rfl rfl) ?_ | refine TS.ev rfl rfl (Ev.maxI rfl rfl) ?_ | refine TS.ev rfl rfl (Ev.minI rfl rfl) ?_ | refine TS.ev rfl rfl (Ev.nilCheckF rfl) ?_ | refine TS.nil ?_)
      refine TS.norm (v' := .int .i64 ((4 * k + 3 : Nat) : Int)) (nrm2 (i := 4 * k) (by push_cast; rfl) (by omega) (by push_cast; rfl) (by omega)) ?_
      refine TS.ev rfl rfl (Ev.indexAddrS rfl rfl (by omega) (by omega)) ?_
      refine TS.ev rfl rfl (Ev.load1 rfl (hcell w3 hbel' _ (by omega))) ?_
      refine TS.ev rfl rfl (Ev.u8u32 rfl) ?_
      repeat (first | refine TS.ev rfl rfl (Ev.move rfl) ?_ | refine TS.ev rfl rfl (Ev.assign rfl) ?_ | refine TS.ev rfl rfl (Ev.nilCheck rfl) ?_ | refine TS.ev rfl rfl (Ev.fieldAddr rfl) ?_ | refine TS.ev rfl rfl (Ev.uop rfl rfl rfl) ?_ | refine TS.ev rfl rfl (Ev.cmpI rfl rfl rfl) ?_ | refine TS.ev rfl rfl (Ev.arith rfl rfl rfl) ?_ | refine TS.ev rfl rfl (Ev.convI rfl) ?_ | refine TS.ev rfl rfl (Ev.lenS rfl) ?_ | refine TS.ev rfl rfl (Ev.lenStr rfl) ?_ | refine TS.ev rfl rfl (Ev.not rfl) ?_ | refine TS.skipG rfl rfl ?_ | refine TS.ev rfl rfl (Ev.pickT rfl rfl) ?_ | refine TS.ev rfl rfl (Ev.pickF rfl rfl) ?_ | refine TS.ev rfl rfl (Ev.extract rfl rfl) ?_ | refine TS.ev rfl rfl (Ev.maxI rfl rfl) ?_ | refine TS.ev rfl rfl (Ev.minI rfl rfl) ?_ | refine TS.ev rfl rfl (Ev.nilCheckF rfl) ?_ | refine TS.nil ?_)
      refine hK _ ?_
      clear hK K
      simp only [List.drop_succ_cons, List.drop_zero]
      refine TL.indexAddrA rfl rfl rfl rfl (by omega) (by omega) ?_
      refine TL.storeRS (i := k) rfl rfl rfl hW' (by simp) (by rw [List.length_map, first16_len l k (by omega)]; omega) rfl fun w4 hgr hW4 hsz => ?_
      have hW5 : Row w4 wb ((first16 l (k + 1)).map vu) 198 (0, 0) := by
        rw [← first16_succ l k (by omega), ← setW]; exact hW4
      have hbel5 : Below w.heap.size w w4 := hbel'.trans (below_grown hgr (by rw [hal.num]; exact Nat.le_refl _) hbel'.size)
      repeat (first | refine TL.move rfl rfl rfl ?_ | refine TL.assign rfl rfl rfl ?_ | refine TL.nilCheck rfl rfl rfl ?_ | refine TL.fieldAddr rfl rfl rfl ?_ | refine TL.convI rfl rfl rfl ?_ | refine TL.cmpI rfl rfl rfl rfl rfl ?_ | refine TL.arith rfl rfl rfl rfl rfl ?_ | refine TL.lenS rfl rfl rfl ?_ | refine TL.lenStr rfl rfl rfl ?_ | refine TL.not rfl rfl rfl ?_ | refine TL.skipG rfl rfl ?_ | refine TL.pickT rfl rfl rfl rfl ?_ | refine TL.pickF rfl rfl rfl rfl ?_ | refine TL.extract rfl rfl rfl rfl ?_ | refine TL.maxI rfl rfl rfl rfl ?_ | refine TL.minI rfl rfl rfl rfl ?_ | refine TL.nilCheckF rfl rfl rfl ?_ | refine TL.nil ?_ | refine T.seqK fun K hK => ?_ | (refine T.regionO fun ops => ?_) | refine T.condT rfl ?_ | refine T.condF rfl ?_ | refine T.block ?_ | refine T.skip ?_ | refine T.ret ?_ | refine T.exit ?_ | (refine hK _ _ ?_; clear hK K) | clear hK K | clear ops)
      refine ⟨m - 1, by omega, k + 1, ?_, hbel5, hW5, by omega⟩
      repeat (first | exact Less.nil _ | refine Less.cons rfl ?_)
      refine Less.cons' rfl (by rw [wr_succ (by omega)]) ?_
      repeat (first | exact Less.nil _ | refine Less.cons rfl ?_)
    · have hk : k = 16 := by simp at hc; omega
      subst hk
      repeat (first | refine TL.move rfl rfl rfl ?_ | refine TL.assign rfl rfl rfl ?_ | refine TL.nilCheck rfl rfl rfl ?_ | refine TL.fieldAddr rfl rfl rfl ?_ | refine TL.convI rfl rfl rfl ?_ | refine TL.cmpI rfl rfl rfl rfl rfl ?_ | refine TL.arith rfl rfl rfl rfl rfl ?_ | refine TL.lenS rfl rfl rfl ?_ | refine TL.lenStr rfl rfl rfl ?_ | refine TL.not rfl rfl rfl ?_ | refine TL.skipG rfl rfl ?_ | refine TL.pickT rfl rfl rfl rfl ?_ | refine TL.pickF rfl rfl rfl rfl ?_ | refine TL.extract rfl rfl rfl rfl ?_ | refine TL.maxI rfl rfl rfl rfl ?_ | refine TL.minI rfl rfl rfl rfl ?_ | refine TL.nilCheckF rfl rfl rfl ?_ | refine TL.nil ?_ | refine T.seqK fun K hK => ?_ | (refine T.regionO fun ops => ?_) | refine T.condT rfl ?_ | refine T.condF rfl ?_ | refine T.block ?_ | refine T.skip ?_ | refine T.ret ?_ | refine T.exit ?_ | (refine hK _ _ ?_; clear hK K) | clear hK K | clear ops)
      -- the words that are made out of those
      refine T.loop (fun m L w' => ∃ (k : Nat), Less [(0, .pointer (some ⟨hb, 0, none⟩)), (4, .pointer (some ⟨wb, 0, none⟩)), (6, .int .i64 ((16 + k : Nat) : Int))] L ∧ Below w.heap.size w w' ∧ Row w' wb ((sched l k).map vu) 198 (0, 0) ∧ k + m = 48) 48
        ⟨0, (by repeat (first | exact Less.nil _ | refine Less.cons rfl ?_)), hbel, hW, rfl⟩ ?_
      clear hbel hW hL
      clear m hkm
      rintro m L w2 ⟨k, hL, hbel, hW, hkm⟩
      refine T.sub hL ?_
      repeat (first | refine TL.move rfl rfl rfl ?_ | refine TL.assign rfl rfl rfl ?_ | refine TL.nilCheck rfl rfl rfl ?_ | refine TL.fieldAddr rfl rfl rfl ?_ | refine TL.convI rfl rfl rfl ?_ | refine TL.cmpI rfl rfl rfl rfl rfl ?_ | refine TL.arith rfl rfl rfl rfl rfl ?_ | refine TL.lenS rfl rfl rfl ?_ | refine TL.lenStr rfl rfl rfl ?_ | refine TL.not rfl rfl rfl ?_ | refine TL.skipG rfl rfl ?_ | refine TL.pickT rfl rfl rfl rfl ?_ | refine TL.pickF rfl rfl rfl rfl ?_ | refine TL.extract rfl rfl rfl rfl ?_ | refine TL.maxI rfl rfl rfl rfl ?_ | refine TL.minI rfl rfl rfl rfl ?_ | refine TL.nilCheckF rfl rfl rfl ?_ | refine TL.nil ?_ | refine T.seqK fun K hK => ?_ | (refine T.regionO fun ops => ?_) | refine T.condT rfl ?_ | refine T.condF rfl ?_ | refine T.block ?_ | refine T.skip ?_ | refine T.ret ?_ | refine T.exit ?_ | (refine hK _ _ ?_; clear hK K) | clear hK K | clear ops)
      refine T.cond rfl (fun hc => ?_) (fun hc => ?_)
      · have hk : k < 48 := by simp at hc; omega
        have hlen := sched_len l k
        repeat (first | refine TL.move rfl rfl rfl ?_ | refine TL.assign rfl rfl rfl ?_ | refine TL.nilCheck rfl rfl rfl ?_ | refine TL.fieldAddr rfl rfl rfl ?_ | refine TL.convI rfl rfl rfl ?_ | refine TL.cmpI rfl rfl rfl rfl rfl ?_ | refine TL.arith rfl rfl rfl rfl rfl ?_ | refine TL.lenS rfl rfl rfl ?_ | refine TL.lenStr rfl rfl rfl ?_ | refine TL.not rfl rfl rfl ?_ | refine TL.skipG rfl rfl ?_ | refine TL.pickT rfl rfl rfl rfl ?_ | refine TL.pickF rfl rfl rfl rfl ?_ | refine TL.extract rfl rfl rfl rfl ?_ | refine TL.maxI rfl rfl rfl rfl ?_ | refine TL.minI rfl rfl rfl rfl ?_ | refine TL.nilCheckF rfl rfl rfl ?_ | refine TL.nil ?_ | refine T.seqK fun K hK => ?_ | (refine T.regionO fun ops => ?_) | refine T.condT rfl ?_ | refine T.condF rfl ?_ | refine T.block ?_ | refine T.skip ?_ | refine T.ret ?_ | refine T.exit ?_ | (refine hK _ _ ?_; clear hK K) | clear hK K | clear ops)
        refine T.draw Tryd.mixed (by kernel_rfl) fun ops w3 hbel3 heq => ?_
        have hbel' := hbel.trans (hbel3.mono hbel.size)
        have hW' := hW.keepA hbel3
        repeat (first | refine TS.ev rfl rfl (Ev.move rfl) ?_ | refine TS.ev rfl rfl (Ev.assign rfl) ?_ | refine TS.ev rfl rfl (Ev.nilCheck rfl) ?_ | refine TS.ev rfl rfl (Ev.fieldAddr rfl) ?_ | refine TS.ev rfl rfl (Ev.uop rfl rfl rfl) ?_ | refine TS.ev rfl rfl (Ev.cmpI rfl rfl rfl) ?_ | refine TS.ev rfl rfl (Ev.arith rfl rfl rfl) ?_ | refine TS.ev rfl rfl (Ev.convI rfl) ?_ | refine TS.ev rfl rfl (Ev.lenS rfl) ?_ | refine TS.ev rfl rfl (Ev.lenStr rfl) ?_ | refine TS.ev rfl rfl (Ev.not rfl) ?_ | refine TS.skipG rfl rfl ?_ | refine TS.ev rfl rfl (Ev.pickT rfl rfl) ?_ | refine TS.ev rfl rfl (Ev.pickF rfl rfl) ?_ | refine TS.ev rfl rfl (Ev.extract rfl rfl) ?_ | refine TS.ev rfl rfl (Ev.maxI rfl rfl) ?_ | refine TS.ev rfl rfl (Ev.minI rfl rfl) ?_ | refine TS.ev rfl rfl (Ev.nilCheckF rfl) ?_ | refine TS.nil ?_)
        refine TS.norm (nrm (j := 16 + k - 15) (by omega) (by omega)) ?_
        refine TS.ev rfl rfl (Ev.indexAddrA rfl rfl (by omega) (by omega)) ?_
        refine TS.ev rfl rfl (Ev.load1 rfl (cellW hW' (by omega))) ?_
        repeat (first | refine TS.ev rfl rfl (Ev.move rfl) ?_ | refine TS.ev rfl rfl (Ev.assign rfl) ?_ | refine TS.ev rfl rfl (Ev.nilCheck rfl) ?_ | refine TS.ev rfl rfl (Ev.fieldAddr rfl) ?_ | refine TS.ev rfl rfl (Ev.uop rfl rfl rfl) ?_ | refine TS.ev rfl rfl (Ev.cmpI rfl rfl rfl) ?_ | refine TS.ev rfl rfl (Ev.arith rfl rfl rfl) ?_ | refine TS.ev rfl rfl (Ev.convI rfl) ?_ | refine TS.ev rfl rfl (Ev.lenS rfl) ?_ | refine TS.ev rfl rfl (Ev.lenStr rfl) ?_ | refine TS.ev rfl rfl (Ev.not rfl) ?_ | refine TS.skipG rfl rfl ?_ | refine TS.ev rfl rfl (Ev.pickT rfl rfl) ?_ | refine TS.ev rfl rfl (Ev.pickF rfl rfl) ?_ | refine TS.ev rfl rfl (Ev.extract rfl rfl) ?_ | refine TS.ev rfl rfl (Ev.maxI rfl rfl) ?_ | refine TS.ev rfl rfl (Ev.minI rfl rfl) ?_ | refine TS.ev rfl rfl (Ev.nilCheckF rfl) ?_ | refine TS.nil ?_)
        refine TS.norm (nrm (j := 16 + k - 2) (by omega) (by omega)) ?_
        refine TS.ev rfl rfl (Ev.indexAddrA rfl rfl (by omega) (by omega)) ?_
        refine TS.ev rfl rfl (Ev.load1 rfl (cellW hW' (by omega))) ?_
        repeat (first | refine TS.ev rfl rfl (Ev.move rfl) ?_ | refine TS.ev rfl rfl (Ev.assign rfl) ?_ | refine TS.ev rfl rfl (Ev.nilCheck rfl) ?_ | refine TS.ev rfl rfl (Ev.fieldAddr rfl) ?_ | refine TS.ev rfl rfl (Ev.uop rfl rfl rfl) ?_ | refine TS.ev rfl rfl (Ev.cmpI rfl rfl rfl) ?_ | refine TS.ev rfl rfl (Ev.arith rfl rfl rfl) ?_ | refine TS.ev rfl rfl (Ev.convI rfl) ?_ | refine TS.ev rfl rfl (Ev.lenS rfl) ?_ | refine TS.ev rfl rfl (Ev.lenStr rfl) ?_ | refine TS.ev rfl rfl (Ev.not rfl) ?_ | refine TS.skipG rfl rfl ?_ | refine TS.ev rfl rfl (Ev.pickT rfl rfl) ?_ | refine TS.ev rfl rfl (Ev.pickF rfl rfl) ?_ | refine TS.ev rfl rfl (Ev.extract rfl rfl) ?_ | refine TS.ev rfl rfl (Ev.maxI rfl rfl) ?_ | refine TS.ev rfl rfl (Ev.minI rfl rfl) ?_ | refine TS.ev rfl rfl (Ev.nilCheckF rfl) ?_ | refine TS.nil ?_)
        clear ops
        repeat (first | refine TL.move rfl rfl rfl ?_ | refine TL.assign rfl rfl rfl ?_ | refine TL.nilCheck rfl rfl rfl ?_ | refine TL.fieldAddr rfl rfl rfl ?_ | refine TL.convI rfl rfl rfl ?_ | refine TL.cmpI rfl rfl rfl rfl rfl ?_ | refine TL.arith rfl rfl rfl rfl rfl ?_ | refine TL.lenS rfl rfl rfl ?_ | refine TL.lenStr rfl rfl rfl ?_ | refine TL.not rfl rfl rfl ?_ | refine TL.skipG rfl rfl ?_ | refine TL.pickT rfl rfl rfl rfl ?_ | refine TL.pickF rfl rfl rfl rfl ?_ | refine TL.extract rfl rfl rfl rfl ?_ | refine TL.maxI rfl rfl rfl rfl ?_ | refine TL.minI rfl rfl rfl rfl ?_ | refine TL.nilCheckF rfl rfl rfl ?_ | refine TL.nil ?_ | refine T.seqK fun K hK => ?_ | (refine T.regionO fun ops => ?_) | refine T.condT rfl ?_ | refine T.condF rfl ?_ | refine T.block ?_ | refine T.skip ?_ | refine T.ret ?_ | refine T.exit ?_ | (refine hK _ _ ?_; clear hK K) | clear hK K | clear ops)
        refine TL.callS rfl rfl rfl (Rot_ret _ 7 _ (by simp)) ?_
        repeat (first | refine TL.move rfl rfl rfl ?_ | refine TL.assign rfl rfl rfl ?_ | refine TL.nilCheck rfl rfl rfl ?_ | refine TL.fieldAddr rfl rfl rfl ?_ | refine TL.convI rfl rfl rfl ?_ | refine TL.cmpI rfl rfl rfl rfl rfl ?_ | refine TL.arith rfl rfl rfl rfl rfl ?_ | refine TL.lenS rfl rfl rfl ?_ | refine TL.lenStr rfl rfl rfl ?_ | refine TL.not rfl rfl rfl ?_ | refine TL.skipG rfl rfl ?_ | refine TL.pickT rfl rfl rfl rfl ?_ | refine TL.pickF rfl rfl rfl rfl ?_ | refine TL.extract rfl rfl rfl rfl ?_ | refine TL.maxI rfl rfl rfl rfl ?_ | refine TL.minI rfl rfl rfl rfl ?_ | refine TL.nilCheckF rfl rfl rfl ?_ | refine TL.nil ?_ | refine T.seqK fun K hK => ?_ | (refine T.regionO fun ops => ?_) | refine T.condT rfl ?_ | refine T.condF rfl ?_ | refine T.block ?_ | refine T.skip ?_ | refine T.ret ?_ | refine T.exit ?_ | (refine hK _ _ ?_; clear hK K) | clear hK K | clear ops)
        refine TL.callS rfl rfl rfl (Rot_ret _ 18 _ (by simp)) ?_
        refine TL.ev rfl rfl (Ev.uop rfl rfl rfl) ?_
        repeat (first | refine TL.move rfl rfl rfl ?_ | refine TL.assign rfl rfl rfl ?_ | refine TL.nilCheck rfl rfl rfl ?_ | refine TL.fieldAddr rfl rfl rfl ?_ | refine TL.convI rfl rfl rfl ?_ | refine TL.cmpI rfl rfl rfl rfl rfl ?_ | refine TL.arith rfl rfl rfl rfl rfl ?_ | refine TL.lenS rfl rfl rfl ?_ | refine TL.lenStr rfl rfl rfl ?_ | refine TL.not rfl rfl rfl ?_ | refine TL.skipG rfl rfl ?_ | refine TL.pickT rfl rfl rfl rfl ?_ | refine TL.pickF rfl rfl rfl rfl ?_ | refine TL.extract rfl rfl rfl rfl ?_ | refine TL.maxI rfl rfl rfl rfl ?_ | refine TL.minI rfl rfl rfl rfl ?_ | refine TL.nilCheckF rfl rfl rfl ?_ | refine TL.nil ?_ | refine T.seqK fun K hK => ?_ | (refine T.regionO fun ops => ?_) | refine T.condT rfl ?_ | refine T.condF rfl ?_ | refine T.block ?_ | refine T.skip ?_ | refine T.ret ?_ | refine T.exit ?_ | (refine hK _ _ ?_; clear hK K) | clear hK K | clear ops)
        refine TL.ev rfl rfl (Ev.ushr (k := 3) rfl rfl rfl) ?_
        refine TL.ev rfl rfl (Ev.uop rfl rfl rfl) ?_
        repeat (first | refine TL.move rfl rfl rfl ?_ | refine TL.assign rfl rfl rfl ?_ | refine TL.nilCheck rfl rfl rfl ?_ | refine TL.fieldAddr rfl rfl rfl ?_ | refine TL.convI rfl rfl rfl ?_ | refine TL.cmpI rfl rfl rfl rfl rfl ?_ | refine TL.arith rfl rfl rfl rfl rfl ?_ | refine TL.lenS rfl rfl rfl ?_ | refine TL.lenStr rfl rfl rfl ?_ | refine TL.not rfl rfl rfl ?_ | refine TL.skipG rfl rfl ?_ | refine TL.pickT rfl rfl rfl rfl ?_ | refine TL.pickF rfl rfl rfl rfl ?_ | refine TL.extract rfl rfl rfl rfl ?_ | refine TL.maxI rfl rfl rfl rfl ?_ | refine TL.minI rfl rfl rfl rfl ?_ | refine TL.nilCheckF rfl rfl rfl ?_ | refine TL.nil ?_ | refine T.seqK fun K hK => ?_ | (refine T.regionO fun ops => ?_) | refine T.condT rfl ?_ | refine T.condF rfl ?_ | refine T.block ?_ | refine T.skip ?_ | refine T.ret ?_ | refine T.exit ?_ | (refine hK _ _ ?_; clear hK K) | clear hK K | clear ops)
        refine TL.callS rfl rfl rfl (Rot_ret _ 17 _ (by simp)) ?_
        repeat (first | refine TL.move rfl rfl rfl ?_ | refine TL.assign rfl rfl rfl ?_ | refine TL.nilCheck rfl rfl rfl ?_ | refine TL.fieldAddr rfl rfl rfl ?_ | refine TL.convI rfl rfl rfl ?_ | refine TL.cmpI rfl rfl rfl rfl rfl ?_ | refine TL.arith rfl rfl rfl rfl rfl ?_ | refine TL.lenS rfl rfl rfl ?_ | refine TL.lenStr rfl rfl rfl ?_ | refine TL.not rfl rfl rfl ?_ | refine TL.skipG rfl rfl ?_ | refine TL.pickT rfl rfl rfl rfl ?_ | refine TL.pickF rfl rfl rfl rfl ?_ | refine TL.extract rfl rfl rfl rfl ?_ | refine TL.maxI rfl rfl rfl rfl ?_ | refine TL.minI rfl rfl rfl rfl ?_ | refine TL.nilCheckF rfl rfl rfl ?_ | refine TL.nil ?_ | refine T.seqK fun K hK => ?_ | (refine T.regionO fun ops => ?_) | refine T.condT rfl ?_ | refine T.condF rfl ?_ | refine T.block ?_ | refine T.skip ?_ | refine T.ret ?_ | refine T.exit ?_ | (refine hK _ _ ?_; clear hK K) | clear hK K | clear ops)
        refine TL.callS rfl rfl rfl (Rot_ret _ 19 _ (by simp)) ?_
        refine TL.ev rfl rfl (Ev.uop rfl rfl rfl) ?_
        repeat (first | refine TL.move rfl rfl rfl ?_ | refine TL.assign rfl rfl rfl ?_ | refine TL.nilCheck rfl rfl rfl ?_ | refine TL.fieldAddr rfl rfl rfl ?_ | refine TL.convI rfl rfl rfl ?_ | refine TL.cmpI rfl rfl rfl rfl rfl ?_ | refine TL.arith rfl rfl rfl rfl rfl ?_ | refine TL.lenS rfl rfl rfl ?_ | refine TL.lenStr rfl rfl rfl ?_ | refine TL.not rfl rfl rfl ?_ | refine TL.skipG rfl rfl ?_ | refine TL.pickT rfl rfl rfl rfl ?_ | refine TL.pickF rfl rfl rfl rfl ?_ | refine TL.extract rfl rfl rfl rfl ?_ | refine TL.maxI rfl rfl rfl rfl ?_ | refine TL.minI rfl rfl rfl rfl ?_ | refine TL.nilCheckF rfl rfl rfl ?_ | refine TL.nil ?_ | refine T.seqK fun K hK => ?_ | (refine T.regionO fun ops => ?_) | refine T.condT rfl ?_ | refine T.condF rfl ?_ | refine T.block ?_ | refine T.skip ?_ | refine T.ret ?_ | refine T.exit ?_ | (refine hK _ _ ?_; clear hK K) | clear hK K | clear ops)
        refine TL.ev rfl rfl (Ev.ushr (k := 10) rfl rfl rfl) ?_
        refine TL.ev rfl rfl (Ev.uop rfl rfl rfl) ?_
        repeat (first | refine TL.move rfl rfl rfl ?_ | refine TL.assign rfl rfl rfl ?_ | refine TL.nilCheck rfl rfl rfl ?_ | refine TL.fieldAddr rfl rfl rfl ?_ | refine TL.convI rfl rfl rfl ?_ | refine TL.cmpI rfl rfl rfl rfl rfl ?_ | refine TL.arith rfl rfl rfl rfl rfl ?_ | refine TL.lenS rfl rfl rfl ?_ | refine TL.lenStr rfl rfl rfl ?_ | refine TL.not rfl rfl rfl ?_ | refine TL.skipG rfl rfl ?_ | refine TL.pickT rfl rfl rfl rfl ?_ | refine TL.pickF rfl rfl rfl rfl ?_ | refine TL.extract rfl rfl rfl rfl ?_ | refine TL.maxI rfl rfl rfl rfl ?_ | refine TL.minI rfl rfl rfl rfl ?_ | refine TL.nilCheckF rfl rfl rfl ?_ | refine TL.nil ?_ | refine T.seqK fun K hK => ?_ | (refine T.regionO fun ops => ?_) | refine T.condT rfl ?_ | refine T.condF rfl ?_ | refine T.block ?_ | refine T.skip ?_ | refine T.ret ?_ | refine T.exit ?_ | (refine hK _ _ ?_; clear hK K) | clear hK K | clear ops)
        refine T.drawTail 14 Tryd.mixed (by kernel_rfl) fun ops w4 hbel4 heq K hK => ?_
        simp only [List.take_succ_cons, List.take_zero]
        have hbel4' := hbel'.trans (hbel4.mono hbel'.size)
        have hW4 := hW'.keepA hbel4
        repeat (first | refine TS.ev rfl rfl (Ev.move rfl) ?_ | refine TS.ev rfl rfl (Ev.assign rfl) ?_ | refine TS.ev rfl rfl (Ev.nilCheck rfl) ?_ | refine TS.ev rfl rfl (Ev.fieldAddr rfl) ?_ | refine TS.ev rfl rfl (Ev.uop rfl rfl rfl) ?_ | refine TS.ev rfl rfl (Ev.cmpI rfl rfl rfl) ?_ | refine TS.ev rfl rfl (Ev.arith rfl rfl rfl) ?_ | refine TS.ev rfl rfl (Ev.convI rfl) ?_ | refine TS.ev rfl rfl (Ev.lenS rfl) ?_ | refine TS.ev rfl rfl (Ev.lenStr rfl) ?_ | refine TS.ev rfl rfl (Ev.not rfl) ?_ | refine TS.skipG rfl rfl ?_ | refine TS.ev rfl rfl (Ev.pickT rfl rfl) ?_ | refine TS.ev rfl rfl (Ev.pickF rfl rfl) ?_ | refine TS.ev rfl rfl (Ev.extract rfl rfl) ?_ | refine TS.ev rfl rfl (Ev.maxI rfl rfl) ?_ | refine TS.ev rfl rfl (Ev.minI rfl rfl) ?_ | refine TS.ev rfl rfl (Ev.nilCheckF rfl) ?_ | refine TS.nil ?_)
        refine TS.norm (nrm (j := 16 + k - 16) (by omega) (by omega)) ?_
        refine TS.ev rfl rfl (Ev.indexAddrA rfl rfl (by omega) (by omega)) ?_
        refine TS.ev rfl rfl (Ev.load1 rfl (cellW hW4 (by omega))) ?_
        repeat (first | refine TS.ev rfl rfl (Ev.move rfl) ?_ | refine TS.ev rfl rfl (Ev.assign rfl) ?_ | refine TS.ev rfl rfl (Ev.nilCheck rfl) ?_ | refine TS.ev rfl rfl (Ev.fieldAddr rfl) ?_ | refine TS.ev rfl rfl (Ev.uop rfl rfl rfl) ?_ | refine TS.ev rfl rfl (Ev.cmpI rfl rfl rfl) ?_ | refine TS.ev rfl rfl (Ev.arith rfl rfl rfl) ?_ | refine TS.ev rfl rfl (Ev.convI rfl) ?_ | refine TS.ev rfl rfl (Ev.lenS rfl) ?_ | refine TS.ev rfl rfl (Ev.lenStr rfl) ?_ | refine TS.ev rfl rfl (Ev.not rfl) ?_ | refine TS.skipG rfl rfl ?_ | refine TS.ev rfl rfl (Ev.pickT rfl rfl) ?_ | refine TS.ev rfl rfl (Ev.pickF rfl rfl) ?_ | refine TS.ev rfl rfl (Ev.extract rfl rfl) ?_ | refine TS.ev rfl rfl (Ev.maxI rfl rfl) ?_ | refine TS.ev rfl rfl (Ev.minI rfl rfl) ?_ | refine TS.ev rfl rfl (Ev.nilCheckF rfl) ?_ | refine TS.nil ?_)
        refine TS.norm (nrm (j := 16 + k - 7) (by omega) (by omega)) ?_
        refine TS.ev rfl rfl (Ev.indexAddrA rfl rfl (by omega) (by omega)) ?_
        refine TS.ev rfl rfl (Ev.load1 rfl (cellW hW4 (by omega))) ?_
        repeat (first | refine TS.ev rfl rfl (Ev.move rfl) ?_ | refine TS.ev rfl rfl (Ev.assign rfl) ?_ | refine TS.ev rfl rfl (Ev.nilCheck rfl) ?_ | refine TS.ev rfl rfl (Ev.fieldAddr rfl) ?_ | refine TS.ev rfl rfl (Ev.uop rfl rfl rfl) ?_ | refine TS.ev rfl rfl (Ev.cmpI rfl rfl rfl) ?_ | refine TS.ev rfl rfl (Ev.arith rfl rfl rfl) ?_ | refine TS.ev rfl rfl (Ev.convI rfl) ?_ | refine TS.ev rfl rfl (Ev.lenS rfl) ?_ | refine TS.ev rfl rfl (Ev.lenStr rfl) ?_ | refine TS.ev rfl rfl (Ev.not rfl) ?_ | refine TS.skipG rfl rfl ?_ | refine TS.ev rfl rfl (Ev.pickT rfl rfl) ?_ | refine TS.ev rfl rfl (Ev.pickF rfl rfl) ?_ | refine TS.ev rfl rfl (Ev.extract rfl rfl) ?_ | refine TS.ev rfl rfl (Ev.maxI rfl rfl) ?_ | refine TS.ev rfl rfl (Ev.minI rfl rfl) ?_ | refine TS.ev rfl rfl (Ev.nilCheckF rfl) ?_ | refine TS.nil ?_)
        refine hK _ ?_
        clear hK K
        simp only [List.drop_succ_cons, List.drop_zero]
        refine TL.indexAddrA rfl rfl rfl rfl (by omega) (by omega) ?_
        refine TL.storeRS (i := 16 + k) rfl rfl rfl hW4 (by simp; omega) (by rw [List.length_map]; omega) rfl fun w5 hgr hW5 hsz => ?_
        have hW6 : Row w5 wb ((sched l (k + 1)).map vu) 198 (0, 0) := by
          rw [sched, ext, ← setW]; exact hW5
        have hbel5 : Below w.heap.size w w5 := hbel4'.trans (below_grown hgr (by rw [hal.num]; exact Nat.le_refl _) hbel4'.size)
        repeat (first | refine TL.move rfl rfl rfl ?_ | refine TL.assign rfl rfl rfl ?_ | refine TL.nilCheck rfl rfl rfl ?_ | refine TL.fieldAddr rfl rfl rfl ?_ | refine TL.convI rfl rfl rfl ?_ | refine TL.cmpI rfl rfl rfl rfl rfl ?_ | refine TL.arith rfl rfl rfl rfl rfl ?_ | refine TL.lenS rfl rfl rfl ?_ | refine TL.lenStr rfl rfl rfl ?_ | refine TL.not rfl rfl rfl ?_ | refine TL.skipG rfl rfl ?_ | refine TL.pickT rfl rfl rfl rfl ?_ | refine TL.pickF rfl rfl rfl rfl ?_ | refine TL.extract rfl rfl rfl rfl ?_ | refine TL.maxI rfl rfl rfl rfl ?_ | refine TL.minI rfl rfl rfl rfl ?_ | refine TL.nilCheckF rfl rfl rfl ?_ | refine TL.nil ?_ | refine T.seqK fun K hK => ?_ | (refine T.regionO fun ops => ?_) | refine T.condT rfl ?_ | refine T.condF rfl ?_ | refine T.block ?_ | refine T.skip ?_ | refine T.ret ?_ | refine T.exit ?_ | (refine hK _ _ ?_; clear hK K) | clear hK K | clear ops)
        refine ⟨m - 1, by omega, k + 1, ?_, hbel5, hW6, by omega⟩
        repeat (first | exact Less.nil _ | refine Less.cons rfl ?_)
        refine Less.cons' rfl (nrm (by omega) (by omega)) ?_
        repeat (first | exact Less.nil _ | refine Less.cons rfl ?_)
      · have hk : k = 48 := by simp at hc; omega
        subst hk
        repeat (first | refine TL.move rfl rfl rfl ?_ | refine TL.assign rfl rfl rfl ?_ | refine TL.nilCheck rfl rfl rfl ?_ | refine TL.fieldAddr rfl rfl rfl ?_ | refine TL.convI rfl rfl rfl ?_ | refine TL.cmpI rfl rfl rfl rfl rfl ?_ | refine TL.arith rfl rfl rfl rfl rfl ?_ | refine TL.lenS rfl rfl rfl ?_ | refine TL.lenStr rfl rfl rfl ?_ | refine TL.not rfl rfl rfl ?_ | refine TL.skipG rfl rfl ?_ | refine TL.pickT rfl rfl rfl rfl ?_ | refine TL.pickF rfl rfl rfl rfl ?_ | refine TL.extract rfl rfl rfl rfl ?_ | refine TL.maxI rfl rfl rfl rfl ?_ | refine TL.minI rfl rfl rfl rfl ?_ | refine TL.nilCheckF rfl rfl rfl ?_ | refine TL.nil ?_ | refine T.seqK fun K hK => ?_ | (refine T.regionO fun ops => ?_) | refine T.condT rfl ?_ | refine T.condF rfl ?_ | refine T.block ?_ | refine T.skip ?_ | refine T.ret ?_ | refine T.exit ?_ | (refine hK _ _ ?_; clear hK K) | clear hK K | clear ops)
        obtain ⟨h0, h1, h2, h3, h4, h5, h6, h7, hh8⟩ : ∃ a b c d e f g i, h = [a, b, c, d, e, f, g, i] := by
          match h, hh with
          | [a, b, c, d, e, f, g, i], _ => exact ⟨_, _, _, _, _, _, _, _, rfl⟩
        have hrow2 : Row w2 hb (h.map vu) ht (0, 0) := hrow.keep hbel hrow.lt
        refine TL.loadA (xs := h.map vu) rfl rfl rfl (by simp [hh]) (fun j u hu => by rw [hrow2.cell]; simpa using hu) ?_
        refine TL.alloc rfl rfl fun b3 w3 hal3 => ?_
        have hz3 : Row w3 b3 ([] ++ (List.replicate 8 0).map vu ++ []) 229 (0, 0) := hal3.at_
        refine TL.storeRA (xs := h.map vu) rfl rfl rfl hz3 rfl (by simp [Value.cells]) (by simp [hh]) (by simp [hh]) (by intro u hu; obtain ⟨x, _, rfl⟩ := List.mem_map.1 hu; rfl) fun w4 hgr4 hV4 hsz4 => ?_
        have hbel3 := hbel.trans (hal3.below.mono hbel.size)
        have hbel4 : Below w.heap.size w w4 := hbel3.trans (below_grown hgr4 (by rw [hal3.num]; exact hbel.size) hbel3.size)
        have hW4 : Row w4 wb ((sched l 48).map vu) 198 (0, 0) := (hW.keepA hal3.below).keepG hgr4 (by have := hW.lt; rw [hal3.num]; simp; omega)
        simp only [List.nil_append, List.append_nil] at hV4
        clear hz3 hcell hcells hb5
        repeat (first | refine TL.move rfl rfl rfl ?_ | refine TL.assign rfl rfl rfl ?_ | refine TL.nilCheck rfl rfl rfl ?_ | refine TL.fieldAddr rfl rfl rfl ?_ | refine TL.convI rfl rfl rfl ?_ | refine TL.cmpI rfl rfl rfl rfl rfl ?_ | refine TL.arith rfl rfl rfl rfl rfl ?_ | refine TL.lenS rfl rfl rfl ?_ | refine TL.lenStr rfl rfl rfl ?_ | refine TL.not rfl rfl rfl ?_ | refine TL.skipG rfl rfl ?_ | refine TL.pickT rfl rfl rfl rfl ?_ | refine TL.pickF rfl rfl rfl rfl ?_ | refine TL.extract rfl rfl rfl rfl ?_ | refine TL.maxI rfl rfl rfl rfl ?_ | refine TL.minI rfl rfl rfl rfl ?_ | refine TL.nilCheckF rfl rfl rfl ?_ | refine TL.nil ?_ | refine T.seqK fun K hK => ?_ | (refine T.regionO fun ops => ?_) | refine T.condT rfl ?_ | refine T.condF rfl ?_ | refine T.block ?_ | refine T.skip ?_ | refine T.ret ?_ | refine T.exit ?_ | (refine hK _ _ ?_; clear hK K) | clear hK K | clear ops)
        have hK4 := hK'.keep hbel4
        refine TL.loadA (xs := kw.map vu) rfl rfl rfl rfl (fun j u hu => by simpa using hK4.2 j u hu) ?_
        repeat (first | refine TL.move rfl rfl rfl ?_ | refine TL.assign rfl rfl rfl ?_ | refine TL.nilCheck rfl rfl rfl ?_ | refine TL.fieldAddr rfl rfl rfl ?_ | refine TL.convI rfl rfl rfl ?_ | refine TL.cmpI rfl rfl rfl rfl rfl ?_ | refine TL.arith rfl rfl rfl rfl rfl ?_ | refine TL.lenS rfl rfl rfl ?_ | refine TL.lenStr rfl rfl rfl ?_ | refine TL.not rfl rfl rfl ?_ | refine TL.skipG rfl rfl ?_ | refine TL.pickT rfl rfl rfl rfl ?_ | refine TL.pickF rfl rfl rfl rfl ?_ | refine TL.extract rfl rfl rfl rfl ?_ | refine TL.maxI rfl rfl rfl rfl ?_ | refine TL.minI rfl rfl rfl rfl ?_ | refine TL.nilCheckF rfl rfl rfl ?_ | refine TL.nil ?_ | refine T.seqK fun K hK => ?_ | (refine T.regionO fun ops => ?_) | refine T.condT rfl ?_ | refine T.condF rfl ?_ | refine T.block ?_ | refine T.skip ?_ | refine T.ret ?_ | refine T.exit ?_ | (refine hK _ _ ?_; clear hK K) | clear hK K | clear ops)
        refine T.loop (fun m L w' => ∃ (k : Nat), Less [(0, .pointer (some ⟨hb, 0, none⟩)), (4, .pointer (some ⟨wb, 0, none⟩)), (11, .pointer (some ⟨b3, 0, none⟩)), (104, .agg (kw.map vu).toArray), (105, .int .i64 k)] L ∧ Below w.heap.size w w' ∧ Row w' wb ((sched l 48).map vu) 198 (0, 0) ∧ Row w' b3 ((rounds (sched l 48) h k).map vu) 229 (0, 0) ∧ k + m = 64) 64
          ⟨0, (by repeat (first | exact Less.nil _ | refine Less.cons rfl ?_)), hbel4, hW4, hV4, rfl⟩ ?_
        have hb3w : w.heap.size ≤ b3 := by rw [hal3.num]; exact hbel.size
        have hwb3 : wb ≠ b3 := by have := hW.lt; rw [hal3.num]; omega
        clear hbel4 hW4 hV4 hbel3 hgr4 hsz4 hrow2 hbel hW hL hK4
        clear m hkm
        rintro m L w2 ⟨k, hL, hbel, hW, hV, hkm⟩
        refine T.sub hL ?_
        repeat (first | refine TL.move rfl rfl rfl ?_ | refine TL.assign rfl rfl rfl ?_ | refine TL.nilCheck rfl rfl rfl ?_ | refine TL.fieldAddr rfl rfl rfl ?_ | refine TL.convI rfl rfl rfl ?_ | refine TL.cmpI rfl rfl rfl rfl rfl ?_ | refine TL.arith rfl rfl rfl rfl rfl ?_ | refine TL.lenS rfl rfl rfl ?_ | refine TL.lenStr rfl rfl rfl ?_ | refine TL.not rfl rfl rfl ?_ | refine TL.skipG rfl rfl ?_ | refine TL.pickT rfl rfl rfl rfl ?_ | refine TL.pickF rfl rfl rfl rfl ?_ | refine TL.extract rfl rfl rfl rfl ?_ | refine TL.maxI rfl rfl rfl rfl ?_ | refine TL.minI rfl rfl rfl rfl ?_ | refine TL.nilCheckF rfl rfl rfl ?_ | refine TL.nil ?_ | refine T.seqK fun K hK => ?_ | (refine T.regionO fun ops => ?_) | refine T.condT rfl ?_ | refine T.condF rfl ?_ | refine T.block ?_ | refine T.skip ?_ | refine T.ret ?_ | refine T.exit ?_ | (refine hK _ _ ?_; clear hK K) | clear hK K | clear ops)
        refine T.cond rfl (fun hc => ?_) (fun hc => ?_)
        · have hk : k < 64 := by simp at hc; omega
          obtain ⟨a, b, c, d, e, f, g, i, hv8⟩ := rounds8 (sched l 48) h hh k
          have hstep : rounds (sched l 48) h (k + 1) = rnd [a, b, c, d, e, f, g, i] (kw.getD k 0) ((sched l 48).getD k 0) := by rw [rounds, hv8]
          rw [hv8] at hV
          have hlen := sched_len l 48
          generalize sched l 48 = W at *
          repeat (first | refine TL.move rfl rfl rfl ?_ | refine TL.assign rfl rfl rfl ?_ | refine TL.nilCheck rfl rfl rfl ?_ | refine TL.fieldAddr rfl rfl rfl ?_ | refine TL.convI rfl rfl rfl ?_ | refine TL.cmpI rfl rfl rfl rfl rfl ?_ | refine TL.arith rfl rfl rfl rfl rfl ?_ | refine TL.lenS rfl rfl rfl ?_ | refine TL.lenStr rfl rfl rfl ?_ | refine TL.not rfl rfl rfl ?_ | refine TL.skipG rfl rfl ?_ | refine TL.pickT rfl rfl rfl rfl ?_ | refine TL.pickF rfl rfl rfl rfl ?_ | refine TL.extract rfl rfl rfl rfl ?_ | refine TL.maxI rfl rfl rfl rfl ?_ | refine TL.minI rfl rfl rfl rfl ?_ | refine TL.nilCheckF rfl rfl rfl ?_ | refine TL.nil ?_ | refine T.seqK fun K hK => ?_ | (refine T.regionO fun ops => ?_) | refine T.condT rfl ?_ | refine T.condF rfl ?_ | refine T.block ?_ | refine T.skip ?_ | refine T.ret ?_ | refine T.exit ?_ | (refine hK _ _ ?_; clear hK K) | clear hK K | clear ops)
          refine TL.ev rfl rfl (Ev.indexA (j := k) rfl rfl (by omega) (v := vu (kw.getD k 0)) (kwAt hk)) ?_
          repeat (first | refine TL.move rfl rfl rfl ?_ | refine TL.assign rfl rfl rfl ?_ | refine TL.nilCheck rfl rfl rfl ?_ | refine TL.fieldAddr rfl rfl rfl ?_ | refine TL.convI rfl rfl rfl ?_ | refine TL.cmpI rfl rfl rfl rfl rfl ?_ | refine TL.arith rfl rfl rfl rfl rfl ?_ | refine TL.lenS rfl rfl rfl ?_ | refine TL.lenStr rfl rfl rfl ?_ | refine TL.not rfl rfl rfl ?_ | refine TL.skipG rfl rfl ?_ | refine TL.pickT rfl rfl rfl rfl ?_ | refine TL.pickF rfl rfl rfl rfl ?_ | refine TL.extract rfl rfl rfl rfl ?_ | refine TL.maxI rfl rfl rfl rfl ?_ | refine TL.minI rfl rfl rfl rfl ?_ | refine TL.nilCheckF rfl rfl rfl ?_ | refine TL.nil ?_ | refine T.seqK fun K hK => ?_ | (refine T.regionO fun ops => ?_) | refine T.condT rfl ?_ | refine T.condF rfl ?_ | refine T.block ?_ | refine T.skip ?_ | refine T.ret ?_ | refine T.exit ?_ | (refine hK _ _ ?_; clear hK K) | clear hK K | clear ops)
          refine T.draw Tryd.mixed (by kernel_rfl) fun ops w3 hbel3 heq => ?_
          have hbel' := hbel.trans (hbel3.mono hbel.size)
          have hW' := hW.keepA hbel3
          have hV := hV.keepA hbel3
          repeat (first | refine TS.ev rfl rfl (Ev.move rfl) ?_ | refine TS.ev rfl rfl (Ev.assign rfl) ?_ | refine TS.ev rfl rfl (Ev.nilCheck rfl) ?_ | refine TS.ev rfl rfl (Ev.fieldAddr rfl) ?_ | refine TS.ev rfl rfl (Ev.uop rfl rfl rfl) ?_ | refine TS.ev rfl rfl (Ev.cmpI rfl rfl rfl) ?_ | refine TS.ev rfl rfl (Ev.arith rfl rfl rfl) ?_ | refine TS.ev rfl rfl (Ev.convI rfl) ?_ | refine TS.ev rfl rfl (Ev.lenS rfl) ?_ | refine TS.ev rfl rfl (Ev.lenStr rfl) ?_ | refine TS.ev rfl rfl (Ev.not rfl) ?_ | refine TS.skipG rfl rfl ?_ | refine TS.ev rfl rfl (Ev.pickT rfl rfl) ?_ | refine TS.ev rfl rfl (Ev.pickF rfl rfl) ?_ | refine TS.ev rfl rfl (Ev.extract rfl rfl) ?_ | refine TS.ev rfl rfl (Ev.maxI rfl rfl) ?_ | refine TS.ev rfl rfl (Ev.minI rfl rfl) ?_ | refine TS.ev rfl rfl (Ev.nilCheckF rfl) ?_ | refine TS.ev rfl rfl (Ev.unot rfl) ?_ | refine TS.ev rfl rfl (Ev.indexAddrA rfl rfl (by decide) (by decide)) ?_ | refine TS.ev rfl rfl (Ev.load1 rfl (hV.cell _)) ?_ | refine TS.nil ?_)
          clear ops
          refine hK _ _ ?_
          clear hK K
          refine T.seqK fun K hK => ?_
          refine T.draw Tryd.mixed (by kernel_rfl) fun ops w4 hbel4 heq4 => ?_
          have hbel4' := hbel'.trans (hbel4.mono hbel'.size)
          have hW4 := hW'.keepA hbel4
          have hV := hV.keepA hbel4
          repeat (first | refine TS.ev rfl rfl (Ev.move rfl) ?_ | refine TS.ev rfl rfl (Ev.assign rfl) ?_ | refine TS.ev rfl rfl (Ev.nilCheck rfl) ?_ | refine TS.ev rfl rfl (Ev.fieldAddr rfl) ?_ | refine TS.ev rfl rfl (Ev.uop rfl rfl rfl) ?_ | refine TS.ev rfl rfl (Ev.cmpI rfl rfl rfl) ?_ | refine TS.ev rfl rfl (Ev.arith rfl rfl rfl) ?_ | refine TS.ev rfl rfl (Ev.convI rfl) ?_ | refine TS.ev rfl rfl (Ev.lenS rfl) ?_ | refine TS.ev rfl rfl (Ev.lenStr rfl) ?_ | refine TS.ev rfl rfl (Ev.not rfl) ?_ | refine TS.skipG rfl rfl ?_ | refine TS.ev rfl rfl (Ev.pickT rfl rfl) ?_ | refine TS.ev rfl rfl (Ev.pickF rfl rfl) ?_ | refine TS.ev rfl rfl (Ev.extract rfl rfl) ?_ | refine TS.ev rfl rfl (Ev.maxI rfl rfl) ?_ | refine TS.ev rfl rfl (Ev.minI rfl rfl) ?_ | refine TS.ev rfl rfl (Ev.nilCheckF rfl) ?_ | refine TS.ev rfl rfl (Ev.unot rfl) ?_ | refine TS.ev rfl rfl (Ev.indexAddrA rfl rfl (by decide) (by decide)) ?_ | refine TS.ev rfl rfl (Ev.load1 rfl (hV.cell _)) ?_ | refine TS.nil ?_)
          refine TS.call rfl rfl rfl (Rot_ret _ 6 _ (by simp)) ?_
          repeat (first | refine TS.ev rfl rfl (Ev.move rfl) ?_ | refine TS.ev rfl rfl (Ev.assign rfl) ?_ | refine TS.ev rfl rfl (Ev.nilCheck rfl) ?_ | refine TS.ev rfl rfl (Ev.fieldAddr rfl) ?_ | refine TS.ev rfl rfl (Ev.uop rfl rfl rfl) ?_ | refine TS.ev rfl rfl (Ev.cmpI rfl rfl rfl) ?_ | refine TS.ev rfl rfl (Ev.arith rfl rfl rfl) ?_ | refine TS.ev rfl rfl (Ev.convI rfl) ?_ | refine TS.ev rfl rfl (Ev.lenS rfl) ?_ | refine TS.ev rfl rfl (Ev.lenStr rfl) ?_ | refine TS.ev rfl rfl (Ev.not rfl) ?_ | refine TS.skipG rfl rfl ?_ | refine TS.ev rfl rfl (Ev.pickT rfl rfl) ?_ | refine TS.ev rfl rfl (Ev.pickF rfl rfl) ?_ | refine TS.ev rfl rfl (Ev.extract rfl rfl) ?_ | refine TS.ev rfl rfl (Ev.maxI rfl rfl) ?_ | refine TS.ev rfl rfl (Ev.minI rfl rfl) ?_ | refine TS.ev rfl rfl (Ev.nilCheckF rfl) ?_ | refine TS.ev rfl rfl (Ev.unot rfl) ?_ | refine TS.ev rfl rfl (Ev.indexAddrA rfl rfl (by decide) (by decide)) ?_ | refine TS.ev rfl rfl (Ev.load1 rfl (hV.cell _)) ?_ | refine TS.nil ?_)
          refine TS.call rfl rfl rfl (Rot_ret _ 11 _ (by simp)) ?_
          repeat (first | refine TS.ev rfl rfl (Ev.move rfl) ?_ | refine TS.ev rfl rfl (Ev.assign rfl) ?_ | refine TS.ev rfl rfl (Ev.nilCheck rfl) ?_ | refine TS.ev rfl rfl (Ev.fieldAddr rfl) ?_ | refine TS.ev rfl rfl (Ev.uop rfl rfl rfl) ?_ | refine TS.ev rfl rfl (Ev.cmpI rfl rfl rfl) ?_ | refine TS.ev rfl rfl (Ev.arith rfl rfl rfl) ?_ | refine TS.ev rfl rfl (Ev.convI rfl) ?_ | refine TS.ev rfl rfl (Ev.lenS rfl) ?_ | refine TS.ev rfl rfl (Ev.lenStr rfl) ?_ | refine TS.ev rfl rfl (Ev.not rfl) ?_ | refine TS.skipG rfl rfl ?_ | refine TS.ev rfl rfl (Ev.pickT rfl rfl) ?_ | refine TS.ev rfl rfl (Ev.pickF rfl rfl) ?_ | refine TS.ev rfl rfl (Ev.extract rfl rfl) ?_ | refine TS.ev rfl rfl (Ev.maxI rfl rfl) ?_ | refine TS.ev rfl rfl (Ev.minI rfl rfl) ?_ | refine TS.ev rfl rfl (Ev.nilCheckF rfl) ?_ | refine TS.ev rfl rfl (Ev.unot rfl) ?_ | refine TS.ev rfl rfl (Ev.indexAddrA rfl rfl (by decide) (by decide)) ?_ | refine TS.ev rfl rfl (Ev.load1 rfl (hV.cell _)) ?_ | refine TS.nil ?_)
          refine TS.call rfl rfl rfl (Rot_ret _ 25 _ (by simp)) ?_
          repeat (first | refine TS.ev rfl rfl (Ev.move rfl) ?_ | refine TS.ev rfl rfl (Ev.assign rfl) ?_ | refine TS.ev rfl rfl (Ev.nilCheck rfl) ?_ | refine TS.ev rfl rfl (Ev.fieldAddr rfl) ?_ | refine TS.ev rfl rfl (Ev.uop rfl rfl rfl) ?_ | refine TS.ev rfl rfl (Ev.cmpI rfl rfl rfl) ?_ | refine TS.ev rfl rfl (Ev.arith rfl rfl rfl) ?_ | refine TS.ev rfl rfl (Ev.convI rfl) ?_ | refine TS.ev rfl rfl (Ev.lenS rfl) ?_ | refine TS.ev rfl rfl (Ev.lenStr rfl) ?_ | refine TS.ev rfl rfl (Ev.not rfl) ?_ | refine TS.skipG rfl rfl ?_ | refine TS.ev rfl rfl (Ev.pickT rfl rfl) ?_ | refine TS.ev rfl rfl (Ev.pickF rfl rfl) ?_ | refine TS.ev rfl rfl (Ev.extract rfl rfl) ?_ | refine TS.ev rfl rfl (Ev.maxI rfl rfl) ?_ | refine TS.ev rfl rfl (Ev.minI rfl rfl) ?_ | refine TS.ev rfl rfl (Ev.nilCheckF rfl) ?_ | refine TS.ev rfl rfl (Ev.unot rfl) ?_ | refine TS.ev rfl rfl (Ev.indexAddrA rfl rfl (by decide) (by decide)) ?_ | refine TS.ev rfl rfl (Ev.load1 rfl (hV.cell _)) ?_ | refine TS.nil ?_)
          refine TS.ev rfl rfl (Ev.indexAddrA rfl rfl (by omega) (by omega)) ?_
          refine TS.ev rfl rfl (Ev.load1 rfl (cellW hW4 (by omega))) ?_
          repeat (first | refine TS.ev rfl rfl (Ev.move rfl) ?_ | refine TS.ev rfl rfl (Ev.assign rfl) ?_ | refine TS.ev rfl rfl (Ev.nilCheck rfl) ?_ | refine TS.ev rfl rfl (Ev.fieldAddr rfl) ?_ | refine TS.ev rfl rfl (Ev.uop rfl rfl rfl) ?_ | refine TS.ev rfl rfl (Ev.cmpI rfl rfl rfl) ?_ | refine TS.ev rfl rfl (Ev.arith rfl rfl rfl) ?_ | refine TS.ev rfl rfl (Ev.convI rfl) ?_ | refine TS.ev rfl rfl (Ev.lenS rfl) ?_ | refine TS.ev rfl rfl (Ev.lenStr rfl) ?_ | refine TS.ev rfl rfl (Ev.not rfl) ?_ | refine TS.skipG rfl rfl ?_ | refine TS.ev rfl rfl (Ev.pickT rfl rfl) ?_ | refine TS.ev rfl rfl (Ev.pickF rfl rfl) ?_ | refine TS.ev rfl rfl (Ev.extract rfl rfl) ?_ | refine TS.ev rfl rfl (Ev.maxI rfl rfl) ?_ | refine TS.ev rfl rfl (Ev.minI rfl rfl) ?_ | refine TS.ev rfl rfl (Ev.nilCheckF rfl) ?_ | refine TS.ev rfl rfl (Ev.unot rfl) ?_ | refine TS.ev rfl rfl (Ev.indexAddrA rfl rfl (by decide) (by decide)) ?_ | refine TS.ev rfl rfl (Ev.load1 rfl (hV.cell _)) ?_ | refine TS.nil ?_)
          clear ops
          refine hK _ _ ?_
          clear hK K
          refine T.seqK fun K hK => ?_
          refine T.draw Tryd.mixed (by kernel_rfl) fun ops w5 hbel5 heq5 => ?_
          have hbel5' := hbel4'.trans (hbel5.mono hbel4'.size)
          have hW5 := hW4.keepA hbel5
          have hV := hV.keepA hbel5
          repeat (first | refine TS.ev rfl rfl (Ev.move rfl) ?_ | refine TS.ev rfl rfl (Ev.assign rfl) ?_ | refine TS.ev rfl rfl (Ev.nilCheck rfl) ?_ | refine TS.ev rfl rfl (Ev.fieldAddr rfl) ?_ | refine TS.ev rfl rfl (Ev.uop rfl rfl rfl) ?_ | refine TS.ev rfl rfl (Ev.cmpI rfl rfl rfl) ?_ | refine TS.ev rfl rfl (Ev.arith rfl rfl rfl) ?_ | refine TS.ev rfl rfl (Ev.convI rfl) ?_ | refine TS.ev rfl rfl (Ev.lenS rfl) ?_ | refine TS.ev rfl rfl (Ev.lenStr rfl) ?_ | refine TS.ev rfl rfl (Ev.not rfl) ?_ | refine TS.skipG rfl rfl ?_ | refine TS.ev rfl rfl (Ev.pickT rfl rfl) ?_ | refine TS.ev rfl rfl (Ev.pickF rfl rfl) ?_ | refine TS.ev rfl rfl (Ev.extract rfl rfl) ?_ | refine TS.ev rfl rfl (Ev.maxI rfl rfl) ?_ | refine TS.ev rfl rfl (Ev.minI rfl rfl) ?_ | refine TS.ev rfl rfl (Ev.nilCheckF rfl) ?_ | refine TS.ev rfl rfl (Ev.unot rfl) ?_ | refine TS.ev rfl rfl (Ev.indexAddrA rfl rfl (by decide) (by decide)) ?_ | refine TS.ev rfl rfl (Ev.load1 rfl (hV.cell _)) ?_ | refine TS.nil ?_)
          refine TS.call rfl rfl rfl (Rot_ret _ 2 _ (by simp)) ?_
          repeat (first | refine TS.ev rfl rfl (Ev.move rfl) ?_ | refine TS.ev rfl rfl (Ev.assign rfl) ?_ | refine TS.ev rfl rfl (Ev.nilCheck rfl) ?_ | refine TS.ev rfl rfl (Ev.fieldAddr rfl) ?_ | refine TS.ev rfl rfl (Ev.uop rfl rfl rfl) ?_ | refine TS.ev rfl rfl (Ev.cmpI rfl rfl rfl) ?_ | refine TS.ev rfl rfl (Ev.arith rfl rfl rfl) ?_ | refine TS.ev rfl rfl (Ev.convI rfl) ?_ | refine TS.ev rfl rfl (Ev.lenS rfl) ?_ | refine TS.ev rfl rfl (Ev.lenStr rfl) ?_ | refine TS.ev rfl rfl (Ev.not rfl) ?_ | refine TS.skipG rfl rfl ?_ | refine TS.ev rfl rfl (Ev.pickT rfl rfl) ?_ | refine TS.ev rfl rfl (Ev.pickF rfl rfl) ?_ | refine TS.ev rfl rfl (Ev.extract rfl rfl) ?_ | refine TS.ev rfl rfl (Ev.maxI rfl rfl) ?_ | refine TS.ev rfl rfl (Ev.minI rfl rfl) ?_ | refine TS.ev rfl rfl (Ev.nilCheckF rfl) ?_ | refine TS.ev rfl rfl (Ev.unot rfl) ?_ | refine TS.ev rfl rfl (Ev.indexAddrA rfl rfl (by decide) (by decide)) ?_ | refine TS.ev rfl rfl (Ev.load1 rfl (hV.cell _)) ?_ | refine TS.nil ?_)
          refine TS.call rfl rfl rfl (Rot_ret _ 13 _ (by simp)) ?_
          repeat (first | refine TS.ev rfl rfl (Ev.move rfl) ?_ | refine TS.ev rfl rfl (Ev.assign rfl) ?_ | refine TS.ev rfl rfl (Ev.nilCheck rfl) ?_ | refine TS.ev rfl rfl (Ev.fieldAddr rfl) ?_ | refine TS.ev rfl rfl (Ev.uop rfl rfl rfl) ?_ | refine TS.ev rfl rfl (Ev.cmpI rfl rfl rfl) ?_ | refine TS.ev rfl rfl (Ev.arith rfl rfl rfl) ?_ | refine TS.ev rfl rfl (Ev.convI rfl) ?_ | refine TS.ev rfl rfl (Ev.lenS rfl) ?_ | refine TS.ev rfl rfl (Ev.lenStr rfl) ?_ | refine TS.ev rfl rfl (Ev.not rfl) ?_ | refine TS.skipG rfl rfl ?_ | refine TS.ev rfl rfl (Ev.pickT rfl rfl) ?_ | refine TS.ev rfl rfl (Ev.pickF rfl rfl) ?_ | refine TS.ev rfl rfl (Ev.extract rfl rfl) ?_ | refine TS.ev rfl rfl (Ev.maxI rfl rfl) ?_ | refine TS.ev rfl rfl (Ev.minI rfl rfl) ?_ | refine TS.ev rfl rfl (Ev.nilCheckF rfl) ?_ | refine TS.ev rfl rfl (Ev.unot rfl) ?_ | refine TS.ev rfl rfl (Ev.indexAddrA rfl rfl (by decide) (by decide)) ?_ | refine TS.ev rfl rfl (Ev.load1 rfl (hV.cell _)) ?_ | refine TS.nil ?_)
          refine TS.call rfl rfl rfl (Rot_ret _ 22 _ (by simp)) ?_
          repeat (first | refine TS.ev rfl rfl (Ev.move rfl) ?_ | refine TS.ev rfl rfl (Ev.assign rfl) ?_ | refine TS.ev rfl rfl (Ev.nilCheck rfl) ?_ | refine TS.ev rfl rfl (Ev.fieldAddr rfl) ?_ | refine TS.ev rfl rfl (Ev.uop rfl rfl rfl) ?_ | refine TS.ev rfl rfl (Ev.cmpI rfl rfl rfl) ?_ | refine TS.ev rfl rfl (Ev.arith rfl rfl rfl) ?_ | refine TS.ev rfl rfl (Ev.convI rfl) ?_ | refine TS.ev rfl rfl (Ev.lenS rfl) ?_ | refine TS.ev rfl rfl (Ev.lenStr rfl) ?_ | refine TS.ev rfl rfl (Ev.not rfl) ?_ | refine TS.skipG rfl rfl ?_ | refine TS.ev rfl rfl (Ev.pickT rfl rfl) ?_ | refine TS.ev rfl rfl (Ev.pickF rfl rfl) ?_ | refine TS.ev rfl rfl (Ev.extract rfl rfl) ?_ | refine TS.ev rfl rfl (Ev.maxI rfl rfl) ?_ | refine TS.ev rfl rfl (Ev.minI rfl rfl) ?_ | refine TS.ev rfl rfl (Ev.nilCheckF rfl) ?_ | refine TS.ev rfl rfl (Ev.unot rfl) ?_ | refine TS.ev rfl rfl (Ev.indexAddrA rfl rfl (by decide) (by decide)) ?_ | refine TS.ev rfl rfl (Ev.load1 rfl (hV.cell _)) ?_ | refine TS.nil ?_)
          clear ops
          refine hK _ _ ?_
          clear hK K
          refine T.regionO fun ops => ?_
          repeat (first | refine TL.move rfl rfl rfl ?_ | refine TL.assign rfl rfl rfl ?_ | refine TL.ev rfl rfl (Ev.uop rfl rfl rfl) ?_ | refine TL.ev rfl rfl (Ev.indexAddrA rfl rfl (by decide) (by decide)) ?_ | refine TL.ev rfl rfl (Ev.load1 rfl (hV.cell _)) ?_ | refine TL.nilCheck rfl rfl rfl ?_ | refine TL.fieldAddr rfl rfl rfl ?_)
          refine TL.ev rfl rfl (Ev.buildA (vs := [vu _, vu a, vu b, vu c, vu (d + _), vu e, vu f, vu g]) rfl rfl rfl (by intro v hv; simp at hv; rcases hv with rfl | rfl | rfl | rfl | rfl | rfl | rfl | rfl <;> rfl)) ?_
          refine TL.storeRA (A := []) (C := []) (old := [a, b, c, d, e, f, g, i].map vu) (xs := (rnd [a, b, c, d, e, f, g, i] (kw.getD k 0) (W.getD k 0)).map vu) rfl rfl rfl (by simpa using hV) rfl rfl rfl rfl (by intro u hu; obtain ⟨x, _, rfl⟩ := List.mem_map.1 hu; rfl) fun w6 hgr6 hV6 hsz6 => ?_
          have hbel6 : Below w.heap.size w w6 := hbel5'.trans (below_grown hgr6 hb3w hbel5'.size)
          have hW6 := hW5.keepG hgr6 (by simpa using hwb3)
          simp only [List.nil_append, List.append_nil] at hV6
          repeat (first | refine TL.move rfl rfl rfl ?_ | refine TL.assign rfl rfl rfl ?_ | refine TL.nilCheck rfl rfl rfl ?_ | refine TL.fieldAddr rfl rfl rfl ?_ | refine TL.convI rfl rfl rfl ?_ | refine TL.cmpI rfl rfl rfl rfl rfl ?_ | refine TL.arith rfl rfl rfl rfl rfl ?_ | refine TL.lenS rfl rfl rfl ?_ | refine TL.lenStr rfl rfl rfl ?_ | refine TL.not rfl rfl rfl ?_ | refine TL.skipG rfl rfl ?_ | refine TL.pickT rfl rfl rfl rfl ?_ | refine TL.pickF rfl rfl rfl rfl ?_ | refine TL.extract rfl rfl rfl rfl ?_ | refine TL.maxI rfl rfl rfl rfl ?_ | refine TL.minI rfl rfl rfl rfl ?_ | refine TL.nilCheckF rfl rfl rfl ?_ | refine TL.nil ?_ | refine T.seqK fun K hK => ?_ | (refine T.regionO fun ops => ?_) | refine T.condT rfl ?_ | refine T.condF rfl ?_ | refine T.block ?_ | refine T.skip ?_ | refine T.ret ?_ | refine T.exit ?_ | (refine hK _ _ ?_; clear hK K) | clear hK K | clear ops)
          refine ⟨m - 1, by omega, k + 1, ?_, hbel6, hW6, by rw [hstep]; exact hV6, by omega⟩
          repeat (first | exact Less.nil _ | refine Less.cons rfl ?_)
          refine Less.cons' rfl (by rw [wr_succ (by omega)]) ?_
          repeat (first | exact Less.nil _ | refine Less.cons rfl ?_)
        · have hk : k = 64 := by simp at hc; omega
          subst hk
          have hv8 : (rounds (sched l 48) h 64).length = 8 := by
            obtain ⟨a, b, c, d, e, f, g, i, hv8⟩ := rounds8 (sched l 48) h hh 64
            rw [hv8]; rfl
          have hrow2 : Row w2 hb (h.map vu) ht (0, 0) := hrow.keep hbel hrow.lt
          have hgr2 : w.grownBy w2 (some hb) := grown_below hbel _
          have hres : blockF h l = addTo h (rounds (sched l 48) h 64) 8 := by
            unfold blockF addTo
            rw [List.take_of_length_le (by omega), List.take_of_length_le (by omega), List.drop_eq_nil_of_le (by omega), List.append_nil]
          generalize rounds (sched l 48) h 64 = v at *
          have hlt := hrow.lt
          have hne : hb ≠ b3 := by omega
          repeat (first | refine TL.move rfl rfl rfl ?_ | refine TL.assign rfl rfl rfl ?_ | refine TL.nilCheck rfl rfl rfl ?_ | refine TL.fieldAddr rfl rfl rfl ?_ | refine TL.convI rfl rfl rfl ?_ | refine TL.cmpI rfl rfl rfl rfl rfl ?_ | refine TL.arith rfl rfl rfl rfl rfl ?_ | refine TL.lenS rfl rfl rfl ?_ | refine TL.lenStr rfl rfl rfl ?_ | refine TL.not rfl rfl rfl ?_ | refine TL.skipG rfl rfl ?_ | refine TL.pickT rfl rfl rfl rfl ?_ | refine TL.pickF rfl rfl rfl rfl ?_ | refine TL.extract rfl rfl rfl rfl ?_ | refine TL.maxI rfl rfl rfl rfl ?_ | refine TL.minI rfl rfl rfl rfl ?_ | refine TL.nilCheckF rfl rfl rfl ?_ | refine TL.nil ?_ | refine T.seqK fun K hK => ?_ | (refine T.regionO fun ops => ?_) | refine T.condT rfl ?_ | refine T.condF rfl ?_ | refine T.block ?_ | refine T.skip ?_ | refine T.ret ?_ | refine T.exit ?_ | (refine hK _ _ ?_; clear hK K) | clear hK K | clear ops)
          refine T.loop (fun m L w' => ∃ (k : Nat), Less [(0, .pointer (some ⟨hb, 0, none⟩)), (11, .pointer (some ⟨b3, 0, none⟩)), (186, .int .i64 k)] L ∧ w.grownBy w' (some hb) ∧ Row w' hb ((addTo h v k).map vu) ht (0, 0) ∧ Row w' b3 (v.map vu) 229 (0, 0) ∧ k + m = 8) 8
            ⟨0, (by repeat (first | exact Less.nil _ | refine Less.cons rfl ?_)), hgr2, hrow2, hV, rfl⟩ ?_
          clear hbel hW hL hV hgr2 hrow2
          clear m hkm
          rintro m L w3 ⟨k, hL, hgr, hR, hV, hkm⟩
          refine T.sub hL ?_
          repeat (first | refine TL.move rfl rfl rfl ?_ | refine TL.assign rfl rfl rfl ?_ | refine TL.nilCheck rfl rfl rfl ?_ | refine TL.fieldAddr rfl rfl rfl ?_ | refine TL.convI rfl rfl rfl ?_ | refine TL.cmpI rfl rfl rfl rfl rfl ?_ | refine TL.arith rfl rfl rfl rfl rfl ?_ | refine TL.lenS rfl rfl rfl ?_ | refine TL.lenStr rfl rfl rfl ?_ | refine TL.not rfl rfl rfl ?_ | refine TL.skipG rfl rfl ?_ | refine TL.pickT rfl rfl rfl rfl ?_ | refine TL.pickF rfl rfl rfl rfl ?_ | refine TL.extract rfl rfl rfl rfl ?_ | refine TL.maxI rfl rfl rfl rfl ?_ | refine TL.minI rfl rfl rfl rfl ?_ | refine TL.nilCheckF rfl rfl rfl ?_ | refine TL.nil ?_ | refine T.seqK fun K hK => ?_ | (refine T.regionO fun ops => ?_) | refine T.condT rfl ?_ | refine T.condF rfl ?_ | refine T.block ?_ | refine T.skip ?_ | refine T.ret ?_ | refine T.exit ?_ | (refine hK _ _ ?_; clear hK K) | clear hK K | clear ops)
          refine T.cond rfl (fun hc => ?_) (fun hc => ?_)
          · have hk : k < 8 := by simp at hc; omega
            repeat (first | refine TL.move rfl rfl rfl ?_ | refine TL.assign rfl rfl rfl ?_ | refine TL.nilCheck rfl rfl rfl ?_ | refine TL.fieldAddr rfl rfl rfl ?_ | refine TL.convI rfl rfl rfl ?_ | refine TL.cmpI rfl rfl rfl rfl rfl ?_ | refine TL.arith rfl rfl rfl rfl rfl ?_ | refine TL.lenS rfl rfl rfl ?_ | refine TL.lenStr rfl rfl rfl ?_ | refine TL.not rfl rfl rfl ?_ | refine TL.skipG rfl rfl ?_ | refine TL.pickT rfl rfl rfl rfl ?_ | refine TL.pickF rfl rfl rfl rfl ?_ | refine TL.extract rfl rfl rfl rfl ?_ | refine TL.maxI rfl rfl rfl rfl ?_ | refine TL.minI rfl rfl rfl rfl ?_ | refine TL.nilCheckF rfl rfl rfl ?_ | refine TL.nil ?_ | refine T.seqK fun K hK => ?_ | (refine T.regionO fun ops => ?_) | refine T.condT rfl ?_ | refine T.condF rfl ?_ | refine T.block ?_ | refine T.skip ?_ | refine T.ret ?_ | refine T.exit ?_ | (refine hK _ _ ?_; clear hK K) | clear hK K | clear ops)
            refine T.drawTail 10 Tryd.mixed (by kernel_rfl) fun ops w4 hbel4 heq K hK => ?_
            simp only [List.take_succ_cons, List.take_zero]
            have hR4 := hR.keepA hbel4
            have hV4 := hV.keepA hbel4
            have hlenR : (addTo h v k).length = 8 := by rw [addTo_len h v k (by omega)]; exact hh
            repeat (first | refine TS.ev rfl rfl (Ev.move rfl) ?_ | refine TS.ev rfl rfl (Ev.assign rfl) ?_ | refine TS.ev rfl rfl (Ev.nilCheck rfl) ?_ | refine TS.ev rfl rfl (Ev.fieldAddr rfl) ?_ | refine TS.ev rfl rfl (Ev.uop rfl rfl rfl) ?_ | refine TS.ev rfl rfl (Ev.cmpI rfl rfl rfl) ?_ | refine TS.ev rfl rfl (Ev.arith rfl rfl rfl) ?_ | refine TS.ev rfl rfl (Ev.convI rfl) ?_ | refine TS.ev rfl rfl (Ev.lenS rfl) ?_ | refine TS.ev rfl rfl (Ev.lenStr rfl) ?_ | refine TS.ev rfl rfl (Ev.not rfl) ?_ | refine TS.skipG rfl rfl ?_ | refine TS.ev rfl rfl (Ev.pickT rfl rfl) ?_ | refine TS.ev rfl rfl (Ev.pickF rfl rfl) ?_ | refine TS.ev rfl rfl (Ev.extract rfl rfl) ?_ | refine TS.ev rfl rfl (Ev.maxI rfl rfl) ?_ | refine TS.ev rfl rfl (Ev.minI rfl rfl) ?_ | refine TS.ev rfl rfl (Ev.nilCheckF rfl) ?_ | refine TS.nil ?_)
            refine TS.ev rfl rfl (Ev.indexAddrA rfl rfl (by omega) (by omega)) ?_
            refine TS.ev rfl rfl (Ev.load1 rfl (cellW hR4 (by omega))) ?_
            repeat (first | refine TS.ev rfl rfl (Ev.move rfl) ?_ | refine TS.ev rfl rfl (Ev.assign rfl) ?_ | refine TS.ev rfl rfl (Ev.nilCheck rfl) ?_ | refine TS.ev rfl rfl (Ev.fieldAddr rfl) ?_ | refine TS.ev rfl rfl (Ev.uop rfl rfl rfl) ?_ | refine TS.ev rfl rfl (Ev.cmpI rfl rfl rfl) ?_ | refine TS.ev rfl rfl (Ev.arith rfl rfl rfl) ?_ | refine TS.ev rfl rfl (Ev.convI rfl) ?_ | refine TS.ev rfl rfl (Ev.lenS rfl) ?_ | refine TS.ev rfl rfl (Ev.lenStr rfl) ?_ | refine TS.ev rfl rfl (Ev.not rfl) ?_ | refine TS.skipG rfl rfl ?_ | refine TS.ev rfl rfl (Ev.pickT rfl rfl) ?_ | refine TS.ev rfl rfl (Ev.pickF rfl rfl) ?_ | refine TS.ev rfl rfl (Ev.extract rfl rfl) ?_ | refine TS.ev rfl rfl (Ev.maxI rfl rfl) ?_ | refine TS.ev rfl rfl (Ev.minI rfl rfl) ?_ | refine TS.ev rfl rfl (Ev.nilCheckF rfl) ?_ | refine TS.nil ?_)
            refine TS.ev rfl rfl (Ev.indexAddrA rfl rfl (by omega) (by omega)) ?_
            refine TS.ev rfl rfl (Ev.load1 rfl (cellW hV4 (by omega))) ?_
            repeat (first | refine TS.ev rfl rfl (Ev.move rfl) ?_ | refine TS.ev rfl rfl (Ev.assign rfl) ?_ | refine TS.ev rfl rfl (Ev.nilCheck rfl) ?_ | refine TS.ev rfl rfl (Ev.fieldAddr rfl) ?_ | refine TS.ev rfl rfl (Ev.uop rfl rfl rfl) ?_ | refine TS.ev rfl rfl (Ev.cmpI rfl rfl rfl) ?_ | refine TS.ev rfl rfl (Ev.arith rfl rfl rfl) ?_ | refine TS.ev rfl rfl (Ev.convI rfl) ?_ | refine TS.ev rfl rfl (Ev.lenS rfl) ?_ | refine TS.ev rfl rfl (Ev.lenStr rfl) ?_ | refine TS.ev rfl rfl (Ev.not rfl) ?_ | refine TS.skipG rfl rfl ?_ | refine TS.ev rfl rfl (Ev.pickT rfl rfl) ?_ | refine TS.ev rfl rfl (Ev.pickF rfl rfl) ?_ | refine TS.ev rfl rfl (Ev.extract rfl rfl) ?_ | refine TS.ev rfl rfl (Ev.maxI rfl rfl) ?_ | refine TS.ev rfl rfl (Ev.minI rfl rfl) ?_ | refine TS.ev rfl rfl (Ev.nilCheckF rfl) ?_ | refine TS.nil ?_)
            refine hK _ ?_
            clear hK K
            simp only [List.drop_succ_cons, List.drop_zero]
            refine TL.indexAddrA rfl rfl rfl rfl (by omega) (by omega) ?_
            refine TL.storeRS (i := k) rfl rfl rfl hR4 (by simp) (by rw [List.length_map]; omega) rfl fun w5 hgr5 hR5 hsz => ?_
            have hR6 : Row w5 hb ((addTo h v (k + 1)).map vu) ht (0, 0) := by
              rw [← addTo_succ h v k (by omega) (by omega), ← setW]
              rw [addTo_get h v k (by omega) (by omega)] at hR5
              exact hR5
            have hgr6 := grown_trans (grown_trans hgr (grown_below hbel4 _)) hgr5
            have hV6 := hV4.keepG hgr5 (by simpa using (Ne.symm hne))
            repeat (first | refine TL.move rfl rfl rfl ?_ | refine TL.assign rfl rfl rfl ?_ | refine TL.nilCheck rfl rfl rfl ?_ | refine TL.fieldAddr rfl rfl rfl ?_ | refine TL.convI rfl rfl rfl ?_ | refine TL.cmpI rfl rfl rfl rfl rfl ?_ | refine TL.arith rfl rfl rfl rfl rfl ?_ | refine TL.lenS rfl rfl rfl ?_ | refine TL.lenStr rfl rfl rfl ?_ | refine TL.not rfl rfl rfl ?_ | refine TL.skipG rfl rfl ?_ | refine TL.pickT rfl rfl rfl rfl ?_ | refine TL.pickF rfl rfl rfl rfl ?_ | refine TL.extract rfl rfl rfl rfl ?_ | refine TL.maxI rfl rfl rfl rfl ?_ | refine TL.minI rfl rfl rfl rfl ?_ | refine TL.nilCheckF rfl rfl rfl ?_ | refine TL.nil ?_ | refine T.seqK fun K hK => ?_ | (refine T.regionO fun ops => ?_) | refine T.condT rfl ?_ | refine T.condF rfl ?_ | refine T.block ?_ | refine T.skip ?_ | refine T.ret ?_ | refine T.exit ?_ | (refine hK _ _ ?_; clear hK K) | clear hK K | clear ops)
            refine ⟨m - 1, by omega, k + 1, ?_, hgr6, hR6, hV6, by omega⟩
            repeat (first | exact Less.nil _ | refine Less.cons rfl ?_)
            refine Less.cons' rfl (by rw [wr_succ (by omega)]) ?_
            repeat (first | exact Less.nil _ | refine Less.cons rfl ?_)
          · have hk : k = 8 := by simp at hc; omega
            subst hk
            repeat (first | refine TL.move rfl rfl rfl ?_ | refine TL.assign rfl rfl rfl ?_ | refine TL.nilCheck rfl rfl rfl ?_ | refine TL.fieldAddr rfl rfl rfl ?_ | refine TL.convI rfl rfl rfl ?_ | refine TL.cmpI rfl rfl rfl rfl rfl ?_ | refine TL.arith rfl rfl rfl rfl rfl ?_ | refine TL.lenS rfl rfl rfl ?_ | refine TL.lenStr rfl rfl rfl ?_ | refine TL.not rfl rfl rfl ?_ | refine TL.skipG rfl rfl ?_ | refine TL.pickT rfl rfl rfl rfl ?_ | refine TL.pickF rfl rfl rfl rfl ?_ | refine TL.extract rfl rfl rfl rfl ?_ | refine TL.maxI rfl rfl rfl rfl ?_ | refine TL.minI rfl rfl rfl rfl ?_ | refine TL.nilCheckF rfl rfl rfl ?_ | refine TL.nil ?_ | refine T.seqK fun K hK => ?_ | (refine T.regionO fun ops => ?_) | refine T.condT rfl ?_ | refine T.condF rfl ?_ | refine T.block ?_ | refine T.skip ?_ | refine T.ret ?_ | refine T.exit ?_ | (refine hK _ _ ?_; clear hK K) | clear hK K | clear ops)
            exact ⟨_, rfl, rfl, hgr, by rw [hres]; exact hR⟩
end Go.Proofs
