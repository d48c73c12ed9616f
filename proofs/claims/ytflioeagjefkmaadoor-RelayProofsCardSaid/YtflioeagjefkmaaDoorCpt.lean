/- What slices.CompactFunc comes to at texts. Conditions: as the theorem says. -/
import Derived.Test.YtflioeagjefkmaaDoorTre
import Derived.Test.YtflioeagjefkmaaDoorCmp
import Derived.Test.YtflioeagjefkmaaDoorFwK
set_option linter.all false
namespace Go.Proofs
open Go.Fw Go.RowKit
attribute [local irreducible] TL T TS Ev Ret

/-- of neighbours that are alike the first one: of the first i -/
def ddA (l : List (List UInt8)) : Nat → List (List UInt8)
  | 0 => []
  | i + 1 => ddA l i ++ (match l[i]? with | some x => if i = 0 ∨ (l[i - 1]?.getD [] == x) = false then [x] else [] | none => [])
def ddF (l : List (List UInt8)) : List (List UInt8) := ddA l l.length
theorem ddA_len (l : List (List UInt8)) : ∀ i, (ddA l i).length ≤ i
  | 0 => by simp [ddA]
  | i + 1 => by
    have := ddA_len l i
    rw [ddA]
    split
    · split <;> simp <;> omega
    · simp; omega
theorem ddA_keep {l : List (List UInt8)} {i : Nat} {x y : List UInt8} (hi : l[i + 1]? = some x) (hy : l[i]? = some y) (h : (y == x) = false) : ddA l (i + 1 + 1) = ddA l (i + 1) ++ [x] := by
  rw [ddA, hi]; simp only [Nat.add_sub_cancel, hy, Option.getD_some, h]; simp
theorem ddA_drop {l : List (List UInt8)} {i : Nat} {x y : List UInt8} (hi : l[i + 1]? = some x) (hy : l[i]? = some y) (h : (y == x) = true) : ddA l (i + 1 + 1) = ddA l (i + 1) := by
  rw [ddA, hi]; simp only [Nat.add_sub_cancel, hy, Option.getD_some, h]; simp

theorem ddF_short {l : List (List UInt8)} (h : l.length < 2) : ddF l = l := by
  match l, h with
  | [], _ => rfl
  | [a], _ => simp [ddF, ddA]
theorem map_single_flat : ∀ D : List Value, (D.map ([·])).flatten = D
  | [] => rfl
  | a :: D => by simp [map_single_flat D]
theorem wr_pred {k : Nat} (h : 0 < k) (h2 : k < 9223372036854775807) : IntKind.i64.wrap ((k : Int) - 1) = ((k - 1 : Nat) : Int) := by
  rw [wr_i64 (by omega) (by omega)]; omega

set_option maxRecDepth 20000 in
set_option maxHeartbeats 4000000 in
theorem Compact_ret (w0 : World) (v : Value) (l : List (List UInt8)) (w : World) (hl : Lst bytesE w0.heap.size w0 w 23 v l) (hn : l.length ≤ 2 ^ 40) :
    Ret Tryd.prog 84 #[v, .func (.func 43) #[] #[]] w fun u w' => Below w0.heap.size w w' ∧ Lsr bytesE Any w' u (ddF l) := by
  have hlsr := hl.lsr
  have hB : w0.heap.size ≤ w.heap.size := hl.below.size
  obtain ⟨xss, ha, hb⟩ := hl.ex
  obtain ⟨va, vc, rfl⟩ := ha.shape
  by_cases h2 : l.length < 2
  · refine Ret.of_T Tryd.func84 rfl Tryd.ntmps84 Tryd.results84 rfl ?_
    repeat (first | refine TL.move rfl rfl rfl ?_ | refine TL.assign rfl rfl rfl ?_ | refine TL.nilCheck rfl rfl rfl ?_ | refine TL.fieldAddr rfl rfl rfl ?_ | refine TL.convI rfl rfl rfl ?_ | refine TL.cmpI rfl rfl rfl rfl rfl ?_ | refine TL.arith rfl rfl rfl rfl rfl ?_ | refine TL.lenS rfl rfl rfl ?_ | refine TL.lenStr rfl rfl rfl ?_ | refine TL.not rfl rfl rfl ?_ | refine TL.skipG rfl rfl ?_ | refine TL.pickT rfl rfl rfl rfl ?_ | refine TL.pickF rfl rfl rfl rfl ?_ | refine TL.extract rfl rfl rfl rfl ?_ | refine TL.maxI rfl rfl rfl rfl ?_ | refine TL.minI rfl rfl rfl rfl ?_ | refine TL.nilCheckF rfl rfl rfl ?_ | refine TL.nil ?_ | refine T.seqK fun K hK => ?_ | (refine T.regionO fun ops => ?_) | refine T.condT rfl ?_ | refine T.condF rfl ?_ | refine T.block ?_ | refine T.skip ?_ | refine T.ret ?_ | refine T.exit ?_ | (refine hK _ _ ?_; clear hK K) | clear hK K | clear ops)
    refine T.cond rfl (fun hc => ?_) (fun hc => absurd (of_decide_eq_false hc) (by omega))
    repeat (first | refine TL.move rfl rfl rfl ?_ | refine TL.assign rfl rfl rfl ?_ | refine TL.nilCheck rfl rfl rfl ?_ | refine TL.fieldAddr rfl rfl rfl ?_ | refine TL.convI rfl rfl rfl ?_ | refine TL.cmpI rfl rfl rfl rfl rfl ?_ | refine TL.arith rfl rfl rfl rfl rfl ?_ | refine TL.lenS rfl rfl rfl ?_ | refine TL.lenStr rfl rfl rfl ?_ | refine TL.not rfl rfl rfl ?_ | refine TL.skipG rfl rfl ?_ | refine TL.pickT rfl rfl rfl rfl ?_ | refine TL.pickF rfl rfl rfl rfl ?_ | refine TL.extract rfl rfl rfl rfl ?_ | refine TL.maxI rfl rfl rfl rfl ?_ | refine TL.minI rfl rfl rfl rfl ?_ | refine TL.nilCheckF rfl rfl rfl ?_ | refine TL.nil ?_ | refine T.seqK fun K hK => ?_ | (refine T.regionO fun ops => ?_) | refine T.condT rfl ?_ | refine T.condF rfl ?_ | refine T.block ?_ | refine T.skip ?_ | refine T.ret ?_ | refine T.exit ?_ | (refine hK _ _ ?_; clear hK K) | clear hK K | clear ops)
    exact ⟨_, rfl, Below.refl _ _, by rw [ddF_short h2]; exact hlsr⟩
  obtain ⟨hxl, hown⟩ := ha.own
  rcases hown with ⟨_, hz⟩ | ⟨g, cap, cur, heq, hg, hcur, hnc, hcm, hcs, htk⟩
  · omega
  simp only [Value.slice.injEq, true_and] at heq
  obtain ⟨rfl, rfl⟩ := heq
  have hxl : xss.flatten.length = l.length := by rw [hxl]; show l.length * 1 = _; omega
  have hR : Row w g cur.toList 23 (0, 0) := by unfold Row; rw [hcur]
  have hbys : Bys (fun k => True ∧ g ≠ k) w xss.flatten l := ⟨hb.bys.1, fun i u m hu hm => (hb.bys.2 i u m hu hm).sub fun k hk => ⟨trivial, fun hh => hk.2 (by subst hh; rfl)⟩⟩
  clear hb ha
  obtain ⟨vs, hvs⟩ : ∃ vs : List Value, vs = xss.flatten := ⟨_, rfl⟩
  rw [← hvs] at hxl hbys htk
  have hcl : cur.toList.length = vc := by simpa [bytesE] using hcs
  have hvcell : ∀ (i : Nat) (x : Value), vs[i]? = some x → cur.toList[i]? = some x := by
    intro i x hi
    have htk' : cur.toList.take l.length = vs := by simpa [bytesE] using htk
    rw [← htk', List.getElem?_take] at hi
    split at hi
    · exact hi
    · cases hi
  have hval : ∀ i, i < l.length → ∃ x m, vs[i]? = some x ∧ l[i]? = some m ∧ By (fun k => True ∧ g ≠ k) w x m := by
    intro i hi
    have h1 : vs[i]? = some (vs[i]'(by omega)) := List.getElem?_eq_getElem (by omega)
    have h3 : l[i]? = some l[i] := List.getElem?_eq_getElem hi
    exact ⟨_, _, h1, h3, hbys.2 i _ _ h1 h3⟩
  refine Ret.of_T Tryd.func84 rfl Tryd.ntmps84 Tryd.results84 rfl ?_
  repeat (first | refine TL.move rfl rfl rfl ?_ | refine TL.assign rfl rfl rfl ?_ | refine TL.nilCheck rfl rfl rfl ?_ | refine TL.fieldAddr rfl rfl rfl ?_ | refine TL.convI rfl rfl rfl ?_ | refine TL.cmpI rfl rfl rfl rfl rfl ?_ | refine TL.arith rfl rfl rfl rfl rfl ?_ | refine TL.lenS rfl rfl rfl ?_ | refine TL.lenStr rfl rfl rfl ?_ | refine TL.not rfl rfl rfl ?_ | refine TL.skipG rfl rfl ?_ | refine TL.pickT rfl rfl rfl rfl ?_ | refine TL.pickF rfl rfl rfl rfl ?_ | refine TL.extract rfl rfl rfl rfl ?_ | refine TL.maxI rfl rfl rfl rfl ?_ | refine TL.minI rfl rfl rfl rfl ?_ | refine TL.nilCheckF rfl rfl rfl ?_ | refine TL.nil ?_ | refine T.seqK fun K hK => ?_ | (refine T.regionO fun ops => ?_) | refine T.condT rfl ?_ | refine T.condF rfl ?_ | refine T.block ?_ | refine T.skip ?_ | refine T.ret ?_ | refine T.exit ?_ | (refine hK _ _ ?_; clear hK K) | clear hK K | clear ops)
  refine T.cond rfl (fun hc => absurd (of_decide_eq_true hc) (by omega)) (fun hc => ?_)
  repeat (first | refine TL.move rfl rfl rfl ?_ | refine TL.assign rfl rfl rfl ?_ | refine TL.nilCheck rfl rfl rfl ?_ | refine TL.fieldAddr rfl rfl rfl ?_ | refine TL.convI rfl rfl rfl ?_ | refine TL.cmpI rfl rfl rfl rfl rfl ?_ | refine TL.arith rfl rfl rfl rfl rfl ?_ | refine TL.lenS rfl rfl rfl ?_ | refine TL.lenStr rfl rfl rfl ?_ | refine TL.not rfl rfl rfl ?_ | refine TL.skipG rfl rfl ?_ | refine TL.pickT rfl rfl rfl rfl ?_ | refine TL.pickF rfl rfl rfl rfl ?_ | refine TL.extract rfl rfl rfl rfl ?_ | refine TL.maxI rfl rfl rfl rfl ?_ | refine TL.minI rfl rfl rfl rfl ?_ | refine TL.nilCheckF rfl rfl rfl ?_ | refine TL.nil ?_ | refine T.seqK fun K hK => ?_ | (refine T.regionO fun ops => ?_) | refine T.condT rfl ?_ | refine T.condF rfl ?_ | refine T.block ?_ | refine T.skip ?_ | refine T.ret ?_ | refine T.exit ?_ | (refine hK _ _ ?_; clear hK K) | clear hK K | clear ops)
  refine T.loop (fun m L w' => ∃ (i : Nat), Less [(0, .slice (some ⟨g, 0, none⟩) l.length vc), (1, .func (.func 43) #[] #[]), (5, .int .i64 i)] L ∧ Ext w w' ∧ 0 < i ∧ ddA l i = l.take i ∧ i + m = l.length) (l.length - 1)
    ⟨1, (by repeat (first | exact Less.nil _ | refine Less.cons rfl ?_)), Ext.refl _, by omega, (by
      obtain ⟨_, m, _, h, _⟩ := hval 0 (by omega)
      cases l with
      | nil => simp at h2
      | cons a l => simp [ddA]), by omega⟩ ?_
  rintro m L w1 ⟨i, hL, hw1, hi0, hdd, him⟩
  refine T.sub hL ?_
  repeat (first | refine TL.move rfl rfl rfl ?_ | refine TL.assign rfl rfl rfl ?_ | refine TL.nilCheck rfl rfl rfl ?_ | refine TL.fieldAddr rfl rfl rfl ?_ | refine TL.convI rfl rfl rfl ?_ | refine TL.cmpI rfl rfl rfl rfl rfl ?_ | refine TL.arith rfl rfl rfl rfl rfl ?_ | refine TL.lenS rfl rfl rfl ?_ | refine TL.lenStr rfl rfl rfl ?_ | refine TL.not rfl rfl rfl ?_ | refine TL.skipG rfl rfl ?_ | refine TL.pickT rfl rfl rfl rfl ?_ | refine TL.pickF rfl rfl rfl rfl ?_ | refine TL.extract rfl rfl rfl rfl ?_ | refine TL.maxI rfl rfl rfl rfl ?_ | refine TL.minI rfl rfl rfl rfl ?_ | refine TL.nilCheckF rfl rfl rfl ?_ | refine TL.nil ?_ | refine T.seqK fun K hK => ?_ | (refine T.regionO fun ops => ?_) | refine T.condT rfl ?_ | refine T.condF rfl ?_ | refine T.block ?_ | refine T.skip ?_ | refine T.ret ?_ | refine T.exit ?_ | (refine hK _ _ ?_; clear hK K) | clear hK K | clear ops)
  refine T.cond rfl (fun hc => ?_) (fun hc => ?_)
  · have hi : i < l.length := by simpa using hc
    obtain ⟨x, mx, hx, hmx, hbx⟩ := hval i hi
    obtain ⟨y, my, hy, hmy, hby⟩ := hval (i - 1) (by omega)
    repeat (first | refine TL.move rfl rfl rfl ?_ | refine TL.assign rfl rfl rfl ?_ | refine TL.nilCheck rfl rfl rfl ?_ | refine TL.fieldAddr rfl rfl rfl ?_ | refine TL.convI rfl rfl rfl ?_ | refine TL.cmpI rfl rfl rfl rfl rfl ?_ | refine TL.arith rfl rfl rfl rfl rfl ?_ | refine TL.lenS rfl rfl rfl ?_ | refine TL.lenStr rfl rfl rfl ?_ | refine TL.not rfl rfl rfl ?_ | refine TL.skipG rfl rfl ?_ | refine TL.pickT rfl rfl rfl rfl ?_ | refine TL.pickF rfl rfl rfl rfl ?_ | refine TL.extract rfl rfl rfl rfl ?_ | refine TL.maxI rfl rfl rfl rfl ?_ | refine TL.minI rfl rfl rfl rfl ?_ | refine TL.nilCheckF rfl rfl rfl ?_ | refine TL.nil ?_ | refine T.seqK fun K hK => ?_ | (refine T.regionO fun ops => ?_) | refine T.condT rfl ?_ | refine T.condF rfl ?_ | refine T.block ?_ | refine T.skip ?_ | refine T.ret ?_ | refine T.exit ?_ | (refine hK _ _ ?_; clear hK K) | clear hK K | clear ops)
    refine T.draw Tryd.mixed (by kernel_rfl) fun ops w2 hb2 hh2 => ?_
    have hw2 : Ext w w2 := hw1.trans hb2
    have hR2 := hR.keepA hw2
    repeat (first | refine TS.ev rfl rfl (Ev.move rfl) ?_ | refine TS.ev rfl rfl (Ev.assign rfl) ?_ | refine TS.ev rfl rfl (Ev.nilCheck rfl) ?_ | refine TS.ev rfl rfl (Ev.fieldAddr rfl) ?_ | refine TS.ev rfl rfl (Ev.uop rfl rfl rfl) ?_ | refine TS.ev rfl rfl (Ev.cmpI rfl rfl rfl) ?_ | refine TS.ev rfl rfl (Ev.arith rfl rfl rfl) ?_ | refine TS.ev rfl rfl (Ev.convI rfl) ?_ | refine TS.ev rfl rfl (Ev.lenS rfl) ?_ | refine TS.ev rfl rfl (Ev.lenStr rfl) ?_ | refine TS.ev rfl rfl (Ev.not rfl) ?_ | refine TS.skipG rfl rfl ?_ | refine TS.ev rfl rfl (Ev.pickT rfl rfl) ?_ | refine TS.ev rfl rfl (Ev.pickF rfl rfl) ?_ | refine TS.ev rfl rfl (Ev.extract rfl rfl) ?_ | refine TS.ev rfl rfl (Ev.maxI rfl rfl) ?_ | refine TS.ev rfl rfl (Ev.minI rfl rfl) ?_ | refine TS.ev rfl rfl (Ev.nilCheckF rfl) ?_ | refine TS.nil ?_)
    refine TS.ev rfl rfl (Ev.indexAddrS rfl rfl (by omega) (by omega)) ?_
    refine TS.ev rfl rfl (Ev.load1 (v := x) rfl (by rw [hR2.cell]; simpa using hvcell i x hx)) ?_
    repeat (first | refine TS.ev rfl rfl (Ev.move rfl) ?_ | refine TS.ev rfl rfl (Ev.assign rfl) ?_ | refine TS.ev rfl rfl (Ev.nilCheck rfl) ?_ | refine TS.ev rfl rfl (Ev.fieldAddr rfl) ?_ | refine TS.ev rfl rfl (Ev.uop rfl rfl rfl) ?_ | refine TS.ev rfl rfl (Ev.cmpI rfl rfl rfl) ?_ | refine TS.ev rfl rfl (Ev.arith rfl rfl rfl) ?_ | refine TS.ev rfl rfl (Ev.convI rfl) ?_ | refine TS.ev rfl rfl (Ev.lenS rfl) ?_ | refine TS.ev rfl rfl (Ev.lenStr rfl) ?_ | refine TS.ev rfl rfl (Ev.not rfl) ?_ | refine TS.skipG rfl rfl ?_ | refine TS.ev rfl rfl (Ev.pickT rfl rfl) ?_ | refine TS.ev rfl rfl (Ev.pickF rfl rfl) ?_ | refine TS.ev rfl rfl (Ev.extract rfl rfl) ?_ | refine TS.ev rfl rfl (Ev.maxI rfl rfl) ?_ | refine TS.ev rfl rfl (Ev.minI rfl rfl) ?_ | refine TS.ev rfl rfl (Ev.nilCheckF rfl) ?_ | refine TS.nil ?_)
    refine TS.norm (v' := .int .i64 ((i - 1 : Nat) : Int)) (by rw [wr_pred hi0 (by omega)]) ?_
    refine TS.ev rfl rfl (Ev.indexAddrS rfl rfl (by omega) (by omega)) ?_
    refine TS.ev rfl rfl (Ev.load1 (v := y) rfl (by rw [hR2.cell]; simpa using hvcell (i - 1) y hy)) ?_
    refine TS.callV (v := .bool (mx == my)) rfl rfl rfl rfl (by simpa using Equal_ret x y mx my w2 (By.ext hbx hw2) (By.ext hby hw2)) ?_
    repeat (first | refine TS.ev rfl rfl (Ev.move rfl) ?_ | refine TS.ev rfl rfl (Ev.assign rfl) ?_ | refine TS.ev rfl rfl (Ev.nilCheck rfl) ?_ | refine TS.ev rfl rfl (Ev.fieldAddr rfl) ?_ | refine TS.ev rfl rfl (Ev.uop rfl rfl rfl) ?_ | refine TS.ev rfl rfl (Ev.cmpI rfl rfl rfl) ?_ | refine TS.ev rfl rfl (Ev.arith rfl rfl rfl) ?_ | refine TS.ev rfl rfl (Ev.convI rfl) ?_ | refine TS.ev rfl rfl (Ev.lenS rfl) ?_ | refine TS.ev rfl rfl (Ev.lenStr rfl) ?_ | refine TS.ev rfl rfl (Ev.not rfl) ?_ | refine TS.skipG rfl rfl ?_ | refine TS.ev rfl rfl (Ev.pickT rfl rfl) ?_ | refine TS.ev rfl rfl (Ev.pickF rfl rfl) ?_ | refine TS.ev rfl rfl (Ev.extract rfl rfl) ?_ | refine TS.ev rfl rfl (Ev.maxI rfl rfl) ?_ | refine TS.ev rfl rfl (Ev.minI rfl rfl) ?_ | refine TS.ev rfl rfl (Ev.nilCheckF rfl) ?_ | refine TS.nil ?_)
    repeat (first | refine TL.move rfl rfl rfl ?_ | refine TL.assign rfl rfl rfl ?_ | refine TL.nilCheck rfl rfl rfl ?_ | refine TL.fieldAddr rfl rfl rfl ?_ | refine TL.convI rfl rfl rfl ?_ | refine TL.cmpI rfl rfl rfl rfl rfl ?_ | refine TL.arith rfl rfl rfl rfl rfl ?_ | refine TL.lenS rfl rfl rfl ?_ | refine TL.lenStr rfl rfl rfl ?_ | refine TL.not rfl rfl rfl ?_ | refine TL.skipG rfl rfl ?_ | refine TL.pickT rfl rfl rfl rfl ?_ | refine TL.pickF rfl rfl rfl rfl ?_ | refine TL.extract rfl rfl rfl rfl ?_ | refine TL.maxI rfl rfl rfl rfl ?_ | refine TL.minI rfl rfl rfl rfl ?_ | refine TL.nilCheckF rfl rfl rfl ?_ | refine TL.nil ?_ | refine T.seqK fun K hK => ?_ | (refine T.regionO fun ops => ?_) | refine T.condT rfl ?_ | refine T.condF rfl ?_ | refine T.block ?_ | refine T.skip ?_ | refine T.ret ?_ | refine T.exit ?_ | (refine hK _ _ ?_; clear hK K) | clear hK K | clear ops)
    refine T.cond rfl (fun hd => ?_) (fun hd => ?_)
    · have hd' : (my == mx) = true := by simp at hd ⊢; exact hd.symm
      repeat (first | refine TL.move rfl rfl rfl ?_ | refine TL.assign rfl rfl rfl ?_ | refine TL.nilCheck rfl rfl rfl ?_ | refine TL.fieldAddr rfl rfl rfl ?_ | refine TL.convI rfl rfl rfl ?_ | refine TL.cmpI rfl rfl rfl rfl rfl ?_ | refine TL.arith rfl rfl rfl rfl rfl ?_ | refine TL.lenS rfl rfl rfl ?_ | refine TL.lenStr rfl rfl rfl ?_ | refine TL.not rfl rfl rfl ?_ | refine TL.skipG rfl rfl ?_ | refine TL.pickT rfl rfl rfl rfl ?_ | refine TL.pickF rfl rfl rfl rfl ?_ | refine TL.extract rfl rfl rfl rfl ?_ | refine TL.maxI rfl rfl rfl rfl ?_ | refine TL.minI rfl rfl rfl rfl ?_ | refine TL.nilCheckF rfl rfl rfl ?_ | refine TL.nil ?_ | refine T.seqK fun K hK => ?_ | (refine T.regionO fun ops => ?_) | refine T.condT rfl ?_ | refine T.condF rfl ?_ | refine T.block ?_ | refine T.skip ?_ | refine T.ret ?_ | refine T.exit ?_ | (refine hK _ _ ?_; clear hK K) | clear hK K | clear ops)
      refine TL.sliceS (lw := i) (hw := l.length) rfl rfl rfl rfl rfl (by omega) (by omega) ?_
      refine TL.norm (v' := .slice (some ⟨g, i, none⟩) (l.length - i) (vc - i)) (by rw [if_neg (by omega)]; simp [Addr.add]; omega) ?_
      repeat (first | refine TL.move rfl rfl rfl ?_ | refine TL.assign rfl rfl rfl ?_ | refine TL.nilCheck rfl rfl rfl ?_ | refine TL.fieldAddr rfl rfl rfl ?_ | refine TL.convI rfl rfl rfl ?_ | refine TL.cmpI rfl rfl rfl rfl rfl ?_ | refine TL.arith rfl rfl rfl rfl rfl ?_ | refine TL.lenS rfl rfl rfl ?_ | refine TL.lenStr rfl rfl rfl ?_ | refine TL.not rfl rfl rfl ?_ | refine TL.skipG rfl rfl ?_ | refine TL.pickT rfl rfl rfl rfl ?_ | refine TL.pickF rfl rfl rfl rfl ?_ | refine TL.extract rfl rfl rfl rfl ?_ | refine TL.maxI rfl rfl rfl rfl ?_ | refine TL.minI rfl rfl rfl rfl ?_ | refine TL.nilCheckF rfl rfl rfl ?_ | refine TL.nil ?_ | refine T.seqK fun K hK => ?_ | (refine T.regionO fun ops => ?_) | refine T.condT rfl ?_ | refine T.condF rfl ?_ | refine T.block ?_ | refine T.skip ?_ | refine T.ret ?_ | refine T.exit ?_ | (refine hK _ _ ?_; clear hK K) | clear hK K | clear ops)
      refine T.loop (fun m L w' => ∃ (p kk : Nat) (R D : List Value), Less [(0, .slice (some ⟨g, 0, none⟩) l.length vc), (1, .func (.func 43) #[] #[]), (5, .int .i64 kk), (6, .slice (some ⟨g, i, none⟩) (l.length - i) (vc - i)), (7, .int .i64 ((p - i + 1 : Nat)))] L ∧ Below w0.heap.size w w' ∧ w.heap.size ≤ w'.heap.size ∧
          Row w' g R 23 (0, 0) ∧ (∀ j, j ≠ g → j < w.heap.size → w'.heap[j]? = w.heap[j]?) ∧ R.length = vc ∧ D.length = kk ∧ (∀ j, j < kk → R[j]? = D[j]?) ∧ (∀ j, p ≤ j → R[j]? = cur.toList[j]?) ∧ Bys (fun k => (True ∧ g ≠ k) ∧ k < w.heap.size) w D (ddA l (p + 1)) ∧ i ≤ p ∧ kk ≤ p ∧ p + 1 + m = l.length) (l.length - 1 - i)
        ⟨i, i, cur.toList, vs.take i, ?_, (Below.mono hw2 hB), hw2.size, hR2, fun j _ hj => hw2.block j hj, hcl, by simp; omega, fun j hj => by
          rw [List.getElem?_take, if_pos hj]
          have h1 : vs[j]? = some (vs[j]'(by omega)) := List.getElem?_eq_getElem (by omega)
          rw [h1]; exact hvcell j _ h1, fun _ _ => rfl, ?_, Nat.le_refl _, Nat.le_refl _, by omega⟩ ?_
      · repeat (first | exact Less.nil _ | refine Less.cons rfl ?_)
        refine Less.cons' rfl (by congr 1; omega) ?_
        repeat (first | exact Less.nil _ | refine Less.cons rfl ?_)
      · have e : ddA l (i + 1) = l.take i := by
          obtain ⟨j, rfl⟩ : ∃ j, i = j + 1 := ⟨i - 1, by omega⟩
          rw [ddA_drop hmx (by simpa using hmy) hd', hdd]
        rw [e]
        refine ⟨by simp [hbys.1], fun j u q hu hq => ?_⟩
        rw [List.getElem?_take] at hu hq
        split at hu
        · rename_i hj
          rw [if_pos hj] at hq
          exact (hbys.2 j u q hu hq).ltSize
        · cases hu
      · rintro m L w3 ⟨p, kk, R, D, hL3, hw3, hs3, hR3, hoth, hRl, hDl, hRD, hRc, hBy, hip, hkp, hpm⟩
        refine T.sub hL3 ?_
        have hkl : kk = (ddA l (p + 1)).length := by rw [← hDl, hBy.1]
        have hbo : ∀ (x : Value) (mm : List UInt8), By (fun k => True ∧ g ≠ k) w x mm → By (fun k => (True ∧ g ≠ k) ∧ k < w.heap.size) w3 x mm := fun x mm hx => hx.ltSize.keep fun j hj _ => hoth j (fun e => hj.1.2 e.symm) hj.2
        repeat (first | refine TL.move rfl rfl rfl ?_ | refine TL.assign rfl rfl rfl ?_ | refine TL.nilCheck rfl rfl rfl ?_ | refine TL.fieldAddr rfl rfl rfl ?_ | refine TL.convI rfl rfl rfl ?_ | refine TL.cmpI rfl rfl rfl rfl rfl ?_ | refine TL.arith rfl rfl rfl rfl rfl ?_ | refine TL.lenS rfl rfl rfl ?_ | refine TL.lenStr rfl rfl rfl ?_ | refine TL.not rfl rfl rfl ?_ | refine TL.skipG rfl rfl ?_ | refine TL.pickT rfl rfl rfl rfl ?_ | refine TL.pickF rfl rfl rfl rfl ?_ | refine TL.extract rfl rfl rfl rfl ?_ | refine TL.maxI rfl rfl rfl rfl ?_ | refine TL.minI rfl rfl rfl rfl ?_ | refine TL.nilCheckF rfl rfl rfl ?_ | refine TL.nil ?_ | refine T.seqK fun K hK => ?_ | (refine T.regionO fun ops => ?_) | refine T.condT rfl ?_ | refine T.condF rfl ?_ | refine T.block ?_ | refine T.skip ?_ | refine T.ret ?_ | refine T.exit ?_ | (refine hK _ _ ?_; clear hK K) | clear hK K | clear ops)
        refine T.cond rfl (fun hc => ?_) (fun hc => ?_)
        · have hp : p + 1 < l.length := by have := of_decide_eq_true hc; omega
          obtain ⟨x, mx, hx, hmx, hbx⟩ := hval (p + 1) hp
          obtain ⟨y, my, hy, hmy, hby⟩ := hval p (by omega)
          repeat (first | refine TL.move rfl rfl rfl ?_ | refine TL.assign rfl rfl rfl ?_ | refine TL.nilCheck rfl rfl rfl ?_ | refine TL.fieldAddr rfl rfl rfl ?_ | refine TL.convI rfl rfl rfl ?_ | refine TL.cmpI rfl rfl rfl rfl rfl ?_ | refine TL.arith rfl rfl rfl rfl rfl ?_ | refine TL.lenS rfl rfl rfl ?_ | refine TL.lenStr rfl rfl rfl ?_ | refine TL.not rfl rfl rfl ?_ | refine TL.skipG rfl rfl ?_ | refine TL.pickT rfl rfl rfl rfl ?_ | refine TL.pickF rfl rfl rfl rfl ?_ | refine TL.extract rfl rfl rfl rfl ?_ | refine TL.maxI rfl rfl rfl rfl ?_ | refine TL.minI rfl rfl rfl rfl ?_ | refine TL.nilCheckF rfl rfl rfl ?_ | refine TL.nil ?_ | refine T.seqK fun K hK => ?_ | (refine T.regionO fun ops => ?_) | refine T.condT rfl ?_ | refine T.condF rfl ?_ | refine T.block ?_ | refine T.skip ?_ | refine T.ret ?_ | refine T.exit ?_ | (refine hK _ _ ?_; clear hK K) | clear hK K | clear ops)
          refine T.draw Tryd.mixed (by kernel_rfl) fun ops w4 hb4 hh4 => ?_
          have hR4 := hR3.keepA hb4
          repeat (first | refine TS.ev rfl rfl (Ev.move rfl) ?_ | refine TS.ev rfl rfl (Ev.assign rfl) ?_ | refine TS.ev rfl rfl (Ev.nilCheck rfl) ?_ | refine TS.ev rfl rfl (Ev.fieldAddr rfl) ?_ | refine TS.ev rfl rfl (Ev.uop rfl rfl rfl) ?_ | refine TS.ev rfl rfl (Ev.cmpI rfl rfl rfl) ?_ | refine TS.ev rfl rfl (Ev.arith rfl rfl rfl) ?_ | refine TS.ev rfl rfl (Ev.convI rfl) ?_ | refine TS.ev rfl rfl (Ev.lenS rfl) ?_ | refine TS.ev rfl rfl (Ev.lenStr rfl) ?_ | refine TS.ev rfl rfl (Ev.not rfl) ?_ | refine TS.skipG rfl rfl ?_ | refine TS.ev rfl rfl (Ev.pickT rfl rfl) ?_ | refine TS.ev rfl rfl (Ev.pickF rfl rfl) ?_ | refine TS.ev rfl rfl (Ev.extract rfl rfl) ?_ | refine TS.ev rfl rfl (Ev.maxI rfl rfl) ?_ | refine TS.ev rfl rfl (Ev.minI rfl rfl) ?_ | refine TS.ev rfl rfl (Ev.nilCheckF rfl) ?_ | refine TS.nil ?_)
          refine TS.ev rfl rfl (Ev.indexAddrS rfl rfl (by omega) (by omega)) ?_
          refine TS.ev rfl rfl (Ev.load1 (v := x) rfl (by rw [hR4.cell, show i + Int.toNat ((p - i + 1 : Nat) : Int) * 1 = p + 1 by rw [Int.toNat_natCast]; omega, hRc _ (by omega)]; exact hvcell _ x hx)) ?_
          repeat (first | refine TS.ev rfl rfl (Ev.move rfl) ?_ | refine TS.ev rfl rfl (Ev.assign rfl) ?_ | refine TS.ev rfl rfl (Ev.nilCheck rfl) ?_ | refine TS.ev rfl rfl (Ev.fieldAddr rfl) ?_ | refine TS.ev rfl rfl (Ev.uop rfl rfl rfl) ?_ | refine TS.ev rfl rfl (Ev.cmpI rfl rfl rfl) ?_ | refine TS.ev rfl rfl (Ev.arith rfl rfl rfl) ?_ | refine TS.ev rfl rfl (Ev.convI rfl) ?_ | refine TS.ev rfl rfl (Ev.lenS rfl) ?_ | refine TS.ev rfl rfl (Ev.lenStr rfl) ?_ | refine TS.ev rfl rfl (Ev.not rfl) ?_ | refine TS.skipG rfl rfl ?_ | refine TS.ev rfl rfl (Ev.pickT rfl rfl) ?_ | refine TS.ev rfl rfl (Ev.pickF rfl rfl) ?_ | refine TS.ev rfl rfl (Ev.extract rfl rfl) ?_ | refine TS.ev rfl rfl (Ev.maxI rfl rfl) ?_ | refine TS.ev rfl rfl (Ev.minI rfl rfl) ?_ | refine TS.ev rfl rfl (Ev.nilCheckF rfl) ?_ | refine TS.nil ?_)
          refine TS.norm (v' := .int .i64 ((p - i : Nat) : Int)) (by rw [wr_pred (by omega) (by omega)]; congr 2) ?_
          refine TS.ev rfl rfl (Ev.indexAddrS rfl rfl (by omega) (by omega)) ?_
          refine TS.ev rfl rfl (Ev.load1 (v := y) rfl (by rw [hR4.cell, show i + Int.toNat ((p - i : Nat) : Int) * 1 = p by rw [Int.toNat_natCast]; omega, hRc _ (by omega)]; exact hvcell _ y hy)) ?_
          refine TS.callV (v := .bool (mx == my)) rfl rfl rfl rfl (by simpa using Equal_ret x y mx my w4 (By.ext (hbo x mx hbx) hb4) (By.ext (hbo y my hby) hb4)) ?_
          repeat (first | refine TS.ev rfl rfl (Ev.move rfl) ?_ | refine TS.ev rfl rfl (Ev.assign rfl) ?_ | refine TS.ev rfl rfl (Ev.nilCheck rfl) ?_ | refine TS.ev rfl rfl (Ev.fieldAddr rfl) ?_ | refine TS.ev rfl rfl (Ev.uop rfl rfl rfl) ?_ | refine TS.ev rfl rfl (Ev.cmpI rfl rfl rfl) ?_ | refine TS.ev rfl rfl (Ev.arith rfl rfl rfl) ?_ | refine TS.ev rfl rfl (Ev.convI rfl) ?_ | refine TS.ev rfl rfl (Ev.lenS rfl) ?_ | refine TS.ev rfl rfl (Ev.lenStr rfl) ?_ | refine TS.ev rfl rfl (Ev.not rfl) ?_ | refine TS.skipG rfl rfl ?_ | refine TS.ev rfl rfl (Ev.pickT rfl rfl) ?_ | refine TS.ev rfl rfl (Ev.pickF rfl rfl) ?_ | refine TS.ev rfl rfl (Ev.extract rfl rfl) ?_ | refine TS.ev rfl rfl (Ev.maxI rfl rfl) ?_ | refine TS.ev rfl rfl (Ev.minI rfl rfl) ?_ | refine TS.ev rfl rfl (Ev.nilCheckF rfl) ?_ | refine TS.nil ?_)
          repeat (first | refine TL.move rfl rfl rfl ?_ | refine TL.assign rfl rfl rfl ?_ | refine TL.nilCheck rfl rfl rfl ?_ | refine TL.fieldAddr rfl rfl rfl ?_ | refine TL.convI rfl rfl rfl ?_ | refine TL.cmpI rfl rfl rfl rfl rfl ?_ | refine TL.arith rfl rfl rfl rfl rfl ?_ | refine TL.lenS rfl rfl rfl ?_ | refine TL.lenStr rfl rfl rfl ?_ | refine TL.not rfl rfl rfl ?_ | refine TL.skipG rfl rfl ?_ | refine TL.pickT rfl rfl rfl rfl ?_ | refine TL.pickF rfl rfl rfl rfl ?_ | refine TL.extract rfl rfl rfl rfl ?_ | refine TL.maxI rfl rfl rfl rfl ?_ | refine TL.minI rfl rfl rfl rfl ?_ | refine TL.nilCheckF rfl rfl rfl ?_ | refine TL.nil ?_ | refine T.seqK fun K hK => ?_ | (refine T.regionO fun ops => ?_) | refine T.condT rfl ?_ | refine T.condF rfl ?_ | refine T.block ?_ | refine T.skip ?_ | refine T.ret ?_ | refine T.exit ?_ | (refine hK _ _ ?_; clear hK K) | clear hK K | clear ops)
          have hw4 := hw3.trans (Below.mono hb4 (Nat.le_trans hB hw3.size))
          have hs4 := hb4.size
          have hoth4 : ∀ j, j ≠ g → j < w.heap.size → w4.heap[j]? = w.heap[j]? := fun j hj hl => by rw [hh4]; exact hoth j hj hl
          refine T.cond rfl (fun hd => ?_) (fun hd => ?_)
          · have hd' : (my == mx) = false := by
              cases h : (my == mx) with
              | false => rfl
              | true => simp at h hd; exact absurd h.symm hd
            repeat (first | refine TL.move rfl rfl rfl ?_ | refine TL.assign rfl rfl rfl ?_ | refine TL.nilCheck rfl rfl rfl ?_ | refine TL.fieldAddr rfl rfl rfl ?_ | refine TL.convI rfl rfl rfl ?_ | refine TL.cmpI rfl rfl rfl rfl rfl ?_ | refine TL.arith rfl rfl rfl rfl rfl ?_ | refine TL.lenS rfl rfl rfl ?_ | refine TL.lenStr rfl rfl rfl ?_ | refine TL.not rfl rfl rfl ?_ | refine TL.skipG rfl rfl ?_ | refine TL.pickT rfl rfl rfl rfl ?_ | refine TL.pickF rfl rfl rfl rfl ?_ | refine TL.extract rfl rfl rfl rfl ?_ | refine TL.maxI rfl rfl rfl rfl ?_ | refine TL.minI rfl rfl rfl rfl ?_ | refine TL.nilCheckF rfl rfl rfl ?_ | refine TL.nil ?_ | refine T.seqK fun K hK => ?_ | (refine T.regionO fun ops => ?_) | refine T.condT rfl ?_ | refine T.condF rfl ?_ | refine T.block ?_ | refine T.skip ?_ | refine T.ret ?_ | refine T.exit ?_ | (refine hK _ _ ?_; clear hK K) | clear hK K | clear ops)
            refine TL.indexAddrS rfl rfl rfl rfl (by omega) (by omega) ?_
            refine TL.load1 (v := x) rfl rfl rfl (by rw [hR4.cell, show i + Int.toNat ((p - i + 1 : Nat) : Int) * 1 = p + 1 by rw [Int.toNat_natCast]; omega, hRc _ (by omega)]; exact hvcell _ x hx) ?_
            refine TL.indexAddrS rfl rfl rfl rfl (by omega) (by omega) ?_
            refine TL.storeRS (i := kk) rfl rfl rfl hR4 (by rw [Int.toNat_natCast]; omega) (by omega) (by obtain ⟨a, c, hv, _⟩ := hbx; rw [hv]; rfl) fun w5 hg5 hR5 hs5 => ?_
            repeat (first | refine TL.move rfl rfl rfl ?_ | refine TL.assign rfl rfl rfl ?_ | refine TL.nilCheck rfl rfl rfl ?_ | refine TL.fieldAddr rfl rfl rfl ?_ | refine TL.convI rfl rfl rfl ?_ | refine TL.cmpI rfl rfl rfl rfl rfl ?_ | refine TL.arith rfl rfl rfl rfl rfl ?_ | refine TL.lenS rfl rfl rfl ?_ | refine TL.lenStr rfl rfl rfl ?_ | refine TL.not rfl rfl rfl ?_ | refine TL.skipG rfl rfl ?_ | refine TL.pickT rfl rfl rfl rfl ?_ | refine TL.pickF rfl rfl rfl rfl ?_ | refine TL.extract rfl rfl rfl rfl ?_ | refine TL.maxI rfl rfl rfl rfl ?_ | refine TL.minI rfl rfl rfl rfl ?_ | refine TL.nilCheckF rfl rfl rfl ?_ | refine TL.nil ?_ | refine T.seqK fun K hK => ?_ | (refine T.regionO fun ops => ?_) | refine T.condT rfl ?_ | refine T.condF rfl ?_ | refine T.block ?_ | refine T.skip ?_ | refine T.ret ?_ | refine T.exit ?_ | (refine hK _ _ ?_; clear hK K) | clear hK K | clear ops)
            refine ⟨m - 1, by omega, p + 1, kk + 1, R.set kk x, D ++ [x], ?_, hw4.trans (below_grown hg5 hg (by omega)), by omega, hR5, fun j hj hl => ?_, by simp [hRl], by simp [hDl], fun j hj => ?_, fun j hj => ?_, ?_, by omega, by omega, by omega⟩
            · repeat (first | exact Less.nil _ | refine Less.cons rfl ?_)
              refine Less.cons' rfl (by rw [wr_succ (by omega)]) ?_
              repeat (first | exact Less.nil _ | refine Less.cons rfl ?_)
              refine Less.cons' rfl (by rw [wr_succ (by omega)]; congr 2; omega) ?_
              repeat (first | exact Less.nil _ | refine Less.cons rfl ?_)
            · rw [hg5.block j (by omega) (by simp; exact hj)]; exact hoth4 j hj hl
            · by_cases hjk : j = kk
              · subst hjk; rw [List.getElem?_set_self (by omega), List.getElem?_append_right (by omega), hDl]; simp
              · rw [List.getElem?_set_ne (by omega), List.getElem?_append_left (by omega)]; exact hRD j (by omega)
            · rw [List.getElem?_set_ne (by omega)]; exact hRc j (by omega)
            · rw [ddA_keep hmx hmy hd']
              refine ⟨by simp [hBy.1], fun j u q hu hq => ?_⟩
              by_cases hj : j < D.length
              · rw [List.getElem?_append_left hj] at hu
                rw [List.getElem?_append_left (by rw [← hBy.1]; exact hj)] at hq
                exact hBy.2 j u q hu hq
              · rw [List.getElem?_append_right (by omega)] at hu
                rw [List.getElem?_append_right (by rw [← hBy.1]; omega), ← hBy.1] at hq
                cases hjj : j - D.length with
                | zero => rw [hjj] at hu hq; simp at hu hq; subst hu hq; exact hbx.ltSize
                | succ k => rw [hjj] at hu; simp at hu
          · have hd' : (my == mx) = true := by simp at hd ⊢; exact hd.symm
            repeat (first | refine TL.move rfl rfl rfl ?_ | refine TL.assign rfl rfl rfl ?_ | refine TL.nilCheck rfl rfl rfl ?_ | refine TL.fieldAddr rfl rfl rfl ?_ | refine TL.convI rfl rfl rfl ?_ | refine TL.cmpI rfl rfl rfl rfl rfl ?_ | refine TL.arith rfl rfl rfl rfl rfl ?_ | refine TL.lenS rfl rfl rfl ?_ | refine TL.lenStr rfl rfl rfl ?_ | refine TL.not rfl rfl rfl ?_ | refine TL.skipG rfl rfl ?_ | refine TL.pickT rfl rfl rfl rfl ?_ | refine TL.pickF rfl rfl rfl rfl ?_ | refine TL.extract rfl rfl rfl rfl ?_ | refine TL.maxI rfl rfl rfl rfl ?_ | refine TL.minI rfl rfl rfl rfl ?_ | refine TL.nilCheckF rfl rfl rfl ?_ | refine TL.nil ?_ | refine T.seqK fun K hK => ?_ | (refine T.regionO fun ops => ?_) | refine T.condT rfl ?_ | refine T.condF rfl ?_ | refine T.block ?_ | refine T.skip ?_ | refine T.ret ?_ | refine T.exit ?_ | (refine hK _ _ ?_; clear hK K) | clear hK K | clear ops)
            refine ⟨m - 1, by omega, p + 1, kk, R, D, ?_, hw4, by omega, hR4, hoth4, hRl, hDl, hRD, fun j hj => hRc j (by omega), by rw [ddA_drop hmx hmy hd']; exact hBy, by omega, by omega, by omega⟩
            repeat (first | exact Less.nil _ | refine Less.cons rfl ?_)
            refine Less.cons' rfl (by rw [wr_succ (by omega)]; congr 2; omega) ?_
            repeat (first | exact Less.nil _ | refine Less.cons rfl ?_)
        · have hp : p + 1 = l.length := by have := of_decide_eq_false hc; omega
          repeat (first | refine TL.move rfl rfl rfl ?_ | refine TL.assign rfl rfl rfl ?_ | refine TL.nilCheck rfl rfl rfl ?_ | refine TL.fieldAddr rfl rfl rfl ?_ | refine TL.convI rfl rfl rfl ?_ | refine TL.cmpI rfl rfl rfl rfl rfl ?_ | refine TL.arith rfl rfl rfl rfl rfl ?_ | refine TL.lenS rfl rfl rfl ?_ | refine TL.lenStr rfl rfl rfl ?_ | refine TL.not rfl rfl rfl ?_ | refine TL.skipG rfl rfl ?_ | refine TL.pickT rfl rfl rfl rfl ?_ | refine TL.pickF rfl rfl rfl rfl ?_ | refine TL.extract rfl rfl rfl rfl ?_ | refine TL.maxI rfl rfl rfl rfl ?_ | refine TL.minI rfl rfl rfl rfl ?_ | refine TL.nilCheckF rfl rfl rfl ?_ | refine TL.nil ?_ | refine T.seqK fun K hK => ?_ | (refine T.regionO fun ops => ?_) | refine T.condT rfl ?_ | refine T.condF rfl ?_ | refine T.block ?_ | refine T.skip ?_ | refine T.ret ?_ | refine T.exit ?_ | (refine hK _ _ ?_; clear hK K) | clear hK K | clear ops)
          refine TL.sliceS (lw := kk) (hw := l.length) rfl rfl rfl rfl rfl (by omega) (by omega) ?_
          refine TL.norm (v' := .slice (some ⟨g, kk, none⟩) (l.length - kk) (vc - kk)) (by rw [if_neg (by omega)]; simp [Addr.add]; omega) ?_
          have hDR : R.take kk = D := by
            apply List.ext_getElem?
            intro j
            rw [List.getElem?_take]
            split
            · rename_i hj; exact hRD j hj
            · rw [List.getElem?_eq_none (by omega)]
          have hsplit : R = D ++ (R.drop kk).take (l.length - kk) ++ R.drop l.length := by
            have e1 : R.drop l.length = (R.drop kk).drop (l.length - kk) := by rw [List.drop_drop]; congr 1; omega
            rw [e1, List.append_assoc, List.take_append_drop, ← hDR, List.take_append_drop]
          have hR3' : Row w3 g (D ++ (R.drop kk).take (l.length - kk) ++ R.drop l.length) 23 (0, 0) := by rw [← hsplit]; exact hR3
          refine TL.clearS rfl rfl hR3' hDl (by simp; omega) rfl fun w5 hg5 hR5 hs5 => ?_
          repeat (first | refine TL.move rfl rfl rfl ?_ | refine TL.assign rfl rfl rfl ?_ | refine TL.nilCheck rfl rfl rfl ?_ | refine TL.fieldAddr rfl rfl rfl ?_ | refine TL.convI rfl rfl rfl ?_ | refine TL.cmpI rfl rfl rfl rfl rfl ?_ | refine TL.arith rfl rfl rfl rfl rfl ?_ | refine TL.lenS rfl rfl rfl ?_ | refine TL.lenStr rfl rfl rfl ?_ | refine TL.not rfl rfl rfl ?_ | refine TL.skipG rfl rfl ?_ | refine TL.pickT rfl rfl rfl rfl ?_ | refine TL.pickF rfl rfl rfl rfl ?_ | refine TL.extract rfl rfl rfl rfl ?_ | refine TL.maxI rfl rfl rfl rfl ?_ | refine TL.minI rfl rfl rfl rfl ?_ | refine TL.nilCheckF rfl rfl rfl ?_ | refine TL.nil ?_ | refine T.seqK fun K hK => ?_ | (refine T.regionO fun ops => ?_) | refine T.condT rfl ?_ | refine T.condF rfl ?_ | refine T.block ?_ | refine T.skip ?_ | refine T.ret ?_ | refine T.exit ?_ | (refine hK _ _ ?_; clear hK K) | clear hK K | clear ops)
          refine TL.sliceS (lw := 0) (hw := kk) rfl rfl rfl rfl rfl (Nat.zero_le _) (by omega) ?_
          repeat (first | refine TL.move rfl rfl rfl ?_ | refine TL.assign rfl rfl rfl ?_ | refine TL.nilCheck rfl rfl rfl ?_ | refine TL.fieldAddr rfl rfl rfl ?_ | refine TL.convI rfl rfl rfl ?_ | refine TL.cmpI rfl rfl rfl rfl rfl ?_ | refine TL.arith rfl rfl rfl rfl rfl ?_ | refine TL.lenS rfl rfl rfl ?_ | refine TL.lenStr rfl rfl rfl ?_ | refine TL.not rfl rfl rfl ?_ | refine TL.skipG rfl rfl ?_ | refine TL.pickT rfl rfl rfl rfl ?_ | refine TL.pickF rfl rfl rfl rfl ?_ | refine TL.extract rfl rfl rfl rfl ?_ | refine TL.maxI rfl rfl rfl rfl ?_ | refine TL.minI rfl rfl rfl rfl ?_ | refine TL.nilCheckF rfl rfl rfl ?_ | refine TL.nil ?_ | refine T.seqK fun K hK => ?_ | (refine T.regionO fun ops => ?_) | refine T.condT rfl ?_ | refine T.condF rfl ?_ | refine T.block ?_ | refine T.skip ?_ | refine T.ret ?_ | refine T.exit ?_ | (refine hK _ _ ?_; clear hK K) | clear hK K | clear ops)
          have hwl : Rd Any w5 1 (.slice (some ⟨g, 0, none⟩) l.length vc) l.length (D ++ List.replicate (l.length - kk) nils) :=
            ⟨_, _, rfl, by simp [hDl]; omega, by omega, hcm, (fun h => by cases h), fun _ => ⟨g, 0, rfl, trivial, fun j u hu => by
              rw [hR5.cell]
              have hj : j < (D ++ List.replicate (l.length - kk) nils).length := (List.getElem?_eq_some_iff.1 hu).1
              rw [Nat.zero_add, List.getElem?_append_left hj]; exact hu⟩⟩
          have hrs := Rd.slice hwl (Nat.zero_le kk) (by omega)
          have e1 : ((D ++ List.replicate (l.length - kk) nils).drop (0 * 1)).take ((kk - 0) * 1) = D := by
            rw [Nat.zero_mul, List.drop_zero, Nat.sub_zero, Nat.mul_one, ← hDl, List.take_left]
          rw [e1] at hrs
          have hdd' : ddF l = ddA l (p + 1) := by rw [ddF, hp]
          refine ⟨_, rfl, hw3.trans (below_grown hg5 hg (Nat.le_trans hB hw3.size)), D.map ([·]), ?_, ?_⟩
          · have e2 := map_single_flat D
            rw [e2, hdd', ← hkl]
            exact hrs
          · rw [hdd']
            refine ⟨by simp [hBy.1], fun j u q hu hq => ?_⟩
            simp only [List.getElem?_map, Option.map_eq_some_iff] at hu
            obtain ⟨x, hx, rfl⟩ := hu
            refine ⟨x, rfl, By.any ((hBy.2 j x q hx hq).keep fun k hk hlt => ?_)⟩
            rw [hg5.block k (by omega) (by simp; exact fun e => hk.1.2 e.symm)]
            exact hoth k (fun e => hk.1.2 e.symm) hk.2
    · have hd' : (my == mx) = false := by
        cases h : (my == mx) with
        | false => rfl
        | true => simp at h hd; exact absurd h.symm hd
      repeat (first | refine TL.move rfl rfl rfl ?_ | refine TL.assign rfl rfl rfl ?_ | refine TL.nilCheck rfl rfl rfl ?_ | refine TL.fieldAddr rfl rfl rfl ?_ | refine TL.convI rfl rfl rfl ?_ | refine TL.cmpI rfl rfl rfl rfl rfl ?_ | refine TL.arith rfl rfl rfl rfl rfl ?_ | refine TL.lenS rfl rfl rfl ?_ | refine TL.lenStr rfl rfl rfl ?_ | refine TL.not rfl rfl rfl ?_ | refine TL.skipG rfl rfl ?_ | refine TL.pickT rfl rfl rfl rfl ?_ | refine TL.pickF rfl rfl rfl rfl ?_ | refine TL.extract rfl rfl rfl rfl ?_ | refine TL.maxI rfl rfl rfl rfl ?_ | refine TL.minI rfl rfl rfl rfl ?_ | refine TL.nilCheckF rfl rfl rfl ?_ | refine TL.nil ?_ | refine T.seqK fun K hK => ?_ | (refine T.regionO fun ops => ?_) | refine T.condT rfl ?_ | refine T.condF rfl ?_ | refine T.block ?_ | refine T.skip ?_ | refine T.ret ?_ | refine T.exit ?_ | (refine hK _ _ ?_; clear hK K) | clear hK K | clear ops)
      refine ⟨m - 1, by omega, i + 1, ?_, hw2, by omega, ?_, by omega⟩
      · repeat (first | exact Less.nil _ | refine Less.cons rfl ?_)
        refine Less.cons' rfl (by rw [wr_succ (by omega)]) ?_
        repeat (first | exact Less.nil _ | refine Less.cons rfl ?_)
      · obtain ⟨j, rfl⟩ : ∃ j, i = j + 1 := ⟨i - 1, by omega⟩
        rw [ddA_keep hmx (by simpa using hmy) hd', hdd]
        obtain ⟨g1, g2⟩ := List.getElem?_eq_some_iff.1 hmx
        rw [List.take_succ_eq_append_getElem g1, g2]
  · have hi : i = l.length := by simp at hc; omega
    repeat (first | refine TL.move rfl rfl rfl ?_ | refine TL.assign rfl rfl rfl ?_ | refine TL.nilCheck rfl rfl rfl ?_ | refine TL.fieldAddr rfl rfl rfl ?_ | refine TL.convI rfl rfl rfl ?_ | refine TL.cmpI rfl rfl rfl rfl rfl ?_ | refine TL.arith rfl rfl rfl rfl rfl ?_ | refine TL.lenS rfl rfl rfl ?_ | refine TL.lenStr rfl rfl rfl ?_ | refine TL.not rfl rfl rfl ?_ | refine TL.skipG rfl rfl ?_ | refine TL.pickT rfl rfl rfl rfl ?_ | refine TL.pickF rfl rfl rfl rfl ?_ | refine TL.extract rfl rfl rfl rfl ?_ | refine TL.maxI rfl rfl rfl rfl ?_ | refine TL.minI rfl rfl rfl rfl ?_ | refine TL.nilCheckF rfl rfl rfl ?_ | refine TL.nil ?_ | refine T.seqK fun K hK => ?_ | (refine T.regionO fun ops => ?_) | refine T.condT rfl ?_ | refine T.condF rfl ?_ | refine T.block ?_ | refine T.skip ?_ | refine T.ret ?_ | refine T.exit ?_ | (refine hK _ _ ?_; clear hK K) | clear hK K | clear ops)
    refine ⟨_, rfl, Below.mono hw1 hB, ?_⟩
    rw [ddF, ← hi, hdd, hi, List.take_length]
    exact hlsr.ext hw1
end Go.Proofs
