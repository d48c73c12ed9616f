/- What ferrymanlaw21.Awake comes to: true. Conditions: none but those of the library's order. -/
import Derived.Test.YtflioeagjefkmaaDoorRl2
import Derived.Test.YtflioeagjefkmaaDoorFwK
set_option linter.all false
namespace Go.Proofs
open Go.Fw Go.RowKit
attribute [local irreducible] TL T TS Ev Ret
set_option maxRecDepth 20000

theorem ToReceive_ret (fv tv : Value) (es1 es2 : List (Nat × Bool)) (w : World) (h1 : Lsr evE Any w fv es1) (h2 : Lsr evE Any w tv es2) (hn1 : es1.length ≤ 2 ^ 30) (hn2 : es2.length ≤ 2 ^ 30) :
    Ret Tryd.prog 31 #[fv, tv, .int .i64 0] w fun u w' => Ext w w' ∧ Lsr pkE Any w' u ((sentF es1).filter fun _ => !(sameF es2 [2]).isSome) := by
  obtain ⟨ta, tc, rfl, _⟩ := h2.shape
  have hsl : (sentF es1).length ≤ 2 ^ 30 := by simp only [sentF, List.length_map]; exact Nat.le_trans (List.length_filter_le _ _) hn1
  refine Ret.of_T Tryd.func31 rfl Tryd.ntmps31 Tryd.results31 rfl ?_
  repeat (first | refine TL.move rfl rfl rfl ?_ | refine TL.assign rfl rfl rfl ?_ | refine TL.nilCheck rfl rfl rfl ?_ | refine TL.fieldAddr rfl rfl rfl ?_ | refine TL.convI rfl rfl rfl ?_ | refine TL.cmpI rfl rfl rfl rfl rfl ?_ | refine TL.arith rfl rfl rfl rfl rfl ?_ | refine TL.lenS rfl rfl rfl ?_ | refine TL.lenStr rfl rfl rfl ?_ | refine TL.not rfl rfl rfl ?_ | refine TL.skipG rfl rfl ?_ | refine TL.pickT rfl rfl rfl rfl ?_ | refine TL.pickF rfl rfl rfl rfl ?_ | refine TL.extract rfl rfl rfl rfl ?_ | refine TL.maxI rfl rfl rfl rfl ?_ | refine TL.minI rfl rfl rfl rfl ?_ | refine TL.nilCheckF rfl rfl rfl ?_ | refine TL.nil ?_ | refine T.seqK fun K hK => ?_ | (refine T.regionO fun ops => ?_) | refine T.condT rfl ?_ | refine T.condF rfl ?_ | refine T.block ?_ | refine T.skip ?_ | refine T.ret ?_ | refine T.exit ?_ | (refine hK _ _ ?_; clear hK K) | clear hK K | clear ops)
  refine TL.box rfl rfl rfl fun b4 w1 hal => ?_
  have h4 : Row w1 b4 [.slice ta es2.length tc] 91 (0, 0) := hal.row
  have hw1 : Ext w w1 := hal.below
  clear hal
  repeat (first | refine TL.move rfl rfl rfl ?_ | refine TL.assign rfl rfl rfl ?_ | refine TL.nilCheck rfl rfl rfl ?_ | refine TL.fieldAddr rfl rfl rfl ?_ | refine TL.convI rfl rfl rfl ?_ | refine TL.cmpI rfl rfl rfl rfl rfl ?_ | refine TL.arith rfl rfl rfl rfl rfl ?_ | refine TL.lenS rfl rfl rfl ?_ | refine TL.lenStr rfl rfl rfl ?_ | refine TL.not rfl rfl rfl ?_ | refine TL.skipG rfl rfl ?_ | refine TL.pickT rfl rfl rfl rfl ?_ | refine TL.pickF rfl rfl rfl rfl ?_ | refine TL.extract rfl rfl rfl rfl ?_ | refine TL.maxI rfl rfl rfl rfl ?_ | refine TL.minI rfl rfl rfl rfl ?_ | refine TL.nilCheckF rfl rfl rfl ?_ | refine TL.nil ?_ | refine T.seqK fun K hK => ?_ | (refine T.regionO fun ops => ?_) | refine T.condT rfl ?_ | refine T.condF rfl ?_ | refine T.block ?_ | refine T.skip ?_ | refine T.ret ?_ | refine T.exit ?_ | (refine hK _ _ ?_; clear hK K) | clear hK K | clear ops)
  refine TL.call rfl rfl rfl (sent_ret fv es1 w1 (h1.ext hw1) (by omega)) ?_
  rintro sv w2 ⟨hw12, hs⟩
  refine TL.ev rfl rfl (Ev.makeFunc (xs := []) (us := []) rfl rfl) ?_
  refine TL.call rfl rfl rfl (keepP_ret sv _ (sentF es1) (fun _ => !(sameF es2 [2]).isSome) w2 hs ⟨_, _, _, rfl, inferInstance, fun w' a us he hu => ?_⟩ (by omega)) ?_
  · have hu' : us = P0 := hu
    subst hu'
    simpa using rcv1_ret b4 _ es2 w' ((h4.keepA hw12).keepA he) (h2.ext (hw1.trans (hw12.trans he))) (by omega)
  rintro u w3 ⟨hw23, hu⟩
  repeat (first | refine TL.move rfl rfl rfl ?_ | refine TL.assign rfl rfl rfl ?_ | refine TL.nilCheck rfl rfl rfl ?_ | refine TL.fieldAddr rfl rfl rfl ?_ | refine TL.convI rfl rfl rfl ?_ | refine TL.cmpI rfl rfl rfl rfl rfl ?_ | refine TL.arith rfl rfl rfl rfl rfl ?_ | refine TL.lenS rfl rfl rfl ?_ | refine TL.lenStr rfl rfl rfl ?_ | refine TL.not rfl rfl rfl ?_ | refine TL.skipG rfl rfl ?_ | refine TL.pickT rfl rfl rfl rfl ?_ | refine TL.pickF rfl rfl rfl rfl ?_ | refine TL.extract rfl rfl rfl rfl ?_ | refine TL.maxI rfl rfl rfl rfl ?_ | refine TL.minI rfl rfl rfl rfl ?_ | refine TL.nilCheckF rfl rfl rfl ?_ | refine TL.nil ?_ | refine T.seqK fun K hK => ?_ | (refine T.regionO fun ops => ?_) | refine T.condT rfl ?_ | refine T.condF rfl ?_ | refine T.block ?_ | refine T.skip ?_ | refine T.ret ?_ | refine T.exit ?_ | (refine hK _ _ ?_; clear hK K) | clear hK K | clear ops)
  exact ⟨_, rfl, hw1.trans (hw12.trans hw23), hu⟩
theorem ToTimeout_ret (fv : Value) (es1 : List (Nat × Bool)) (w : World) (h1 : Lsr evE Any w fv es1) (hn1 : es1.length ≤ 2 ^ 30) :
    Ret Tryd.prog 33 #[fv, .int .i64 0] w fun u w' => Ext w w' ∧ Lsr pkE Any w' u ((sentF es1).filter fun _ => !(sameF es1 [3, 4]).isSome) := by
  obtain ⟨ta, tc, rfl, _⟩ := h1.shape
  have hsl : (sentF es1).length ≤ 2 ^ 30 := by simp only [sentF, List.length_map]; exact Nat.le_trans (List.length_filter_le _ _) hn1
  refine Ret.of_T Tryd.func33 rfl Tryd.ntmps33 Tryd.results33 rfl ?_
  repeat (first | refine TL.move rfl rfl rfl ?_ | refine TL.assign rfl rfl rfl ?_ | refine TL.nilCheck rfl rfl rfl ?_ | refine TL.fieldAddr rfl rfl rfl ?_ | refine TL.convI rfl rfl rfl ?_ | refine TL.cmpI rfl rfl rfl rfl rfl ?_ | refine TL.arith rfl rfl rfl rfl rfl ?_ | refine TL.lenS rfl rfl rfl ?_ | refine TL.lenStr rfl rfl rfl ?_ | refine TL.not rfl rfl rfl ?_ | refine TL.skipG rfl rfl ?_ | refine TL.pickT rfl rfl rfl rfl ?_ | refine TL.pickF rfl rfl rfl rfl ?_ | refine TL.extract rfl rfl rfl rfl ?_ | refine TL.maxI rfl rfl rfl rfl ?_ | refine TL.minI rfl rfl rfl rfl ?_ | refine TL.nilCheckF rfl rfl rfl ?_ | refine TL.nil ?_ | refine T.seqK fun K hK => ?_ | (refine T.regionO fun ops => ?_) | refine T.condT rfl ?_ | refine T.condF rfl ?_ | refine T.block ?_ | refine T.skip ?_ | refine T.ret ?_ | refine T.exit ?_ | (refine hK _ _ ?_; clear hK K) | clear hK K | clear ops)
  refine TL.box rfl rfl rfl fun b4 w1 hal => ?_
  have h4 : Row w1 b4 [.slice ta es1.length tc] 91 (0, 0) := hal.row
  have hw1 : Ext w w1 := hal.below
  clear hal
  repeat (first | refine TL.move rfl rfl rfl ?_ | refine TL.assign rfl rfl rfl ?_ | refine TL.nilCheck rfl rfl rfl ?_ | refine TL.fieldAddr rfl rfl rfl ?_ | refine TL.convI rfl rfl rfl ?_ | refine TL.cmpI rfl rfl rfl rfl rfl ?_ | refine TL.arith rfl rfl rfl rfl rfl ?_ | refine TL.lenS rfl rfl rfl ?_ | refine TL.lenStr rfl rfl rfl ?_ | refine TL.not rfl rfl rfl ?_ | refine TL.skipG rfl rfl ?_ | refine TL.pickT rfl rfl rfl rfl ?_ | refine TL.pickF rfl rfl rfl rfl ?_ | refine TL.extract rfl rfl rfl rfl ?_ | refine TL.maxI rfl rfl rfl rfl ?_ | refine TL.minI rfl rfl rfl rfl ?_ | refine TL.nilCheckF rfl rfl rfl ?_ | refine TL.nil ?_ | refine T.seqK fun K hK => ?_ | (refine T.regionO fun ops => ?_) | refine T.condT rfl ?_ | refine T.condF rfl ?_ | refine T.block ?_ | refine T.skip ?_ | refine T.ret ?_ | refine T.exit ?_ | (refine hK _ _ ?_; clear hK K) | clear hK K | clear ops)
  refine TL.loadR rfl rfl rfl h4 rfl ?_
  repeat (first | refine TL.move rfl rfl rfl ?_ | refine TL.assign rfl rfl rfl ?_ | refine TL.nilCheck rfl rfl rfl ?_ | refine TL.fieldAddr rfl rfl rfl ?_ | refine TL.convI rfl rfl rfl ?_ | refine TL.cmpI rfl rfl rfl rfl rfl ?_ | refine TL.arith rfl rfl rfl rfl rfl ?_ | refine TL.lenS rfl rfl rfl ?_ | refine TL.lenStr rfl rfl rfl ?_ | refine TL.not rfl rfl rfl ?_ | refine TL.skipG rfl rfl ?_ | refine TL.pickT rfl rfl rfl rfl ?_ | refine TL.pickF rfl rfl rfl rfl ?_ | refine TL.extract rfl rfl rfl rfl ?_ | refine TL.maxI rfl rfl rfl rfl ?_ | refine TL.minI rfl rfl rfl rfl ?_ | refine TL.nilCheckF rfl rfl rfl ?_ | refine TL.nil ?_ | refine T.seqK fun K hK => ?_ | (refine T.regionO fun ops => ?_) | refine T.condT rfl ?_ | refine T.condF rfl ?_ | refine T.block ?_ | refine T.skip ?_ | refine T.ret ?_ | refine T.exit ?_ | (refine hK _ _ ?_; clear hK K) | clear hK K | clear ops)
  refine TL.call rfl rfl rfl (sent_ret _ es1 w1 (h1.ext hw1) (by omega)) ?_
  rintro sv w2 ⟨hw12, hs⟩
  refine TL.ev rfl rfl (Ev.makeFunc (xs := []) (us := []) rfl rfl) ?_
  refine TL.call rfl rfl rfl (keepP_ret sv _ (sentF es1) (fun _ => !(sameF es1 [3, 4]).isSome) w2 hs ⟨_, _, _, rfl, inferInstance, fun w' a us he hu => ?_⟩ (by omega)) ?_
  · have hu' : us = P0 := hu
    subst hu'
    simpa using tmo1_ret b4 _ es1 w' ((h4.keepA hw12).keepA he) (h1.ext (hw1.trans (hw12.trans he))) (by omega)
  rintro u w3 ⟨hw23, hu⟩
  repeat (first | refine TL.move rfl rfl rfl ?_ | refine TL.assign rfl rfl rfl ?_ | refine TL.nilCheck rfl rfl rfl ?_ | refine TL.fieldAddr rfl rfl rfl ?_ | refine TL.convI rfl rfl rfl ?_ | refine TL.cmpI rfl rfl rfl rfl rfl ?_ | refine TL.arith rfl rfl rfl rfl rfl ?_ | refine TL.lenS rfl rfl rfl ?_ | refine TL.lenStr rfl rfl rfl ?_ | refine TL.not rfl rfl rfl ?_ | refine TL.skipG rfl rfl ?_ | refine TL.pickT rfl rfl rfl rfl ?_ | refine TL.pickF rfl rfl rfl rfl ?_ | refine TL.extract rfl rfl rfl rfl ?_ | refine TL.maxI rfl rfl rfl rfl ?_ | refine TL.minI rfl rfl rfl rfl ?_ | refine TL.nilCheckF rfl rfl rfl ?_ | refine TL.nil ?_ | refine T.seqK fun K hK => ?_ | (refine T.regionO fun ops => ?_) | refine T.condT rfl ?_ | refine T.condF rfl ?_ | refine T.block ?_ | refine T.skip ?_ | refine T.ret ?_ | refine T.exit ?_ | (refine hK _ _ ?_; clear hK K) | clear hK K | clear ops)
  exact ⟨_, rfl, hw1.trans (hw12.trans hw23), hu⟩
/-- an api.Ack -/
def akE : Elm Bool where
  sz := 2
  rel _ _ xs a := xs = [.bool a, .int .i64 0]
  keep := fun h _ => h
  lt := fun h => h
  sub := fun h _ => h
  len := fun h => by rw [h]; rfl
  one := fun h u hu => by subst h; simp at hu; rcases hu with rfl | rfl <;> rfl
def f1 : List (Nat × Bool) := [(1, false)]
theorem evc_len (r : Option (Nat × Bool)) : (evc r).length = 10 := by cases r <;> rfl
theorem evc_one (r : Option (Nat × Bool)) : ∀ u ∈ evc r, u.oneCell' = true := by
  intro u hu
  cases r with
  | none => exact (by simp [E0, Value.oneCell'] : ∀ u ∈ E0, u.oneCell' = true) u hu
  | some e => exact evE.one (F := Any) (w := default) (a := e) rfl u hu
set_option maxHeartbeats 2000000 in
theorem ToAnswer_ret (fv tv : Value) (es2 : List (Nat × Bool)) (w : World) (h1 : Lsr evE Any w fv f1) (h2 : Lsr evE Any w tv es2) (hn2 : es2.length ≤ 2 ^ 30) :
    Ret Tryd.prog 32 #[fv, tv, .int .i64 0] w fun u w' => Ext w w' ∧ ∃ a b, u = .tuple #[a, b] ∧ Lsr pkE Any w' a ((sameF es2 [2]).toList.map fun _ => ()) ∧ Lsr akE Any w' b ((sameF es2 [2]).toList.map Prod.snd) := by
  obtain ⟨r, hr⟩ : ∃ r, r = sameF es2 [2] := ⟨_, rfl⟩
  rw [← hr]
  refine Ret.of_T Tryd.func32 rfl Tryd.ntmps32 Tryd.results32 rfl ?_
  repeat (first | refine TL.move rfl rfl rfl ?_ | refine TL.assign rfl rfl rfl ?_ | refine TL.nilCheck rfl rfl rfl ?_ | refine TL.fieldAddr rfl rfl rfl ?_ | refine TL.convI rfl rfl rfl ?_ | refine TL.cmpI rfl rfl rfl rfl rfl ?_ | refine TL.arith rfl rfl rfl rfl rfl ?_ | refine TL.lenS rfl rfl rfl ?_ | refine TL.lenStr rfl rfl rfl ?_ | refine TL.not rfl rfl rfl ?_ | refine TL.skipG rfl rfl ?_ | refine TL.pickT rfl rfl rfl rfl ?_ | refine TL.pickF rfl rfl rfl rfl ?_ | refine TL.extract rfl rfl rfl rfl ?_ | refine TL.maxI rfl rfl rfl rfl ?_ | refine TL.minI rfl rfl rfl rfl ?_ | refine TL.nilCheckF rfl rfl rfl ?_ | refine TL.nil ?_ | refine T.seqK fun K hK => ?_ | (refine T.regionO fun ops => ?_) | refine T.condT rfl ?_ | refine T.condF rfl ?_ | refine T.block ?_ | refine T.skip ?_ | refine T.ret ?_ | refine T.exit ?_ | (refine hK _ _ ?_; clear hK K) | clear hK K | clear ops)
  refine TL.call rfl rfl rfl (sent_ret fv f1 w h1 (by simp [f1])) ?_
  rintro sv w1 ⟨hw1, hs⟩
  have hs1 : Lsr pkE Any w1 sv [()] := hs
  obtain ⟨sa, sc, rfl, _⟩ := hs1.shape
  change TL _ _ _ ((_, .slice sa 1 sc) :: _) _ _ _
  repeat (first | refine TL.move rfl rfl rfl ?_ | refine TL.assign rfl rfl rfl ?_ | refine TL.nilCheck rfl rfl rfl ?_ | refine TL.fieldAddr rfl rfl rfl ?_ | refine TL.convI rfl rfl rfl ?_ | refine TL.cmpI rfl rfl rfl rfl rfl ?_ | refine TL.arith rfl rfl rfl rfl rfl ?_ | refine TL.lenS rfl rfl rfl ?_ | refine TL.lenStr rfl rfl rfl ?_ | refine TL.not rfl rfl rfl ?_ | refine TL.skipG rfl rfl ?_ | refine TL.pickT rfl rfl rfl rfl ?_ | refine TL.pickF rfl rfl rfl rfl ?_ | refine TL.extract rfl rfl rfl rfl ?_ | refine TL.maxI rfl rfl rfl rfl ?_ | refine TL.minI rfl rfl rfl rfl ?_ | refine TL.nilCheckF rfl rfl rfl ?_ | refine TL.nil ?_ | refine T.seqK fun K hK => ?_ | (refine T.regionO fun ops => ?_) | refine T.condT rfl ?_ | refine T.condF rfl ?_ | refine T.block ?_ | refine T.skip ?_ | refine T.ret ?_ | refine T.exit ?_ | (refine hK _ _ ?_; clear hK K) | clear hK K | clear ops)
  refine T.loop (fun m L w' => Less [(0, fv), (1, tv), (18, .slice sa 1 sc), (19, .int .i64 1)] L ∧ Ext w1 w' ∧ ((m = 1 ∧ Less [(8, nils), (9, nils), (20, .int .i64 0)] L) ∨ (m = 0 ∧ ∃ a b, Less [(8, a), (9, b), (20, .int .i64 1)] L ∧ Lsr pkE Any w' a (r.toList.map fun _ => ()) ∧ Lsr akE Any w' b (r.toList.map Prod.snd)))) 1
    ⟨(by repeat (first | exact Less.nil _ | refine Less.cons rfl ?_)), Ext.refl _, .inl ⟨rfl, (by repeat (first | exact Less.nil _ | refine Less.cons rfl ?_))⟩⟩ ?_
  rintro m L w2 ⟨hL, hw12, hcase⟩
  have hw2 := hw1.trans hw12
  rcases hcase with ⟨rfl, hL2⟩ | ⟨rfl, a, b, hL2, ha, hb⟩
  · refine T.sub (L' := [(0, fv), (1, tv), (18, .slice sa 1 sc), (19, .int .i64 1), (8, nils), (9, nils), (20, .int .i64 0)]) ?_ ?_
    · refine Less.cons (hL _ _ rfl) (Less.cons (hL _ _ rfl) (Less.cons (hL _ _ rfl) (Less.cons (hL _ _ rfl) hL2)))
    repeat (first | refine TL.move rfl rfl rfl ?_ | refine TL.assign rfl rfl rfl ?_ | refine TL.nilCheck rfl rfl rfl ?_ | refine TL.fieldAddr rfl rfl rfl ?_ | refine TL.convI rfl rfl rfl ?_ | refine TL.cmpI rfl rfl rfl rfl rfl ?_ | refine TL.arith rfl rfl rfl rfl rfl ?_ | refine TL.lenS rfl rfl rfl ?_ | refine TL.lenStr rfl rfl rfl ?_ | refine TL.not rfl rfl rfl ?_ | refine TL.skipG rfl rfl ?_ | refine TL.pickT rfl rfl rfl rfl ?_ | refine TL.pickF rfl rfl rfl rfl ?_ | refine TL.extract rfl rfl rfl rfl ?_ | refine TL.maxI rfl rfl rfl rfl ?_ | refine TL.minI rfl rfl rfl rfl ?_ | refine TL.nilCheckF rfl rfl rfl ?_ | refine TL.nil ?_ | refine T.seqK fun K hK => ?_ | (refine T.regionO fun ops => ?_) | refine T.condT rfl ?_ | refine T.condF rfl ?_ | refine T.block ?_ | refine T.skip ?_ | refine T.ret ?_ | refine T.exit ?_ | (refine hK _ _ ?_; clear hK K) | clear hK K | clear ops)
    refine TL.elemE (E := pkE) (a := ()) (j := 0) rfl rfl (fun _ => rfl) rfl rfl rfl rfl (hs1.ext hw12) rfl rfl rfl fun pp us hus => ?_
    have hu' : us = P0 := hus
    subst hu'
    refine TL.alloc rfl rfl fun b11 w3 hal => ?_
    have hz : Row w3 b11 [.int .i64 0, .int .u64 0, .int .u64 0, .string ⟨#[]⟩, .int .u64 0, .string ⟨#[]⟩, .string ⟨#[]⟩] 85 (0, 0) := hal.at_
    refine TL.storeRA (A := []) (C := []) (old := [.int .i64 0, .int .u64 0, .int .u64 0, .string ⟨#[]⟩, .int .u64 0, .string ⟨#[]⟩, .string ⟨#[]⟩]) (xs := P0) rfl rfl rfl (by simpa using hz) rfl (by simp [Value.cells]) rfl rfl (pkE.one (F := Any) (w := w3) (a := ()) rfl) fun w4 hg4 h11 hs4 => ?_
    have h11 : Row w4 b11 P0 85 (0, 0) := h11
    have hw24 : Ext w2 w4 := Below.trans hal.below (below_grown hg4 (by rw [hal.num]; exact Nat.le_refl _) hal.below.size)
    clear hal hz hg4 hs4
    have hw4 := hw2.trans hw24
    repeat (first | refine TL.move rfl rfl rfl ?_ | refine TL.assign rfl rfl rfl ?_ | refine TL.nilCheck rfl rfl rfl ?_ | refine TL.fieldAddr rfl rfl rfl ?_ | refine TL.convI rfl rfl rfl ?_ | refine TL.cmpI rfl rfl rfl rfl rfl ?_ | refine TL.arith rfl rfl rfl rfl rfl ?_ | refine TL.lenS rfl rfl rfl ?_ | refine TL.lenStr rfl rfl rfl ?_ | refine TL.not rfl rfl rfl ?_ | refine TL.skipG rfl rfl ?_ | refine TL.pickT rfl rfl rfl rfl ?_ | refine TL.pickF rfl rfl rfl rfl ?_ | refine TL.extract rfl rfl rfl rfl ?_ | refine TL.maxI rfl rfl rfl rfl ?_ | refine TL.minI rfl rfl rfl rfl ?_ | refine TL.nilCheckF rfl rfl rfl ?_ | refine TL.nil ?_ | refine T.seqK fun K hK => ?_ | refine T.region ?_ | refine T.condT rfl ?_ | refine T.condF rfl ?_ | refine T.block ?_ | refine T.skip ?_ | refine T.ret ?_ | refine T.exit ?_ | (refine hK _ _ ?_; clear hK K) | clear hK K)
    refine TL.ev rfl rfl (Ev.loadRA (xs := P0) rfl h11 rfl rfl) ?_
    refine TL.buildSlice rfl rfl rfl rfl rfl (by simp [Value.oneCell']) rfl fun b27 w5 hal => ?_
    have hks : Ks Any w5 (.slice (some ⟨b27, 0, none⟩) 1 1) [2] := (hal.rd rfl (by simp [maxLen])).sub fun _ _ => trivial
    have hw45 : Ext w4 w5 := hal.below
    clear hal
    have hw5 := hw4.trans hw45
    refine TL.call rfl rfl rfl (same_ret tv _ es2 [2] w5 (h2.ext hw5) hks (by omega) (by simp)) ?_
    rintro _ w6 ⟨hw56, rfl⟩
    rw [← hr]
    repeat (first | refine TL.move rfl rfl rfl ?_ | refine TL.assign rfl rfl rfl ?_ | refine TL.nilCheck rfl rfl rfl ?_ | refine TL.fieldAddr rfl rfl rfl ?_ | refine TL.convI rfl rfl rfl ?_ | refine TL.cmpI rfl rfl rfl rfl rfl ?_ | refine TL.arith rfl rfl rfl rfl rfl ?_ | refine TL.lenS rfl rfl rfl ?_ | refine TL.lenStr rfl rfl rfl ?_ | refine TL.not rfl rfl rfl ?_ | refine TL.skipG rfl rfl ?_ | refine TL.pickT rfl rfl rfl rfl ?_ | refine TL.pickF rfl rfl rfl rfl ?_ | refine TL.extract rfl rfl rfl rfl ?_ | refine TL.maxI rfl rfl rfl rfl ?_ | refine TL.minI rfl rfl rfl rfl ?_ | refine TL.nilCheckF rfl rfl rfl ?_ | refine TL.nil ?_ | refine T.seqK fun K hK => ?_ | refine T.region ?_ | refine T.condT rfl ?_ | refine T.condF rfl ?_ | refine T.block ?_ | refine T.skip ?_ | refine T.ret ?_ | refine T.exit ?_ | (refine hK _ _ ?_; clear hK K) | clear hK K)
    refine TL.alloc rfl rfl fun b12 w7 hal => ?_
    have hz : Row w7 b12 E0 90 (0, 0) := hal.at_
    refine TL.storeRA (A := []) (C := []) (old := E0) (xs := evc r) rfl rfl rfl (by simpa using hz) rfl (by simp [Value.cells]) (by rw [evc_len]; rfl) (by rw [evc_len]) (evc_one r) fun w8 hg8 h12 hs8 => ?_
    simp only [List.nil_append, List.append_nil] at h12
    have hw68 : Ext w6 w8 := Below.trans hal.below (below_grown hg8 (by rw [hal.num]; exact Nat.le_refl _) hal.below.size)
    clear hal hz hg8 hs8
    have hw48 : Ext w4 w8 := hw45.trans (hw56.trans hw68)
    have hw8 := hw4.trans hw48
    repeat (first | refine TL.move rfl rfl rfl ?_ | refine TL.assign rfl rfl rfl ?_ | refine TL.nilCheck rfl rfl rfl ?_ | refine TL.fieldAddr rfl rfl rfl ?_ | refine TL.convI rfl rfl rfl ?_ | refine TL.cmpI rfl rfl rfl rfl rfl ?_ | refine TL.arith rfl rfl rfl rfl rfl ?_ | refine TL.lenS rfl rfl rfl ?_ | refine TL.lenStr rfl rfl rfl ?_ | refine TL.not rfl rfl rfl ?_ | refine TL.skipG rfl rfl ?_ | refine TL.pickT rfl rfl rfl rfl ?_ | refine TL.pickF rfl rfl rfl rfl ?_ | refine TL.extract rfl rfl rfl rfl ?_ | refine TL.maxI rfl rfl rfl rfl ?_ | refine TL.minI rfl rfl rfl rfl ?_ | refine TL.nilCheckF rfl rfl rfl ?_ | refine TL.nil ?_ | refine T.seqK fun K hK => ?_ | refine T.region ?_ | refine T.condT rfl ?_ | refine T.condF rfl ?_ | refine T.block ?_ | refine T.skip ?_ | refine T.ret ?_ | refine T.exit ?_ | (refine hK _ _ ?_; clear hK K) | clear hK K)
    refine TL.ev rfl rfl (Ev.loadRA (xs := P0) rfl (h11.keepA hw48) rfl rfl) ?_
    refine TL.buildSlice rfl rfl rfl rfl rfl (by simp [Value.oneCell']) rfl fun b34 w9 hal => ?_
    have hks : Ks Any w9 (.slice (some ⟨b34, 0, none⟩) 2 2) [3, 4] := (hal.rd rfl (by simp [maxLen])).sub fun _ _ => trivial
    have hw89 : Ext w8 w9 := hal.below
    clear hal
    have hw9 := hw8.trans hw89
    refine TL.call rfl rfl rfl (same_ret fv _ f1 [3, 4] w9 (h1.ext hw9) hks (by simp [f1]) (by simp)) ?_
    rintro _ w10 ⟨hw910, rfl⟩
    rw [show sameF f1 [3, 4] = none by decide]
    repeat (first | refine TL.move rfl rfl rfl ?_ | refine TL.assign rfl rfl rfl ?_ | refine TL.nilCheck rfl rfl rfl ?_ | refine TL.fieldAddr rfl rfl rfl ?_ | refine TL.convI rfl rfl rfl ?_ | refine TL.cmpI rfl rfl rfl rfl rfl ?_ | refine TL.arith rfl rfl rfl rfl rfl ?_ | refine TL.lenS rfl rfl rfl ?_ | refine TL.lenStr rfl rfl rfl ?_ | refine TL.not rfl rfl rfl ?_ | refine TL.skipG rfl rfl ?_ | refine TL.pickT rfl rfl rfl rfl ?_ | refine TL.pickF rfl rfl rfl rfl ?_ | refine TL.extract rfl rfl rfl rfl ?_ | refine TL.maxI rfl rfl rfl rfl ?_ | refine TL.minI rfl rfl rfl rfl ?_ | refine TL.nilCheckF rfl rfl rfl ?_ | refine TL.nil ?_ | refine T.seqK fun K hK => ?_ | refine T.region ?_ | refine T.condT rfl ?_ | refine T.condF rfl ?_ | refine T.block ?_ | refine T.skip ?_ | refine T.ret ?_ | refine T.exit ?_ | (refine hK _ _ ?_; clear hK K) | clear hK K)
    refine TL.alloc rfl rfl fun b14 w11 hal => ?_
    have hz : Row w11 b14 E0 90 (0, 0) := hal.at_
    refine TL.storeRA (A := []) (C := []) (old := E0) (xs := evc none) rfl rfl rfl (by simpa using hz) rfl (by simp [Value.cells]) (by rw [evc_len]; rfl) (by rw [evc_len]) (evc_one none) fun w12 hg12 h14 hs12 => ?_
    have hw1012 : Ext w10 w12 := Below.trans hal.below (below_grown hg12 (by rw [hal.num]; exact Nat.le_refl _) hal.below.size)
    clear hal hz hg12 hs12 h14
    have hw812 : Ext w8 w12 := hw89.trans (hw910.trans hw1012)
    have h1112 := (h11.keepA hw48).keepA hw812
    have h1212 := h12.keepA hw812
    have hw112 : Ext w1 w12 := hw12.trans (hw24.trans (hw48.trans hw812))
    repeat (first | refine TL.move rfl rfl rfl ?_ | refine TL.assign rfl rfl rfl ?_ | refine TL.nilCheck rfl rfl rfl ?_ | refine TL.fieldAddr rfl rfl rfl ?_ | refine TL.convI rfl rfl rfl ?_ | refine TL.cmpI rfl rfl rfl rfl rfl ?_ | refine TL.arith rfl rfl rfl rfl rfl ?_ | refine TL.lenS rfl rfl rfl ?_ | refine TL.lenStr rfl rfl rfl ?_ | refine TL.not rfl rfl rfl ?_ | refine TL.skipG rfl rfl ?_ | refine TL.pickT rfl rfl rfl rfl ?_ | refine TL.pickF rfl rfl rfl rfl ?_ | refine TL.extract rfl rfl rfl rfl ?_ | refine TL.maxI rfl rfl rfl rfl ?_ | refine TL.minI rfl rfl rfl rfl ?_ | refine TL.nilCheckF rfl rfl rfl ?_ | refine TL.nil ?_ | refine T.seqK fun K hK => ?_ | refine T.region ?_ | refine T.condT rfl ?_ | refine T.condF rfl ?_ | refine T.block ?_ | refine T.skip ?_ | refine T.ret ?_ | refine T.exit ?_ | (refine hK _ _ ?_; clear hK K) | clear hK K)
    cases r with
    | none =>
      repeat (first | refine TL.move rfl rfl rfl ?_ | refine TL.assign rfl rfl rfl ?_ | refine TL.nilCheck rfl rfl rfl ?_ | refine TL.fieldAddr rfl rfl rfl ?_ | refine TL.convI rfl rfl rfl ?_ | refine TL.cmpI rfl rfl rfl rfl rfl ?_ | refine TL.arith rfl rfl rfl rfl rfl ?_ | refine TL.lenS rfl rfl rfl ?_ | refine TL.lenStr rfl rfl rfl ?_ | refine TL.not rfl rfl rfl ?_ | refine TL.skipG rfl rfl ?_ | refine TL.pickT rfl rfl rfl rfl ?_ | refine TL.pickF rfl rfl rfl rfl ?_ | refine TL.extract rfl rfl rfl rfl ?_ | refine TL.maxI rfl rfl rfl rfl ?_ | refine TL.minI rfl rfl rfl rfl ?_ | refine TL.nilCheckF rfl rfl rfl ?_ | refine TL.nil ?_ | refine T.seqK fun K hK => ?_ | refine T.region ?_ | refine T.condT rfl ?_ | refine T.condF rfl ?_ | refine T.block ?_ | refine T.skip ?_ | refine T.ret ?_ | refine T.exit ?_ | (refine hK _ _ ?_; clear hK K) | clear hK K)
      refine ⟨0, by omega, ?_, hw112, .inr ⟨rfl, nils, nils, ?_, Lsr.nilF _ _ _, Lsr.nilF _ _ _⟩⟩
      · repeat (first | exact Less.nil _ | refine Less.cons rfl ?_)
      · repeat (first | exact Less.nil _ | refine Less.cons rfl ?_)
    | some e =>
      repeat (first | refine TL.move rfl rfl rfl ?_ | refine TL.assign rfl rfl rfl ?_ | refine TL.nilCheck rfl rfl rfl ?_ | refine TL.fieldAddr rfl rfl rfl ?_ | refine TL.convI rfl rfl rfl ?_ | refine TL.cmpI rfl rfl rfl rfl rfl ?_ | refine TL.arith rfl rfl rfl rfl rfl ?_ | refine TL.lenS rfl rfl rfl ?_ | refine TL.lenStr rfl rfl rfl ?_ | refine TL.not rfl rfl rfl ?_ | refine TL.skipG rfl rfl ?_ | refine TL.pickT rfl rfl rfl rfl ?_ | refine TL.pickF rfl rfl rfl rfl ?_ | refine TL.extract rfl rfl rfl rfl ?_ | refine TL.maxI rfl rfl rfl rfl ?_ | refine TL.minI rfl rfl rfl rfl ?_ | refine TL.nilCheckF rfl rfl rfl ?_ | refine TL.nil ?_ | refine T.seqK fun K hK => ?_ | refine T.region ?_ | refine T.condT rfl ?_ | refine T.condF rfl ?_ | refine T.block ?_ | refine T.skip ?_ | refine T.ret ?_ | refine T.exit ?_ | (refine hK _ _ ?_; clear hK K) | clear hK K)
      refine T.drawK 8 Tryd.mixed (by kernel_rfl) fun ops w13 hb13 hh13 K' hK' => ?_
      have h1113 := h1112.keepA hb13
      have h1213 := h1212.keepA hb13
      simp only [List.take_succ_cons, List.take_zero]
      repeat (refine DR.v _ rfl (fun w' σ he => by first | exact Ev.move rfl | exact Ev.nilCheck rfl | exact Ev.fieldAddr rfl) ?_)
      refine DR.v (.agg P0.toArray) rfl (fun w' σ he => Ev.loadRA rfl (h1113.keepA he) rfl rfl) ?_
      refine DR.a (fun u w' => Rd (fun _ => True) w' 7 u 1 P0) (fun u w1 w2 h e => Rd.ext h e) (fun w' σ he hσ => ?_) ?_
      · refine TL.buildSliceN (vs := [.agg P0.toArray]) rfl rfl rfl rfl rfl (by simp [Value.cells, P0]) rfl rfl rfl fun bb w'' hal => TL.nil ⟨hal.below, _, rfl, ?_⟩
        have hal' : Al w' w'' bb (.cells P0.toArray 85) := by simpa [Value.cells] using hal
        exact (Al.rdN hal' rfl (by simp [maxLen])).sub fun _ _ => trivial
      refine DR.a (fun u w' => Lsr pkE Any w' u [()]) (fun u w1 w2 h e => h.ext e) (fun w' σ he hσ => ?_) ?_
      · refine TL.pushE (E := pkE) (a := ()) («as» := []) (cs := P0) (w0 := w') rfl rfl rfl rfl rfl (Lst.nil w'.heap.size w' w' (Below.refl _ _) (Nat.le_refl _) _) (hσ.get 45 rfl) (G := fun _ => True) rfl (fun k _ h => by cases h) rfl (by simp) (by simp [maxLen]) fun v' w'' h1 _ _ => TL.nil ⟨h1.below, v', rfl, h1.lsr⟩
      repeat (refine DR.v _ rfl (fun w' σ he => by first | exact Ev.move rfl | exact Ev.nilCheck rfl | exact Ev.fieldAddr rfl) ?_)
      refine DR.v (.agg [Value.bool e.2, .int .i64 0].toArray) rfl (fun w' σ he => Ev.loadRA rfl (h1213.keepA he) rfl rfl) ?_
      refine DR.a (fun u w' => Rd (fun _ => True) w' 2 u 1 [Value.bool e.2, .int .i64 0]) (fun u w1 w2 h e => Rd.ext h e) (fun w' σ he hσ => ?_) ?_
      · refine TL.buildSliceN (vs := [.agg [Value.bool e.2, .int .i64 0].toArray]) rfl rfl rfl rfl rfl (by simp [Value.cells]) rfl rfl rfl fun bb w'' hal => TL.nil ⟨hal.below, _, rfl, ?_⟩
        have hal' : Al w' w'' bb (.cells [Value.bool e.2, .int .i64 0].toArray 88) := by simpa [Value.cells] using hal
        exact (Al.rdN hal' rfl (by simp [maxLen])).sub fun _ _ => trivial
      refine DR.nil (hK' _ fun w14 σ he hσ => ?_)
      simp only [List.drop_succ_cons, List.drop_zero]
      clear hK' K'
      have g46 := hσ.get 46 rfl
      refine TL.pushE (E := akE) (a := e.2) («as» := []) (cs := [Value.bool e.2, .int .i64 0]) (w0 := w14) rfl rfl rfl rfl rfl (Lst.nil w14.heap.size w14 w14 (Below.refl _ _) (Nat.le_refl _) _) (hσ.get 50 rfl) (G := fun _ => True) rfl (fun k _ h => by cases h) rfl (by simp) (by simp [maxLen]) fun v' w15 h1 _ _ => ?_
      have hw1415 : Ext w14 w15 := h1.below
      obtain ⟨o46, hs46⟩ : ∃ x, x = σ 46 := ⟨_, rfl⟩
      rw [← hs46] at g46
      refine TL.sub (L' := [(51, v'), (46, o46), (0, fv), (1, tv), (18, .slice sa 1 sc), (19, .int .i64 1), (20, .int .i64 0)]) ?_ ?_
      · repeat (first | exact Less.nil _ | refine Less.cons rfl ?_)
        refine Less.cons' rfl hs46.symm ?_
        repeat (first | exact Less.nil _ | refine Less.cons rfl ?_)
      repeat (first | refine TL.move rfl rfl rfl ?_ | refine TL.assign rfl rfl rfl ?_ | refine TL.nilCheck rfl rfl rfl ?_ | refine TL.fieldAddr rfl rfl rfl ?_ | refine TL.convI rfl rfl rfl ?_ | refine TL.cmpI rfl rfl rfl rfl rfl ?_ | refine TL.arith rfl rfl rfl rfl rfl ?_ | refine TL.lenS rfl rfl rfl ?_ | refine TL.lenStr rfl rfl rfl ?_ | refine TL.not rfl rfl rfl ?_ | refine TL.skipG rfl rfl ?_ | refine TL.pickT rfl rfl rfl rfl ?_ | refine TL.pickF rfl rfl rfl rfl ?_ | refine TL.extract rfl rfl rfl rfl ?_ | refine TL.maxI rfl rfl rfl rfl ?_ | refine TL.minI rfl rfl rfl rfl ?_ | refine TL.nilCheckF rfl rfl rfl ?_ | refine TL.nil ?_ | refine T.seqK fun K hK => ?_ | refine T.region ?_ | refine T.condT rfl ?_ | refine T.condF rfl ?_ | refine T.block ?_ | refine T.skip ?_ | refine T.ret ?_ | refine T.exit ?_ | (refine hK _ _ ?_; clear hK K) | clear hK K)
      refine ⟨0, by omega, ?_, hw112.trans (Ext.trans hb13 (he.trans hw1415)), .inr ⟨rfl, o46, v', ?_, g46.ext hw1415, h1.lsr⟩⟩
      · repeat (first | exact Less.nil _ | refine Less.cons rfl ?_)
      · repeat (first | exact Less.nil _ | refine Less.cons rfl ?_)
  · refine T.sub (L' := [(0, fv), (1, tv), (18, .slice sa 1 sc), (19, .int .i64 1), (8, a), (9, b), (20, .int .i64 1)]) ?_ ?_
    · refine Less.cons (hL _ _ rfl) (Less.cons (hL _ _ rfl) (Less.cons (hL _ _ rfl) (Less.cons (hL _ _ rfl) hL2)))
    repeat (first | refine TL.move rfl rfl rfl ?_ | refine TL.assign rfl rfl rfl ?_ | refine TL.nilCheck rfl rfl rfl ?_ | refine TL.fieldAddr rfl rfl rfl ?_ | refine TL.convI rfl rfl rfl ?_ | refine TL.cmpI rfl rfl rfl rfl rfl ?_ | refine TL.arith rfl rfl rfl rfl rfl ?_ | refine TL.lenS rfl rfl rfl ?_ | refine TL.lenStr rfl rfl rfl ?_ | refine TL.not rfl rfl rfl ?_ | refine TL.skipG rfl rfl ?_ | refine TL.pickT rfl rfl rfl rfl ?_ | refine TL.pickF rfl rfl rfl rfl ?_ | refine TL.extract rfl rfl rfl rfl ?_ | refine TL.maxI rfl rfl rfl rfl ?_ | refine TL.minI rfl rfl rfl rfl ?_ | refine TL.nilCheckF rfl rfl rfl ?_ | refine TL.nil ?_ | refine T.seqK fun K hK => ?_ | (refine T.regionO fun ops => ?_) | refine T.condT rfl ?_ | refine T.condF rfl ?_ | refine T.block ?_ | refine T.skip ?_ | refine T.ret ?_ | refine T.exit ?_ | (refine hK _ _ ?_; clear hK K) | clear hK K | clear ops)
    exact ⟨_, rfl, hw2, a, b, rfl, ha, hb⟩

set_option maxHeartbeats 4000000 in
theorem Awake_ret (w : World) : Ret Tryd.prog 6 #[] w fun u w' => u = .bool true ∧ Ext w w' := by
  refine Ret.of_T Tryd.func6 rfl Tryd.ntmps6 Tryd.results6 rfl ?_
  repeat (first | refine TL.move rfl rfl rfl ?_ | refine TL.assign rfl rfl rfl ?_ | refine TL.nilCheck rfl rfl rfl ?_ | refine TL.fieldAddr rfl rfl rfl ?_ | refine TL.convI rfl rfl rfl ?_ | refine TL.cmpI rfl rfl rfl rfl rfl ?_ | refine TL.arith rfl rfl rfl rfl rfl ?_ | refine TL.lenS rfl rfl rfl ?_ | refine TL.lenStr rfl rfl rfl ?_ | refine TL.not rfl rfl rfl ?_ | refine TL.skipG rfl rfl ?_ | refine TL.pickT rfl rfl rfl rfl ?_ | refine TL.pickF rfl rfl rfl rfl ?_ | refine TL.extract rfl rfl rfl rfl ?_ | refine TL.maxI rfl rfl rfl rfl ?_ | refine TL.minI rfl rfl rfl rfl ?_ | refine TL.nilCheckF rfl rfl rfl ?_ | refine TL.nil ?_ | refine T.seqK fun K hK => ?_ | (refine T.regionO fun ops => ?_) | refine T.condT rfl ?_ | refine T.condF rfl ?_ | refine T.block ?_ | refine T.skip ?_ | refine T.ret ?_ | refine T.exit ?_ | (refine hK _ _ ?_; clear hK K) | clear hK K | clear ops)
  refine TL.ev rfl rfl (Ev.build (out := P0) rfl rfl) ?_
  refine TL.alloc rfl rfl fun b1 w1 hal => ?_
  have hz : Row w1 b1 [.int .i64 0, .int .u64 0, .int .u64 0, .string ⟨#[]⟩, .int .u64 0, .string ⟨#[]⟩, .string ⟨#[]⟩] 85 (0, 0) := hal.at_
  refine TL.storeRA (A := []) (C := []) (old := [.int .i64 0, .int .u64 0, .int .u64 0, .string ⟨#[]⟩, .int .u64 0, .string ⟨#[]⟩, .string ⟨#[]⟩]) (xs := P0) rfl rfl rfl (by simpa using hz) rfl (by simp [Value.cells]) rfl rfl (pkE.one (F := Any) (w := w1) (a := ()) rfl) fun w2 hg2 hr2 hs2 => ?_
  have hr2 : Row w2 b1 P0 85 (0, 0) := hr2
  have hw2 : Ext w w2 := Below.trans hal.below (below_grown hg2 (by rw [hal.num]; exact Nat.le_refl _) hal.below.size)
  clear hal hz hg2 hs2
  repeat (first | refine TL.move rfl rfl rfl ?_ | refine TL.assign rfl rfl rfl ?_ | refine TL.nilCheck rfl rfl rfl ?_ | refine TL.fieldAddr rfl rfl rfl ?_ | refine TL.convI rfl rfl rfl ?_ | refine TL.cmpI rfl rfl rfl rfl rfl ?_ | refine TL.arith rfl rfl rfl rfl rfl ?_ | refine TL.lenS rfl rfl rfl ?_ | refine TL.lenStr rfl rfl rfl ?_ | refine TL.not rfl rfl rfl ?_ | refine TL.skipG rfl rfl ?_ | refine TL.pickT rfl rfl rfl rfl ?_ | refine TL.pickF rfl rfl rfl rfl ?_ | refine TL.extract rfl rfl rfl rfl ?_ | refine TL.maxI rfl rfl rfl rfl ?_ | refine TL.minI rfl rfl rfl rfl ?_ | refine TL.nilCheckF rfl rfl rfl ?_ | refine TL.nil ?_ | refine T.seqK fun K hK => ?_ | (refine T.regionO fun ops => ?_) | refine T.condT rfl ?_ | refine T.condF rfl ?_ | refine T.block ?_ | refine T.skip ?_ | refine T.ret ?_ | refine T.exit ?_ | (refine hK _ _ ?_; clear hK K) | clear hK K | clear ops)
  refine TL.ev rfl rfl (Ev.loadRA (xs := P0) rfl hr2 rfl rfl) ?_
  refine TL.ev rfl rfl (Ev.build (out := Ek (1, false)) rfl rfl) ?_
  refine TL.buildSliceN (vs := [.agg (Ek (1, false)).toArray]) rfl rfl rfl rfl rfl (by simp [Value.cells, Ek, P0]) rfl rfl rfl fun b3 w3 hal => ?_
  have hl1 : Lsr evE Any w3 (.slice (some ⟨b3, 0, none⟩) 1 1) f1 := by
    have hal' : Al w2 w3 b3 (.cells (Ek (1, false)).toArray 90) := by simpa [Value.cells] using hal
    exact ⟨[Ek (1, false)], by simpa [f1, evE] using (Al.rdN (sz := 10) (len := 1) hal' rfl (by simp [maxLen])).sub (G := Any) fun _ _ => trivial, Els.nil.snoc rfl⟩
  have hw23 : Ext w2 w3 := hal.below
  have hw3 := hw2.trans hw23
  clear hal
  repeat (first | refine TL.move rfl rfl rfl ?_ | refine TL.assign rfl rfl rfl ?_ | refine TL.nilCheck rfl rfl rfl ?_ | refine TL.fieldAddr rfl rfl rfl ?_ | refine TL.convI rfl rfl rfl ?_ | refine TL.cmpI rfl rfl rfl rfl rfl ?_ | refine TL.arith rfl rfl rfl rfl rfl ?_ | refine TL.lenS rfl rfl rfl ?_ | refine TL.lenStr rfl rfl rfl ?_ | refine TL.not rfl rfl rfl ?_ | refine TL.skipG rfl rfl ?_ | refine TL.pickT rfl rfl rfl rfl ?_ | refine TL.pickF rfl rfl rfl rfl ?_ | refine TL.extract rfl rfl rfl rfl ?_ | refine TL.maxI rfl rfl rfl rfl ?_ | refine TL.minI rfl rfl rfl rfl ?_ | refine TL.nilCheckF rfl rfl rfl ?_ | refine TL.nil ?_ | refine T.seqK fun K hK => ?_ | (refine T.regionO fun ops => ?_) | refine T.condT rfl ?_ | refine T.condF rfl ?_ | refine T.block ?_ | refine T.skip ?_ | refine T.ret ?_ | refine T.exit ?_ | (refine hK _ _ ?_; clear hK K) | clear hK K | clear ops)
  refine TL.call rfl rfl rfl (ToReceive_ret _ nils f1 [] w3 hl1 (Lsr.nilF _ _ _) (by simp [f1]) (by simp)) ?_
  rintro a1 w4 ⟨hw34, ha1⟩
  have ha1 : Lsr pkE Any w4 a1 [()] := ha1
  obtain ⟨a1a, a1c, rfl, _⟩ := ha1.shape
  have hw4 := hw3.trans hw34
  repeat (first | refine TL.move rfl rfl rfl ?_ | refine TL.assign rfl rfl rfl ?_ | refine TL.nilCheck rfl rfl rfl ?_ | refine TL.fieldAddr rfl rfl rfl ?_ | refine TL.convI rfl rfl rfl ?_ | refine TL.cmpI rfl rfl rfl rfl rfl ?_ | refine TL.arith rfl rfl rfl rfl rfl ?_ | refine TL.lenS rfl rfl rfl ?_ | refine TL.lenStr rfl rfl rfl ?_ | refine TL.not rfl rfl rfl ?_ | refine TL.skipG rfl rfl ?_ | refine TL.pickT rfl rfl rfl rfl ?_ | refine TL.pickF rfl rfl rfl rfl ?_ | refine TL.extract rfl rfl rfl rfl ?_ | refine TL.maxI rfl rfl rfl rfl ?_ | refine TL.minI rfl rfl rfl rfl ?_ | refine TL.nilCheckF rfl rfl rfl ?_ | refine TL.nil ?_ | refine T.seqK fun K hK => ?_ | (refine T.regionO fun ops => ?_) | refine T.condT rfl ?_ | refine T.condF rfl ?_ | refine T.block ?_ | refine T.skip ?_ | refine T.ret ?_ | refine T.exit ?_ | (refine hK _ _ ?_; clear hK K) | clear hK K | clear ops)
  refine TL.call rfl rfl rfl (ToAnswer_ret _ nils [] w4 (hl1.ext hw34) (Lsr.nilF _ _ _) (by simp)) ?_
  rintro _ w5 ⟨hw45, b4, b5, rfl, hb4, hb5⟩
  have hb4 : Lsr pkE Any w5 b4 [] := hb4
  obtain ⟨b4a, b4c, rfl, _⟩ := hb4.shape
  have hw35 := hw34.trans hw45
  have hw5 := hw4.trans hw45
  repeat (first | refine TL.move rfl rfl rfl ?_ | refine TL.assign rfl rfl rfl ?_ | refine TL.nilCheck rfl rfl rfl ?_ | refine TL.fieldAddr rfl rfl rfl ?_ | refine TL.convI rfl rfl rfl ?_ | refine TL.cmpI rfl rfl rfl rfl rfl ?_ | refine TL.arith rfl rfl rfl rfl rfl ?_ | refine TL.lenS rfl rfl rfl ?_ | refine TL.lenStr rfl rfl rfl ?_ | refine TL.not rfl rfl rfl ?_ | refine TL.skipG rfl rfl ?_ | refine TL.pickT rfl rfl rfl rfl ?_ | refine TL.pickF rfl rfl rfl rfl ?_ | refine TL.extract rfl rfl rfl rfl ?_ | refine TL.maxI rfl rfl rfl rfl ?_ | refine TL.minI rfl rfl rfl rfl ?_ | refine TL.nilCheckF rfl rfl rfl ?_ | refine TL.nil ?_ | refine T.seqK fun K hK => ?_ | (refine T.regionO fun ops => ?_) | refine T.condT rfl ?_ | refine T.condF rfl ?_ | refine T.block ?_ | refine T.skip ?_ | refine T.ret ?_ | refine T.exit ?_ | (refine hK _ _ ?_; clear hK K) | clear hK K | clear ops)
  refine TL.ev rfl rfl (Ev.loadRA (xs := P0) rfl (hr2.keepA (hw23.trans hw35)) rfl rfl) ?_
  refine TL.ev rfl rfl (Ev.build (out := [.bool true, .int .i64 0]) rfl rfl) ?_
  refine TL.ev rfl rfl (Ev.build (out := Ek (2, true)) rfl rfl) ?_
  refine TL.buildSliceN (vs := [.agg (Ek (2, true)).toArray]) rfl rfl rfl rfl rfl (by simp [Value.cells, Ek, P0]) rfl rfl rfl fun b6 w6 hal => ?_
  have hl2 : Lsr evE Any w6 (.slice (some ⟨b6, 0, none⟩) 1 1) [(2, true)] := by
    have hal' : Al w5 w6 b6 (.cells (Ek (2, true)).toArray 90) := by simpa [Value.cells] using hal
    exact ⟨[Ek (2, true)], by simpa [evE] using (Al.rdN (sz := 10) (len := 1) hal' rfl (by simp [maxLen])).sub (G := Any) fun _ _ => trivial, Els.nil.snoc rfl⟩
  have hw56 : Ext w5 w6 := hal.below
  have hw36 := hw35.trans hw56
  have hw6 := hw5.trans hw56
  clear hal
  refine TL.call rfl rfl rfl (ToAnswer_ret _ _ [(2, true)] w6 (hl1.ext hw36) hl2 (by simp)) ?_
  rintro _ w7 ⟨hw67, b6v, b7v, rfl, hb6, hb7⟩
  have hb6 : Lsr pkE Any w7 b6v [()] := hb6
  have hb7 : Lsr akE Any w7 b7v [true] := hb7
  obtain ⟨b6a, b6c, rfl, _⟩ := hb6.shape
  obtain ⟨b7a, b7c, rfl, _⟩ := hb7.shape
  have hw37 := hw36.trans hw67
  have hw7 := hw6.trans hw67
  repeat (first | refine TL.move rfl rfl rfl ?_ | refine TL.assign rfl rfl rfl ?_ | refine TL.nilCheck rfl rfl rfl ?_ | refine TL.fieldAddr rfl rfl rfl ?_ | refine TL.convI rfl rfl rfl ?_ | refine TL.cmpI rfl rfl rfl rfl rfl ?_ | refine TL.arith rfl rfl rfl rfl rfl ?_ | refine TL.lenS rfl rfl rfl ?_ | refine TL.lenStr rfl rfl rfl ?_ | refine TL.not rfl rfl rfl ?_ | refine TL.skipG rfl rfl ?_ | refine TL.pickT rfl rfl rfl rfl ?_ | refine TL.pickF rfl rfl rfl rfl ?_ | refine TL.extract rfl rfl rfl rfl ?_ | refine TL.maxI rfl rfl rfl rfl ?_ | refine TL.minI rfl rfl rfl rfl ?_ | refine TL.nilCheckF rfl rfl rfl ?_ | refine TL.nil ?_ | refine T.seqK fun K hK => ?_ | (refine T.regionO fun ops => ?_) | refine T.condT rfl ?_ | refine T.condF rfl ?_ | refine T.block ?_ | refine T.skip ?_ | refine T.ret ?_ | refine T.exit ?_ | (refine hK _ _ ?_; clear hK K) | clear hK K | clear ops)
  refine T.drawTailG 33 Tryd.mixed (by kernel_rfl) fun w8 hb8 hh8 K' hK' => ?_
  have hw38 : Ext w3 w8 := hw37.trans hb8
  have hw8 : Ext w w8 := hw7.trans hb8
  simp only [List.take_succ_cons, List.take_zero]
  repeat (first | refine TS.ev rfl rfl (Ev.move rfl) ?_ | refine TS.ev rfl rfl (Ev.assign rfl) ?_ | refine TS.ev rfl rfl (Ev.nilCheck rfl) ?_ | refine TS.ev rfl rfl (Ev.fieldAddr rfl) ?_ | refine TS.ev rfl rfl (Ev.uop rfl rfl rfl) ?_ | refine TS.ev rfl rfl (Ev.cmpI rfl rfl rfl) ?_ | refine TS.ev rfl rfl (Ev.arith rfl rfl rfl) ?_ | refine TS.ev rfl rfl (Ev.convI rfl) ?_ | refine TS.ev rfl rfl (Ev.lenS rfl) ?_ | refine TS.ev rfl rfl (Ev.lenStr rfl) ?_ | refine TS.ev rfl rfl (Ev.not rfl) ?_ | refine TS.skipG rfl rfl ?_ | refine TS.ev rfl rfl (Ev.pickT rfl rfl) ?_ | refine TS.ev rfl rfl (Ev.pickF rfl rfl) ?_ | refine TS.ev rfl rfl (Ev.extract rfl rfl) ?_ | refine TS.ev rfl rfl (Ev.maxI rfl rfl) ?_ | refine TS.ev rfl rfl (Ev.minI rfl rfl) ?_ | refine TS.ev rfl rfl (Ev.nilCheckF rfl) ?_ | refine TS.nil ?_)
  refine TS.indexL (E := pkE) (a := ()) (j := 0) rfl rfl rfl rfl rfl rfl (ha1.ext (hw45.trans (hw56.trans (hw67.trans hb8)))) rfl rfl fun b o us _ hus hcell => ?_
  have hu' : us = P0 := hus
  subst hu'
  refine TS.ev rfl rfl (Ev.loadA (xs := P0) rfl rfl hcell) ?_
  refine TS.ev rfl rfl (Ev.loadRA (xs := P0) rfl (hr2.keepA (hw23.trans hw38)) rfl rfl) ?_
  refine TS.ev rfl rfl (Ev.eqP0 rfl rfl) ?_
  repeat (first | refine TS.ev rfl rfl (Ev.move rfl) ?_ | refine TS.ev rfl rfl (Ev.assign rfl) ?_ | refine TS.ev rfl rfl (Ev.nilCheck rfl) ?_ | refine TS.ev rfl rfl (Ev.fieldAddr rfl) ?_ | refine TS.ev rfl rfl (Ev.uop rfl rfl rfl) ?_ | refine TS.ev rfl rfl (Ev.cmpI rfl rfl rfl) ?_ | refine TS.ev rfl rfl (Ev.arith rfl rfl rfl) ?_ | refine TS.ev rfl rfl (Ev.convI rfl) ?_ | refine TS.ev rfl rfl (Ev.lenS rfl) ?_ | refine TS.ev rfl rfl (Ev.lenStr rfl) ?_ | refine TS.ev rfl rfl (Ev.not rfl) ?_ | refine TS.skipG rfl rfl ?_ | refine TS.ev rfl rfl (Ev.pickT rfl rfl) ?_ | refine TS.ev rfl rfl (Ev.pickF rfl rfl) ?_ | refine TS.ev rfl rfl (Ev.extract rfl rfl) ?_ | refine TS.ev rfl rfl (Ev.maxI rfl rfl) ?_ | refine TS.ev rfl rfl (Ev.minI rfl rfl) ?_ | refine TS.ev rfl rfl (Ev.nilCheckF rfl) ?_ | refine TS.nil ?_)
  refine TS.indexL (E := akE) (a := true) (j := 0) rfl rfl rfl rfl rfl rfl (hb7.ext hb8) rfl rfl fun b2 o2 us2 _ hus2 hcell2 => ?_
  have hu2 : us2 = [.bool true, .int .i64 0] := hus2
  subst hu2
  repeat (first | refine TS.ev rfl rfl (Ev.move rfl) ?_ | refine TS.ev rfl rfl (Ev.assign rfl) ?_ | refine TS.ev rfl rfl (Ev.nilCheck rfl) ?_ | refine TS.ev rfl rfl (Ev.fieldAddr rfl) ?_ | refine TS.ev rfl rfl (Ev.uop rfl rfl rfl) ?_ | refine TS.ev rfl rfl (Ev.cmpI rfl rfl rfl) ?_ | refine TS.ev rfl rfl (Ev.arith rfl rfl rfl) ?_ | refine TS.ev rfl rfl (Ev.convI rfl) ?_ | refine TS.ev rfl rfl (Ev.lenS rfl) ?_ | refine TS.ev rfl rfl (Ev.lenStr rfl) ?_ | refine TS.ev rfl rfl (Ev.not rfl) ?_ | refine TS.skipG rfl rfl ?_ | refine TS.ev rfl rfl (Ev.pickT rfl rfl) ?_ | refine TS.ev rfl rfl (Ev.pickF rfl rfl) ?_ | refine TS.ev rfl rfl (Ev.extract rfl rfl) ?_ | refine TS.ev rfl rfl (Ev.maxI rfl rfl) ?_ | refine TS.ev rfl rfl (Ev.minI rfl rfl) ?_ | refine TS.ev rfl rfl (Ev.nilCheckF rfl) ?_ | refine TS.nil ?_)
  refine TS.ev rfl rfl (Ev.load1 (v := .bool true) rfl (hcell2 0 _ rfl)) ?_
  repeat (first | refine TS.ev rfl rfl (Ev.move rfl) ?_ | refine TS.ev rfl rfl (Ev.assign rfl) ?_ | refine TS.ev rfl rfl (Ev.nilCheck rfl) ?_ | refine TS.ev rfl rfl (Ev.fieldAddr rfl) ?_ | refine TS.ev rfl rfl (Ev.uop rfl rfl rfl) ?_ | refine TS.ev rfl rfl (Ev.cmpI rfl rfl rfl) ?_ | refine TS.ev rfl rfl (Ev.arith rfl rfl rfl) ?_ | refine TS.ev rfl rfl (Ev.convI rfl) ?_ | refine TS.ev rfl rfl (Ev.lenS rfl) ?_ | refine TS.ev rfl rfl (Ev.lenStr rfl) ?_ | refine TS.ev rfl rfl (Ev.not rfl) ?_ | refine TS.skipG rfl rfl ?_ | refine TS.ev rfl rfl (Ev.pickT rfl rfl) ?_ | refine TS.ev rfl rfl (Ev.pickF rfl rfl) ?_ | refine TS.ev rfl rfl (Ev.extract rfl rfl) ?_ | refine TS.ev rfl rfl (Ev.maxI rfl rfl) ?_ | refine TS.ev rfl rfl (Ev.minI rfl rfl) ?_ | refine TS.ev rfl rfl (Ev.nilCheckF rfl) ?_ | refine TS.nil ?_)
  refine hK' _ ?_
  simp only [List.drop_succ_cons, List.drop_zero]
  clear hK' K'
  refine TL.call rfl rfl rfl (ToTimeout_ret _ f1 w8 (hl1.ext hw38) (by simp [f1])) ?_
  rintro c1 w9 ⟨hw89, hc1⟩
  have hc1 : Lsr pkE Any w9 c1 [()] := hc1
  obtain ⟨c1a, c1c, rfl, _⟩ := hc1.shape
  repeat (first | refine TL.move rfl rfl rfl ?_ | refine TL.assign rfl rfl rfl ?_ | refine TL.nilCheck rfl rfl rfl ?_ | refine TL.fieldAddr rfl rfl rfl ?_ | refine TL.convI rfl rfl rfl ?_ | refine TL.cmpI rfl rfl rfl rfl rfl ?_ | refine TL.arith rfl rfl rfl rfl rfl ?_ | refine TL.lenS rfl rfl rfl ?_ | refine TL.lenStr rfl rfl rfl ?_ | refine TL.not rfl rfl rfl ?_ | refine TL.skipG rfl rfl ?_ | refine TL.pickT rfl rfl rfl rfl ?_ | refine TL.pickF rfl rfl rfl rfl ?_ | refine TL.extract rfl rfl rfl rfl ?_ | refine TL.maxI rfl rfl rfl rfl ?_ | refine TL.minI rfl rfl rfl rfl ?_ | refine TL.nilCheckF rfl rfl rfl ?_ | refine TL.nil ?_ | refine T.seqK fun K hK => ?_ | refine T.region ?_ | refine T.condT rfl ?_ | refine T.condF rfl ?_ | refine T.block ?_ | refine T.skip ?_ | refine T.ret ?_ | refine T.exit ?_ | (refine hK _ _ ?_; clear hK K) | clear hK K)
  exact ⟨_, rfl, rfl, hw8.trans hw89⟩
end Go.Proofs
