/- The law ferrymanlaw21.RelayProofs answers true for every input: the row of the seat and its tied card. Conditions: those of the row alone (the table sha.words reads as the program's text lays it). -/
import Derived.Test.YtflioeagjefkmaaDoorLaw
import Derived.Test.YtflioeagjefkmaaDoorOpn
import Derived.Test.YtflioeagjefkmaaDoorRows
import Derived.Test.YtflioeagjefkmaaDoorCards
import Derived.Test.YtflioeagjefkmaaDoorTie
import Derived.ProofKit
import Derived.LaidMore
import Derived.OpenShut
import Derived.Stop.Joined
import Derived.SevenTiedAt
set_option linter.all false
namespace Go.Proofs.YtflioeagjefkmaaDoor
open Go Go.Fw Go.RowKit Go.ChangeShapes Go.WideShapes Go.ChangeAt Go.Lib

theorem own : ownKnob Tryd.prog.godebug = none := by kernel_rfl
theorem laidOut : laidOutB Tryd.prog = true := by kernel_rfl
theorem gWords : Tryd.prog.globalNamed "ferryman/sha.words" = some 3 := by kernel_rfl
theorem kw_of_laid {W : World} (h : laidMetH Tryd.prog Rows.relayProofsRow.laid W) : KW W := by
  have h1 : laidMet Tryd.prog [("ferryman/sha.words", tabData .u32 (kw.map fun x => (x.toNat : Int)))] W := by
    rw [MakeChecks.laidMetH_plain _ _ _ (by kernel_rfl)] at h
    exact h
  have hT : TabIs Tryd.prog W "ferryman/sha.words" .u32 (kw.map fun x => (x.toNat : Int)) :=
    tabIs_of_head gWords (by kernel_rfl) Tryd.underlying198 Tryd.underlying195 (by kernel_rfl) (by kernel_rfl) h1
  have hc : ∀ i, i < 64 → W.cell? ⟨3, i, none⟩ = some (.int .u32 ((kw.map fun x => (x.toNat : Int)).getD i 0)) := fun i hi => hT.cell gWords i hi
  refine ⟨lt_of_cell (hc 0 (by omega)), fun j u hu => ?_⟩
  have hj : j < 64 := (List.getElem?_eq_some_iff.1 hu).1
  rw [hc j hj]
  simp only [List.getElem?_map, Option.map_eq_some_iff] at hu
  obtain ⟨x, hx, rfl⟩ := hu
  simp [List.getD_eq_getElem?_getD, hx, vu]

theorem at1 {P : Program} {t : TypeId} (hc : P.cellsOf t = 1) {cs : List Value} {o : Nat} {c : Value} (hco : cs[o]? = some c) : (cs.drop o).take (P.cellsOf t) = [c] := by
  rw [hc]
  obtain ⟨h1, h2⟩ := List.getElem?_eq_some_iff.1 hco
  rw [List.drop_eq_getElem_cons h1, h2]; rfl
set_option maxRecDepth 100000 in
theorem act_opn {H : Type} {enc : TypeId × Value → H} {w : World} {base : Nat} {spare : Nat → Bool} {held : Bool} (n : Nat) (cs : List Value) (y : DataW H × List MemPlace)
    (h : DataW.trod enc Tryd.prog w base spare held n 100 cs = some y) : ∃ a, actE.rel (fun _ => True) w cs a := by
  obtain ⟨xs, m, _, _, hl, hxl, hx⟩ := DataW.trod_struct Tryd.underlying100 h
  have hl4 : cs.length = 4 := by rw [hl]; kernel_rfl
  have hx4 : xs.length = 4 := hxl
  have c5 : Tryd.prog.cellsOf 5 = 1 := by kernel_rfl
  have c23 : Tryd.prog.cellsOf 23 = 1 := by kernel_rfl
  match cs, hl4 with
  | [c0, c1, c2, c3], _ =>
    have h0 := (congrArg (DataW.trod enc Tryd.prog w base spare held m 5) (at1 (o := 0) (cs := [c0, c1, c2, c3]) c5 rfl)).symm.trans (hx 0 _ rfl)
    have h1 := (congrArg (DataW.trod enc Tryd.prog w base spare held m 5) (at1 (o := 1) (cs := [c0, c1, c2, c3]) c5 rfl)).symm.trans (hx 1 _ rfl)
    have h2 := (congrArg (DataW.trod enc Tryd.prog w base spare held m 23) (at1 (o := 2) (cs := [c0, c1, c2, c3]) c23 rfl)).symm.trans (hx 2 _ rfl)
    have h3 := (congrArg (DataW.trod enc Tryd.prog w base spare held m 23) (at1 (o := 3) (cs := [c0, c1, c2, c3]) c23 rfl)).symm.trans (hx 3 _ rfl)
    rw [List.getElem?_eq_getElem (by omega)] at h0 h1 h2 h3
    obtain ⟨b0, rfl⟩ := u8_val Tryd.underlying5 h0
    obtain ⟨b1, rfl⟩ := u8_val Tryd.underlying5 h1
    obtain ⟨r, hr, _⟩ := opn_by Tryd.underlying23 Tryd.underlying5 c5 h2
    obtain ⟨v, hv, _⟩ := opn_by Tryd.underlying23 Tryd.underlying5 c5 h3
    exact ⟨⟨b0, b1, r, v⟩, c2, c3, rfl, hr, hv⟩

theorem door_met (os : Os) (args : Array Value) : laidMetH Tryd.prog Rows.relayProofsRow.laid ((World.doorLaid Tryd.prog 400 os).forCall (fun _ _ => 0) ⟨#[], args, []⟩).memory :=
  laidMetH_of_parts3 (fuel := 8) (laidMet_of_run' 8 (by kernel_rfl) (by kernel_rfl)) (by kernel_rfl) (by kernel_rfl)

set_option maxRecDepth 100000 in
theorem relay_lifted (os : Os) (started : os.Started) (H : Type) (enc : TypeId × Value → H) :
    ReturnsInHanded {} Tryd.checked os 3 .any (fun w args => (Rows.relayProofsSpec.pre enc Tryd.prog Tryd.f3 [] false w args ∧ laidMetH Tryd.prog Rows.relayProofsRow.laid w) ∧ sizedMet enc Tryd.prog Tryd.f3 (OpenSpec.ofChange Rows.relayProofsSpec) false w args)
      (Rows.relayProofsSpec.post enc Tryd.prog Tryd.f3 false true false false) := by
  refine returnsInHanded_of_change_and (C := Tryd.checked) (X := fun w _ => laidMetH Tryd.prog Rows.relayProofsRow.laid w) (fun _ _ _ hh h => h.of_heap hh) own started (by kernel_rfl) Tryd.func3
    (ChangeSpec.witness_shaped (enc := enc) (C := Tryd.checked) (os := os) (X := fun w _ => laidMetH Tryd.prog Rows.relayProofsRow.laid w) false (World.doorLaid Tryd.prog 400 os) #[.slice none 0 0, .slice none 0 0, .slice none 0 0] 8 rfl (World.shaped_of_RefB (by kernel_rfl) (by kernel_rfl)) (by kernel_rfl) (by kernel_rfl) (by kernel_rfl) (door_met os _)) ?_
  intro W base args ds gs before hval0 hW _ _ hL _
  have hval : ∀ (j : Nat) t v, Tryd.f3.params[j]? = some t → args[j]? = some v → Value.okWide Tryd.prog W .any base t v := hval0
  have hW' := hW
  obtain ⟨p, q, hA0, hV, rfl, hfz, hnd⟩ := hW
  have hA : DataW.TrodAll enc Tryd.prog W 0 (fun _ => true) true Tryd.f3.params.toList args.toList ds p := hA0
  rw [Tryd.params3] at hA hval
  obtain ⟨v0, v1, v2, d0, d1, d2, p0, p1, p2, rfl, rfl, rfl, h0, h1, h2⟩ := trodAll_three hA
  obtain ⟨rfl, rfl⟩ := trodVars_none hV
  obtain ⟨a0, n0, c0, rfl⟩ := okWide_slice Tryd.underlying22 (hval 0 _ v0 rfl rfl)
  obtain ⟨a1, n1, c1, rfl⟩ := okWide_slice Tryd.underlying23 (hval 1 _ v1 rfl rfl)
  obtain ⟨a2, n2, c2, rfl⟩ := okWide_slice Tryd.underlying23 (hval 2 _ v2 rfl rfl)
  have hKW := kw_of_laid hL
  clear hA0 hval0
  simp only [List.append_nil] at hW'
  have hlt : ∀ x ∈ p0 ++ p1 ++ p2, x.block < W.heap.size := fun x hx => by simpa using hW'.lt x hx
  have c5 : Tryd.prog.cellsOf 5 = 1 := by kernel_rfl
  obtain ⟨f0, t0⟩ := id h0
  obtain ⟨f1, t1⟩ := id h1
  obtain ⟨f2, t2⟩ := id h2
  obtain ⟨xs, hxs, hxn⟩ := opn_list (E := actE) Tryd.underlying22 (by kernel_rfl) (by decide) t0 act_opn
  obtain ⟨key, hkey, _⟩ := opn_by Tryd.underlying23 Tryd.underlying5 c5 t1
  obtain ⟨which, hwh, hwn⟩ := opn_by Tryd.underlying23 Tryd.underlying5 c5 t2
  refine Calls.mono (RelayProofs_ret _ _ _ xs key which W hKW hxs hkey hwh hxn hwn) ?_
  rintro e W' ⟨v, he, rfl, hE⟩
  refine ⟨_, he, _, _, _, [], p0 ++ (p1 ++ p2), [], hW', ?_, ?_, rfl, hE.frame _, fun h => by cases h⟩
  · exact trodAll_mk1 (shut_bool Tryd.underlying4 true)
  · exact trodAll_mk3 (Below.trod laidOut (by kernel_rfl) (of_decide_eq_true (by kernel_rfl)) h0 hE fun x hx => hlt x (by simp [hx])) (Below.trod laidOut (by kernel_rfl) (of_decide_eq_true (by kernel_rfl)) h1 hE fun x hx => hlt x (by simp [hx])) (Below.trod laidOut (by kernel_rfl) (of_decide_eq_true (by kernel_rfl)) h2 hE fun x hx => hlt x (by simp [hx]))

theorem relay_holds : Rows.RelayProofsSaid :=
  OpenClaim.holds_of_wide 3 Tryd.f3 rfl rfl rfl rfl rfl rfl rfl ⟨rfl, rfl, rfl, rfl, rfl⟩ rfl rfl rfl rfl rfl (by kernel_rfl) Tryd.func3 (by kernel_rfl)
    (of_decide_eq_true (by kernel_rfl)) (by unfold Func.isWrapper; first | (rw [if_pos (by decide +kernel)]; kernel_rfl) | (rw [if_neg (by decide +kernel)]; exact ⟨rfl, rfl⟩))
    (fun os started H enc _ => relay_lifted os started H enc)
theorem relay_card : Rows.RelayProofsCardSaid :=
  Claim7.holds_tied_plain_at .later [] [.data] true (true, "e256399fbf51db9e663e27145cb4b27d03f86502a645105e5324f7a8fa5426cb") true
    relay_holds (fun _ h => by cases h) (by kernel_rfl) (fun _ h => by cases h) relayProofs_row_tie rfl ⟨rfl, rfl⟩ (by kernel_rfl) rfl
    (fun f fn hf hfn => by
      obtain rfl : f = 3 := Option.some.inj ((show Tryd.prog.funcNamed "ferryman/ferrymanlaw21.RelayProofs" = some 3 by kernel_rfl).symm.trans hf) |>.symm
      obtain rfl : fn = Tryd.f3 := (Option.some.inj (Tryd.func3.symm.trans hfn)).symm
      exact ⟨by kernel_rfl, fun j t ht => by
        rw [Tryd.params3] at ht
        have hm : t ∈ [22, 23, 23] := by simpa using Array.mem_of_getElem? ht
        have hall : ([22, 23, 23].all fun u => !Tryd.prog.wantsStandIn u) = true := by kernel_rfl
        exact (show Tryd.prog.wantsStandIn t = false by simpa using List.all_eq_true.1 hall t hm)⟩)
    (by kernel_rfl)
#print axioms relay_card
end Go.Proofs.YtflioeagjefkmaaDoor
