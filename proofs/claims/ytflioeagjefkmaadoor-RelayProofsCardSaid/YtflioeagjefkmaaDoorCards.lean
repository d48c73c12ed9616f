/-
  DERIVED. GIVEN WITH THE SEED: THE CARDS: each row of YtflioeagjefkmaaDoorRows.lean that lists a variable, with what it lists TIED to the program's text (the seventh form; the later family's looks); each row that meets fmt, with fmt's text TOLD by the authors' own Lean function (tested against real Go, not proved from fmt's source: count such statements apart). THE CARD IS WHAT COUNTS. Prove the row's statement (the work); the ties are given (YtflioeagjefkmaaDoorTie.lean); close each card by the builder's one call (the guide's Derived/Test/ToyasCard.lean, 'card_holds'). Laid BY PROGRAM, IN A SANDBOX (cutbox-door.mjs). By AI agents, Wed Nov 11 2026. No macro, syntax, notation, axiom, sorry.
-/
import Derived.Test.YtflioeagjefkmaaDoorRows
import GoSem.ClaimSeven
namespace Go.Proofs.YtflioeagjefkmaaDoor
namespace Rows

/-- THE TIED CARD OF 'ferrymanlaw21.RelayProofs'. -/
def relayProofsCard : Claim7 := { stood := { row := relayProofsRow, standIns := [], harness := (true, "e256399fbf51db9e663e27145cb4b27d03f86502a645105e5324f7a8fa5426cb"), looks := true }, kinds := [], alts := [], laidByText := true, laidKinds := [.data], laidTests := true, laidLooks := .later }
def RelayProofsCardSaid : Prop := Claim7.holds Tryd.pinned (.plain (OpenSpec.ofChange relayProofsSpec)) relayProofsCard

/-- THE TIED CARD OF 'ferrymanlaw10.MultiChecks'. -/
def multiChecksCard : Claim7 := { stood := { row := multiChecksRow, standIns := [], harness := (true, "e256399fbf51db9e663e27145cb4b27d03f86502a645105e5324f7a8fa5426cb"), looks := true }, kinds := [], alts := [], laidByText := true, laidKinds := [.data, .data, .handle], laidTests := true, laidLooks := .later }
def MultiChecksCardSaid : Prop := Claim7.holds Tryd.pinned (.plain (OpenSpec.ofChange multiChecksSpec)) multiChecksCard

/-- THE TIED CARD OF 'ferrymanlaw10.MultiCodes'. -/
def multiCodesCard : Claim7 := { stood := { row := multiCodesRow, standIns := [], harness := (true, "e256399fbf51db9e663e27145cb4b27d03f86502a645105e5324f7a8fa5426cb"), looks := true }, kinds := [], alts := [], laidByText := true, laidKinds := [.data], laidTests := true, laidLooks := .later }
def MultiCodesCardSaid : Prop := Claim7.holds Tryd.pinned (.plain (OpenSpec.ofChange multiCodesSpec)) multiCodesCard

/-- THE SECOND FORM's CARD OF 'ferrymanlaw21.RelayProofs'. -/
def relayProofsUptoCard : Claim7 := { stood := { row := relayProofsUptoRow, standIns := [], harness := (true, "e256399fbf51db9e663e27145cb4b27d03f86502a645105e5324f7a8fa5426cb"), looks := true }, kinds := [], alts := [], laidByText := true, laidKinds := [.data], laidTests := true, laidLooks := .later }
def RelayProofsUptoCardSaid : Prop := Claim7.holds Tryd.pinned (.plain (OpenSpec.upto relayProofsSpec)) relayProofsUptoCard

/-- THE SECOND FORM's CARD OF 'ferrymanlaw10.MultiChecks'. -/
def multiChecksUptoCard : Claim7 := { stood := { row := multiChecksUptoRow, standIns := [], harness := (true, "e256399fbf51db9e663e27145cb4b27d03f86502a645105e5324f7a8fa5426cb"), looks := true }, kinds := [], alts := [], laidByText := true, laidKinds := [.data, .data, .handle], laidTests := true, laidLooks := .later }
def MultiChecksUptoCardSaid : Prop := Claim7.holds Tryd.pinned (.plain (OpenSpec.upto multiChecksSpec)) multiChecksUptoCard

/-- THE SECOND FORM's CARD OF 'ferrymanlaw10.MultiCodes'. -/
def multiCodesUptoCard : Claim7 := { stood := { row := multiCodesUptoRow, standIns := [], harness := (true, "e256399fbf51db9e663e27145cb4b27d03f86502a645105e5324f7a8fa5426cb"), looks := true }, kinds := [], alts := [], laidByText := true, laidKinds := [.data], laidTests := true, laidLooks := .later }
def MultiCodesUptoCardSaid : Prop := Claim7.holds Tryd.pinned (.plain (OpenSpec.upto multiCodesSpec)) multiCodesUptoCard
end Rows
end Go.Proofs.YtflioeagjefkmaaDoor
