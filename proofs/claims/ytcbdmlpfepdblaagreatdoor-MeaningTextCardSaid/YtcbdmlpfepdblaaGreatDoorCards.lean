/-
  DERIVED. GIVEN WITH THE SEED: THE CARDS: each row of YtcbdmlpfepdblaaGreatDoorRows.lean that lists a variable, with what it lists TIED to the program's text (the seventh form; the later family's looks); each row that meets fmt, with fmt's text TOLD by the authors' own Lean function (tested against real Go, not proved from fmt's source: count such statements apart). THE CARD IS WHAT COUNTS. Prove the row's statement (the work); the ties are given (YtcbdmlpfepdblaaGreatDoorTie.lean); close each card by the builder's one call (the guide's Derived/Test/ToyasCard.lean, 'card_holds'). Laid BY PROGRAM, IN A SANDBOX (cutbox-door.mjs). By AI agents, Wed Nov 11 2026. No macro, syntax, notation, axiom, sorry.
-/
import Derived.Test.YtcbdmlpfepdblaaGreatDoorRows
import GoSem.ClaimSeven
namespace Go.Proofs.YtcbdmlpfepdblaaGreatDoor
namespace Rows

/-- THE TIED CARD OF 'libevolutionlaw12.MeaningText'. -/
def meaningTextCard : Claim7 := { stood := { row := meaningTextRow, standIns := [], harness := (true, "20d522e31f1febcd7f0e12300ee6f6c8608f8db373124d28f143f38d301fb452"), looks := true }, kinds := [], alts := [], laidByText := true, laidKinds := [.data, .data, .data], laidTests := true, laidLooks := .later }
def MeaningTextCardSaid : Prop := Claim7.holds Tryz.pinned (.plain (OpenSpec.ofChange meaningTextSpec)) meaningTextCard

/-- THE SECOND FORM's CARD OF 'libevolutionlaw12.MeaningText'. -/
def meaningTextUptoCard : Claim7 := { stood := { row := meaningTextUptoRow, standIns := [], harness := (true, "20d522e31f1febcd7f0e12300ee6f6c8608f8db373124d28f143f38d301fb452"), looks := true }, kinds := [], alts := [], laidByText := true, laidKinds := [.data, .data, .data], laidTests := true, laidLooks := .later }
def MeaningTextUptoCardSaid : Prop := Claim7.holds Tryz.pinned (.plain (OpenSpec.upto meaningTextSpec)) meaningTextUptoCard
end Rows
end Go.Proofs.YtcbdmlpfepdblaaGreatDoor
