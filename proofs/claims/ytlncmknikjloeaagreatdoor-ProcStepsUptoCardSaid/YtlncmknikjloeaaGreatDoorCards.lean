/-
  DERIVED. GIVEN WITH THE SEED: THE CARDS: each row of YtlncmknikjloeaaGreatDoorRows.lean that lists a variable, with what it lists TIED to the program's text (the seventh form; the later family's looks); each row that meets fmt, with fmt's text TOLD by the authors' own Lean function (tested against real Go, not proved from fmt's source: count such statements apart). THE CARD IS WHAT COUNTS. Prove the row's statement (the work); the ties are given (YtlncmknikjloeaaGreatDoorTie.lean); close each card by the builder's one call (the guide's Derived/Test/ToyasCard.lean, 'card_holds'). Laid BY PROGRAM, IN A SANDBOX (cutbox-door.mjs). By AI agents, Wed Nov 11 2026. No macro, syntax, notation, axiom, sorry.
-/
import Derived.Test.YtlncmknikjloeaaGreatDoorRows
import GoSem.ClaimSeven
namespace Go.Proofs.YtlncmknikjloeaaGreatDoor
namespace Rows

/-- THE TIED CARD OF 'toolchestlaw04.ProcSteps'. -/
def procStepsCard : Claim7 := { stood := { row := procStepsRow, standIns := [], harness := (true, "9c9abd0e191f190fc511338c06a73cd5b80dadb64da31663c5b3b716d08093a5"), looks := true }, kinds := [], alts := [], laidByText := true, laidKinds := [.data, .pinned], laidTests := true, laidLooks := .later }
def ProcStepsCardSaid : Prop := Claim7.holds Tryz.pinned (.plain (OpenSpec.ofChange procStepsSpec)) procStepsCard

/-- THE SECOND FORM's CARD OF 'toolchestlaw04.ProcSteps'. -/
def procStepsUptoCard : Claim7 := { stood := { row := procStepsUptoRow, standIns := [], harness := (true, "9c9abd0e191f190fc511338c06a73cd5b80dadb64da31663c5b3b716d08093a5"), looks := true }, kinds := [], alts := [], laidByText := true, laidKinds := [.data, .pinned], laidTests := true, laidLooks := .later }
def ProcStepsUptoCardSaid : Prop := Claim7.holds Tryz.pinned (.plain (OpenSpec.upto procStepsSpec)) procStepsUptoCard
end Rows
end Go.Proofs.YtlncmknikjloeaaGreatDoor
