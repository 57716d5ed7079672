/-
  DERIVED. GIVEN WITH THE SEED: THE CARDS: each row of YtlhiadnolckoeaaGreatDoorRows.lean that lists a variable, with what it lists TIED to the program's text (the seventh form; the later family's looks); each row that meets fmt, with fmt's text TOLD by the authors' own Lean function (tested against real Go, not proved from fmt's source: count such statements apart). THE CARD IS WHAT COUNTS. Prove the row's statement (the work); the ties are given (YtlhiadnolckoeaaGreatDoorTie.lean); close each card by the builder's one call (the guide's Derived/Test/ToyasCard.lean, 'card_holds'). Laid BY PROGRAM, IN A SANDBOX (cutbox-door.mjs). By AI agents, Wed Nov 11 2026. No macro, syntax, notation, axiom, sorry.
-/
import Derived.Test.YtlhiadnolckoeaaGreatDoorRows
import GoSem.ClaimSeven
namespace Go.Proofs.YtlhiadnolckoeaaGreatDoor
namespace Rows

/-- THE TIED CARD OF 'toolchestlaw10.TransSets'. -/
def transSetsCard : Claim7 := { stood := { row := transSetsRow, standIns := [], harness := (true, "c3c408f54a01880d04abaf22f1d65f7b21977ed137f4122cc7c94a46438bf6c9"), looks := true }, kinds := [], alts := [], laidByText := true, laidKinds := [.data, .data, .data, .data, .sentinel, .sentinel, .pinned], laidTests := true, laidLooks := .later }
def TransSetsCardSaid : Prop := Claim7.holds Tryz.pinned (.plain (OpenSpec.ofChange transSetsSpec)) transSetsCard

/-- THE TIED CARD OF 'toolchestlaw10.TransBack'. -/
def transBackCard : Claim7 := { stood := { row := transBackRow, standIns := [], harness := (true, "c3c408f54a01880d04abaf22f1d65f7b21977ed137f4122cc7c94a46438bf6c9"), looks := true }, kinds := [], alts := [], laidByText := true, laidKinds := [.data, .data, .data, .data, .sentinel, .sentinel, .pinned], laidTests := true, laidLooks := .later }
def TransBackCardSaid : Prop := Claim7.holds Tryz.pinned (.plain (OpenSpec.ofChange transBackSpec)) transBackCard

/-- THE TIED CARD OF 'toolchestlaw10.TransApart'. -/
def transApartCard : Claim7 := { stood := { row := transApartRow, standIns := [], harness := (true, "c3c408f54a01880d04abaf22f1d65f7b21977ed137f4122cc7c94a46438bf6c9"), looks := true }, kinds := [], alts := [], laidByText := true, laidKinds := [.data, .data, .data, .data, .sentinel, .sentinel, .pinned], laidTests := true, laidLooks := .later }
def TransApartCardSaid : Prop := Claim7.holds Tryz.pinned (.plain (OpenSpec.ofChange transApartSpec)) transApartCard

/-- THE SECOND FORM's CARD OF 'toolchestlaw10.TransSets'. -/
def transSetsUptoCard : Claim7 := { stood := { row := transSetsUptoRow, standIns := [], harness := (true, "c3c408f54a01880d04abaf22f1d65f7b21977ed137f4122cc7c94a46438bf6c9"), looks := true }, kinds := [], alts := [], laidByText := true, laidKinds := [.data, .data, .data, .data, .sentinel, .sentinel, .pinned], laidTests := true, laidLooks := .later }
def TransSetsUptoCardSaid : Prop := Claim7.holds Tryz.pinned (.plain (OpenSpec.upto transSetsSpec)) transSetsUptoCard

/-- THE SECOND FORM's CARD OF 'toolchestlaw10.TransBack'. -/
def transBackUptoCard : Claim7 := { stood := { row := transBackUptoRow, standIns := [], harness := (true, "c3c408f54a01880d04abaf22f1d65f7b21977ed137f4122cc7c94a46438bf6c9"), looks := true }, kinds := [], alts := [], laidByText := true, laidKinds := [.data, .data, .data, .data, .sentinel, .sentinel, .pinned], laidTests := true, laidLooks := .later }
def TransBackUptoCardSaid : Prop := Claim7.holds Tryz.pinned (.plain (OpenSpec.upto transBackSpec)) transBackUptoCard

/-- THE SECOND FORM's CARD OF 'toolchestlaw10.TransApart'. -/
def transApartUptoCard : Claim7 := { stood := { row := transApartUptoRow, standIns := [], harness := (true, "c3c408f54a01880d04abaf22f1d65f7b21977ed137f4122cc7c94a46438bf6c9"), looks := true }, kinds := [], alts := [], laidByText := true, laidKinds := [.data, .data, .data, .data, .sentinel, .sentinel, .pinned], laidTests := true, laidLooks := .later }
def TransApartUptoCardSaid : Prop := Claim7.holds Tryz.pinned (.plain (OpenSpec.upto transApartSpec)) transApartUptoCard
end Rows
end Go.Proofs.YtlhiadnolckoeaaGreatDoor
