/-
  DERIVED. GIVEN WITH THE SEED: THE CARDS: each row of YtffffjngodinnaaGreatDoorRows.lean that lists a variable, with what it lists TIED to the program's text (the seventh form; the later family's looks); each row that meets fmt, with fmt's text TOLD by the authors' own Lean function (tested against real Go, not proved from fmt's source: count such statements apart). THE CARD IS WHAT COUNTS. Prove the row's statement (the work); the ties are given (YtffffjngodinnaaGreatDoorTie.lean); close each card by the builder's one call (the guide's Derived/Test/ToyasCard.lean, 'card_holds'). Laid BY PROGRAM, IN A SANDBOX (cutbox-door.mjs). By AI agents, Wed Nov 11 2026. No macro, syntax, notation, axiom, sorry.
-/
import Derived.Test.YtffffjngodinnaaGreatDoorRows
import GoSem.ClaimSeven
namespace Go.Proofs.YtffffjngodinnaaGreatDoor
namespace Rows

/-- THE TIED CARD OF 'toolchestlaw04.ProcActs'. -/
def procActsCard : Claim7 := { stood := { row := procActsRow, standIns := [], harness := (true, "a771aa2992f9d00779308793dfbb0f79b6dc350166aedad085c68cc4fea6d8e5"), looks := true }, kinds := [], alts := [], laidByText := true, laidKinds := [.data, .pinned], laidTests := true, laidLooks := .later }
def ProcActsCardSaid : Prop := Claim7.holds Tryz.pinned (.plain (OpenSpec.ofChange procActsSpec)) procActsCard

/-- THE TIED CARD OF 'toolchestlaw04.ProcFaults'. -/
def procFaultsCard : Claim7 := { stood := { row := procFaultsRow, standIns := [], harness := (true, "a771aa2992f9d00779308793dfbb0f79b6dc350166aedad085c68cc4fea6d8e5"), looks := true }, kinds := [], alts := [], laidByText := true, laidKinds := [.data, .pinned], laidTests := true, laidLooks := .later }
def ProcFaultsCardSaid : Prop := Claim7.holds Tryz.pinned (.plain (OpenSpec.ofChange procFaultsSpec)) procFaultsCard

/-- THE SECOND FORM's CARD OF 'toolchestlaw04.ProcActs'. -/
def procActsUptoCard : Claim7 := { stood := { row := procActsUptoRow, standIns := [], harness := (true, "a771aa2992f9d00779308793dfbb0f79b6dc350166aedad085c68cc4fea6d8e5"), looks := true }, kinds := [], alts := [], laidByText := true, laidKinds := [.data, .pinned], laidTests := true, laidLooks := .later }
def ProcActsUptoCardSaid : Prop := Claim7.holds Tryz.pinned (.plain (OpenSpec.upto procActsSpec)) procActsUptoCard

/-- THE SECOND FORM's CARD OF 'toolchestlaw04.ProcFaults'. -/
def procFaultsUptoCard : Claim7 := { stood := { row := procFaultsUptoRow, standIns := [], harness := (true, "a771aa2992f9d00779308793dfbb0f79b6dc350166aedad085c68cc4fea6d8e5"), looks := true }, kinds := [], alts := [], laidByText := true, laidKinds := [.data, .pinned], laidTests := true, laidLooks := .later }
def ProcFaultsUptoCardSaid : Prop := Claim7.holds Tryz.pinned (.plain (OpenSpec.upto procFaultsSpec)) procFaultsUptoCard
end Rows
end Go.Proofs.YtffffjngodinnaaGreatDoor
