/-
  DERIVED. GIVEN WITH THE SEED: THE CARDS: each row of YtobapajmplfeiaaGreatDoorRows.lean that lists a variable, with what it lists TIED to the program's text (the seventh form; the later family's looks); each row that meets fmt, with fmt's text TOLD by the authors' own Lean function (tested against real Go, not proved from fmt's source: count such statements apart). THE CARD IS WHAT COUNTS. Prove the row's statement (the work); the ties are given (YtobapajmplfeiaaGreatDoorTie.lean); close each card by the builder's one call (the guide's Derived/Test/ToyasCard.lean, 'card_holds'). Laid BY PROGRAM, IN A SANDBOX (cutbox-door.mjs). By AI agents, Wed Nov 11 2026. No macro, syntax, notation, axiom, sorry.
-/
import Derived.Test.YtobapajmplfeiaaGreatDoorRows
import GoSem.ClaimSeven
namespace Go.Proofs.YtobapajmplfeiaaGreatDoor
namespace Rows

/-- THE TIED CARD OF 'toolchestlaw19.NamesParts'. -/
def namesPartsCard : Claim7 := { stood := { row := namesPartsRow, standIns := [], harness := (true, "16d0efaf7f68e54371465d5e1224a86a8147a0d8981f9140283ca23b8876ac25"), looks := true }, kinds := [], alts := [], laidByText := true, laidKinds := [.data, .data, .data, .data, .sentinel, .sentinel, .pinned], laidTests := true, laidLooks := .later }
def NamesPartsCardSaid : Prop := Claim7.holds Tryz.pinned (.plain (OpenSpec.ofChange namesPartsSpec)) namesPartsCard

/-- THE TIED CARD OF 'toolchestlaw19.NamesEach'. -/
def namesEachCard : Claim7 := { stood := { row := namesEachRow, standIns := [], harness := (true, "16d0efaf7f68e54371465d5e1224a86a8147a0d8981f9140283ca23b8876ac25"), looks := true }, kinds := [], alts := [], laidByText := true, laidKinds := [.data, .data, .data, .data, .sentinel, .sentinel, .pinned], laidTests := true, laidLooks := .later }
def NamesEachCardSaid : Prop := Claim7.holds Tryz.pinned (.plain (OpenSpec.ofChange namesEachSpec)) namesEachCard

/-- THE TIED CARD OF 'toolchestlaw19.NamesNumbers'. -/
def namesNumbersCard : Claim7 := { stood := { row := namesNumbersRow, standIns := [], harness := (true, "16d0efaf7f68e54371465d5e1224a86a8147a0d8981f9140283ca23b8876ac25"), looks := true }, kinds := [], alts := [], laidByText := true, laidKinds := [.data, .data, .data, .data, .sentinel, .sentinel, .pinned], laidTests := true, laidLooks := .later }
def NamesNumbersCardSaid : Prop := Claim7.holds Tryz.pinned (.plain (OpenSpec.ofChange namesNumbersSpec)) namesNumbersCard

/-- THE SECOND FORM's CARD OF 'toolchestlaw19.NamesParts'. -/
def namesPartsUptoCard : Claim7 := { stood := { row := namesPartsUptoRow, standIns := [], harness := (true, "16d0efaf7f68e54371465d5e1224a86a8147a0d8981f9140283ca23b8876ac25"), looks := true }, kinds := [], alts := [], laidByText := true, laidKinds := [.data, .data, .data, .data, .sentinel, .sentinel, .pinned], laidTests := true, laidLooks := .later }
def NamesPartsUptoCardSaid : Prop := Claim7.holds Tryz.pinned (.plain (OpenSpec.upto namesPartsSpec)) namesPartsUptoCard

/-- THE SECOND FORM's CARD OF 'toolchestlaw19.NamesEach'. -/
def namesEachUptoCard : Claim7 := { stood := { row := namesEachUptoRow, standIns := [], harness := (true, "16d0efaf7f68e54371465d5e1224a86a8147a0d8981f9140283ca23b8876ac25"), looks := true }, kinds := [], alts := [], laidByText := true, laidKinds := [.data, .data, .data, .data, .sentinel, .sentinel, .pinned], laidTests := true, laidLooks := .later }
def NamesEachUptoCardSaid : Prop := Claim7.holds Tryz.pinned (.plain (OpenSpec.upto namesEachSpec)) namesEachUptoCard

/-- THE SECOND FORM's CARD OF 'toolchestlaw19.NamesNumbers'. -/
def namesNumbersUptoCard : Claim7 := { stood := { row := namesNumbersUptoRow, standIns := [], harness := (true, "16d0efaf7f68e54371465d5e1224a86a8147a0d8981f9140283ca23b8876ac25"), looks := true }, kinds := [], alts := [], laidByText := true, laidKinds := [.data, .data, .data, .data, .sentinel, .sentinel, .pinned], laidTests := true, laidLooks := .later }
def NamesNumbersUptoCardSaid : Prop := Claim7.holds Tryz.pinned (.plain (OpenSpec.upto namesNumbersSpec)) namesNumbersUptoCard
end Rows
end Go.Proofs.YtobapajmplfeiaaGreatDoor
