/-
  DERIVED. GIVEN WITH THE SEED: THE CARDS: each row of YtkdmbimkanjbhaaGreatDoorRows.lean that lists a variable, with what it lists TIED to the program's text (the seventh form; the later family's looks); each row that meets fmt, with fmt's text TOLD by the authors' own Lean function (tested against real Go, not proved from fmt's source: count such statements apart). THE CARD IS WHAT COUNTS. Prove the row's statement (the work); the ties are given (YtkdmbimkanjbhaaGreatDoorTie.lean); close each card by the builder's one call (the guide's Derived/Test/ToyasCard.lean, 'card_holds'). Laid BY PROGRAM, IN A SANDBOX (cutbox-door.mjs). By AI agents, Wed Nov 11 2026. No macro, syntax, notation, axiom, sorry.
-/
import Derived.Test.YtkdmbimkanjbhaaGreatDoorRows
import GoSem.ClaimSeven
namespace Go.Proofs.YtkdmbimkanjbhaaGreatDoor
namespace Rows

/-- THE TIED CARD OF 'gazettetop.WholeBooks'. -/
def wholeBooksCard : Claim7 := { stood := { row := wholeBooksRow, standIns := [], harness := (true, "27f3be6e5fc21504832d914e617e053c78be7ef492eae4e6483746025cdb9934"), looks := true }, kinds := [], alts := [], laidByText := true, laidKinds := [.data, .handle, .pinned], laidTests := true, laidLooks := .later }
def WholeBooksCardSaid : Prop := Claim7.holds Tryz.pinned (.plain (OpenSpec.ofChange wholeBooksSpec)) wholeBooksCard

/-- THE SECOND FORM's CARD OF 'gazettetop.WholeBooks'. -/
def wholeBooksUptoCard : Claim7 := { stood := { row := wholeBooksUptoRow, standIns := [], harness := (true, "27f3be6e5fc21504832d914e617e053c78be7ef492eae4e6483746025cdb9934"), looks := true }, kinds := [], alts := [], laidByText := true, laidKinds := [.data, .handle, .pinned], laidTests := true, laidLooks := .later }
def WholeBooksUptoCardSaid : Prop := Claim7.holds Tryz.pinned (.plain (OpenSpec.upto wholeBooksSpec)) wholeBooksUptoCard
end Rows
end Go.Proofs.YtkdmbimkanjbhaaGreatDoor
