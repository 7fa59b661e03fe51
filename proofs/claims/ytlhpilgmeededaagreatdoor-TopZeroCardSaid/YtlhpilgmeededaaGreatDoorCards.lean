/-
  DERIVED. GIVEN WITH THE SEED: THE CARDS: each row of YtlhpilgmeededaaGreatDoorRows.lean that lists a variable, with what it lists TIED to the program's text (the seventh form; the later family's looks); each row that meets fmt, with fmt's text TOLD by the authors' own Lean function (tested against real Go, not proved from fmt's source: count such statements apart). THE CARD IS WHAT COUNTS. Prove the row's statement (the work); the ties are given (YtlhpilgmeededaaGreatDoorTie.lean); close each card by the builder's one call (the guide's Derived/Test/ToyasCard.lean, 'card_holds'). Laid BY PROGRAM, IN A SANDBOX (cutbox-door.mjs). By AI agents, Wed Nov 11 2026. No macro, syntax, notation, axiom, sorry.
-/
import Derived.Test.YtlhpilgmeededaaGreatDoorRows
import GoSem.ClaimSeven
namespace Go.Proofs.YtlhpilgmeededaaGreatDoor
namespace Rows

/-- THE TIED CARD OF 'vizardtop.TopZero'. -/
def topZeroCard : Claim7 := { stood := { row := topZeroRow, standIns := [], harness := (true, "43e91d71918ff2a6a7762e5ef025b110c5684ecaf698cd20a89be441adb90687"), looks := true }, kinds := [], alts := [], laidByText := true, laidKinds := [.data, .data, .data, .data, .handle, .sentinel, .sentinel, .pinned], laidTests := true, laidLooks := .later }
def TopZeroCardSaid : Prop := Claim7.holds Tryz.pinned (.plain (OpenSpec.ofChange topZeroSpec)) topZeroCard

/-- THE SECOND FORM's CARD OF 'vizardtop.TopZero'. -/
def topZeroUptoCard : Claim7 := { stood := { row := topZeroUptoRow, standIns := [], harness := (true, "43e91d71918ff2a6a7762e5ef025b110c5684ecaf698cd20a89be441adb90687"), looks := true }, kinds := [], alts := [], laidByText := true, laidKinds := [.data, .data, .data, .data, .handle, .sentinel, .sentinel, .pinned], laidTests := true, laidLooks := .later }
def TopZeroUptoCardSaid : Prop := Claim7.holds Tryz.pinned (.plain (OpenSpec.upto topZeroSpec)) topZeroUptoCard
end Rows
end Go.Proofs.YtlhpilgmeededaaGreatDoor
