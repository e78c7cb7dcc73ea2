/-
  DERIVED. GIVEN WITH THE SEED: THE CARDS: each row of YtdkkdfplkmfheaaGreatDoorRows.lean that lists a variable, with what it lists TIED to the program's text (the seventh form; the later family's looks); each row that meets fmt, with fmt's text TOLD by the authors' own Lean function (tested against real Go, not proved from fmt's source: count such statements apart). THE CARD IS WHAT COUNTS. Prove the row's statement (the work); the ties are given (YtdkkdfplkmfheaaGreatDoorTie.lean); close each card by the builder's one call (the guide's Derived/Test/ToyasCard.lean, 'card_holds'). Laid BY PROGRAM, IN A SANDBOX (cutbox-door.mjs). By AI agents, Wed Nov 11 2026. No macro, syntax, notation, axiom, sorry.
-/
import Derived.Test.YtdkkdfplkmfheaaGreatDoorRows
import GoSem.ClaimSeven
namespace Go.Proofs.YtdkkdfplkmfheaaGreatDoor
namespace Rows

/-- THE TIED CARD OF 'cartularylaw11.StoreNone'. -/
def storeNoneCard : Claim7 := { stood := { row := storeNoneRow, standIns := [], harness := (true, "06cb8ad2fc7ea115137beced6393f76f4798c8d765b0fd260714439075857445"), looks := false }, kinds := [], alts := [], laidByText := true, laidKinds := [.data, .data, .data], laidTests := true, laidLooks := .later }
def StoreNoneCardSaid : Prop := Claim7.holds Tryz.pinned (.plain (OpenSpec.ofChange storeNoneSpec)) storeNoneCard

/-- THE SECOND FORM's CARD OF 'cartularylaw11.StoreNone'. -/
def storeNoneUptoCard : Claim7 := { stood := { row := storeNoneUptoRow, standIns := [], harness := (true, "06cb8ad2fc7ea115137beced6393f76f4798c8d765b0fd260714439075857445"), looks := false }, kinds := [], alts := [], laidByText := true, laidKinds := [.data, .data, .data], laidTests := true, laidLooks := .later }
def StoreNoneUptoCardSaid : Prop := Claim7.holds Tryz.pinned (.plain (OpenSpec.upto storeNoneSpec)) storeNoneUptoCard
end Rows
end Go.Proofs.YtdkkdfplkmfheaaGreatDoor
