/-
  DERIVED. GIVEN WITH THE SEED: THE CARDS: each row of YtodkhoclbhdihaaDoorRows.lean that lists a variable, with what it lists TIED to the program's text (the seventh form; the later family's looks); each row that meets fmt, with fmt's text TOLD by the authors' own Lean function (tested against real Go, not proved from fmt's source: count such statements apart). THE CARD IS WHAT COUNTS. Prove the row's statement (the work); the ties are given (YtodkhoclbhdihaaDoorTie.lean); close each card by the builder's one call (the guide's Derived/Test/ToyasCard.lean, 'card_holds'). Laid BY PROGRAM, IN A SANDBOX (cutbox-door.mjs). By AI agents, Wed Nov 11 2026. No macro, syntax, notation, axiom, sorry.
-/
import Derived.Test.YtodkhoclbhdihaaDoorRows
import GoSem.ClaimSeven
namespace Go.Proofs.YtodkhoclbhdihaaDoor
namespace Rows

/-- THE TIED CARD OF 'jotterlaw28.TapWays'. -/
def tapWaysCard : Claim7 := { stood := { row := tapWaysRow, standIns := [], harness := (true, "f9d79c70c8b577ccb21d4028ea40383df3337aaa785ec6cfa0fb4e8a98d0fa1f"), looks := true }, kinds := [], alts := [], laidByText := true, laidKinds := [.handle, .data, .data, .widerDeep], laidTests := true, laidLooks := .later }
def TapWaysCardSaid : Prop := Claim7.holds Tryd.pinned (.plain (OpenSpec.ofChange tapWaysSpec)) tapWaysCard

/-- THE SECOND FORM's CARD OF 'jotterlaw28.TapWays'. -/
def tapWaysUptoCard : Claim7 := { stood := { row := tapWaysUptoRow, standIns := [], harness := (true, "f9d79c70c8b577ccb21d4028ea40383df3337aaa785ec6cfa0fb4e8a98d0fa1f"), looks := true }, kinds := [], alts := [], laidByText := true, laidKinds := [.handle, .data, .data, .widerDeep], laidTests := true, laidLooks := .later }
def TapWaysUptoCardSaid : Prop := Claim7.holds Tryd.pinned (.plain (OpenSpec.upto tapWaysSpec)) tapWaysUptoCard
end Rows
end Go.Proofs.YtodkhoclbhdihaaDoor
