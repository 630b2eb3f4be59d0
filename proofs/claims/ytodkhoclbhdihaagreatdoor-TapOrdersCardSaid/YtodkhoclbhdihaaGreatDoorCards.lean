/-
  DERIVED. GIVEN WITH THE SEED: THE CARDS: each row of YtodkhoclbhdihaaGreatDoorRows.lean that lists a variable, with what it lists TIED to the program's text (the seventh form; the later family's looks); each row that meets fmt, with fmt's text TOLD by the authors' own Lean function (tested against real Go, not proved from fmt's source: count such statements apart). THE CARD IS WHAT COUNTS. Prove the row's statement (the work); the ties are given (YtodkhoclbhdihaaGreatDoorTie.lean); close each card by the builder's one call (the guide's Derived/Test/ToyasCard.lean, 'card_holds'). Laid BY PROGRAM, IN A SANDBOX (cutbox-door.mjs). By AI agents, Wed Nov 11 2026. No macro, syntax, notation, axiom, sorry.
-/
import Derived.Test.YtodkhoclbhdihaaGreatDoorRows
import GoSem.ClaimSeven
namespace Go.Proofs.YtodkhoclbhdihaaGreatDoor
namespace Rows

/-- THE TIED CARD OF 'jotterlaw28.TapText'. -/
def tapTextCard : Claim7 := { stood := { row := tapTextRow, standIns := [], harness := (true, "4603e80b3ac151a4e552611bab457dda9fa709194bdb9cd355c1de7efcf1f1fc"), looks := true }, kinds := [], alts := [], laidByText := true, laidKinds := [.handle, .data, .data, .widerDeep], laidTests := true, laidLooks := .later }
def TapTextCardSaid : Prop := Claim7.holds Tryz.pinned (.plain (OpenSpec.ofChange tapTextSpec)) tapTextCard

/-- THE TIED CARD OF 'jotterlaw28.TapPlays'. -/
def tapPlaysCard : Claim7 := { stood := { row := tapPlaysRow, standIns := [], harness := (true, "4603e80b3ac151a4e552611bab457dda9fa709194bdb9cd355c1de7efcf1f1fc"), looks := true }, kinds := [], alts := [], laidByText := true, laidKinds := [.handle, .data, .data, .widerDeep], laidTests := true, laidLooks := .later }
def TapPlaysCardSaid : Prop := Claim7.holds Tryz.pinned (.plain (OpenSpec.ofChange tapPlaysSpec)) tapPlaysCard

/-- THE TIED CARD OF 'jotterlaw28.TapOrders'. -/
def tapOrdersCard : Claim7 := { stood := { row := tapOrdersRow, standIns := [], harness := (true, "4603e80b3ac151a4e552611bab457dda9fa709194bdb9cd355c1de7efcf1f1fc"), looks := true }, kinds := [], alts := [], laidByText := true, laidKinds := [.handle, .data, .data, .widerDeep], laidTests := true, laidLooks := .later }
def TapOrdersCardSaid : Prop := Claim7.holds Tryz.pinned (.plain (OpenSpec.ofChange tapOrdersSpec)) tapOrdersCard

/-- THE TIED CARD OF 'jotterlaw28.TapAgain'. -/
def tapAgainCard : Claim7 := { stood := { row := tapAgainRow, standIns := [], harness := (true, "4603e80b3ac151a4e552611bab457dda9fa709194bdb9cd355c1de7efcf1f1fc"), looks := true }, kinds := [], alts := [], laidByText := true, laidKinds := [.handle, .data, .data, .widerDeep], laidTests := true, laidLooks := .later }
def TapAgainCardSaid : Prop := Claim7.holds Tryz.pinned (.plain (OpenSpec.ofChange tapAgainSpec)) tapAgainCard

/-- THE TIED CARD OF 'jotterlaw28.TapTwo'. -/
def tapTwoCard : Claim7 := { stood := { row := tapTwoRow, standIns := [], harness := (true, "4603e80b3ac151a4e552611bab457dda9fa709194bdb9cd355c1de7efcf1f1fc"), looks := true }, kinds := [], alts := [], laidByText := true, laidKinds := [.handle, .data, .data, .widerDeep], laidTests := true, laidLooks := .later }
def TapTwoCardSaid : Prop := Claim7.holds Tryz.pinned (.plain (OpenSpec.ofChange tapTwoSpec)) tapTwoCard

/-- THE TIED CARD OF 'jotterlaw28.TapFresh'. -/
def tapFreshCard : Claim7 := { stood := { row := tapFreshRow, standIns := [], harness := (true, "4603e80b3ac151a4e552611bab457dda9fa709194bdb9cd355c1de7efcf1f1fc"), looks := true }, kinds := [], alts := [], laidByText := true, laidKinds := [.handle, .data, .data, .widerDeep], laidTests := true, laidLooks := .later }
def TapFreshCardSaid : Prop := Claim7.holds Tryz.pinned (.plain (OpenSpec.ofChange tapFreshSpec)) tapFreshCard

/-- THE TIED CARD OF 'jotterlaw28.TapFlips'. -/
def tapFlipsCard : Claim7 := { stood := { row := tapFlipsRow, standIns := [], harness := (true, "4603e80b3ac151a4e552611bab457dda9fa709194bdb9cd355c1de7efcf1f1fc"), looks := true }, kinds := [], alts := [], laidByText := true, laidKinds := [.handle, .data, .data, .widerDeep], laidTests := true, laidLooks := .later }
def TapFlipsCardSaid : Prop := Claim7.holds Tryz.pinned (.plain (OpenSpec.ofChange tapFlipsSpec)) tapFlipsCard

/-- THE SECOND FORM's CARD OF 'jotterlaw28.TapText'. -/
def tapTextUptoCard : Claim7 := { stood := { row := tapTextUptoRow, standIns := [], harness := (true, "4603e80b3ac151a4e552611bab457dda9fa709194bdb9cd355c1de7efcf1f1fc"), looks := true }, kinds := [], alts := [], laidByText := true, laidKinds := [.handle, .data, .data, .widerDeep], laidTests := true, laidLooks := .later }
def TapTextUptoCardSaid : Prop := Claim7.holds Tryz.pinned (.plain (OpenSpec.upto tapTextSpec)) tapTextUptoCard

/-- THE SECOND FORM's CARD OF 'jotterlaw28.TapPlays'. -/
def tapPlaysUptoCard : Claim7 := { stood := { row := tapPlaysUptoRow, standIns := [], harness := (true, "4603e80b3ac151a4e552611bab457dda9fa709194bdb9cd355c1de7efcf1f1fc"), looks := true }, kinds := [], alts := [], laidByText := true, laidKinds := [.handle, .data, .data, .widerDeep], laidTests := true, laidLooks := .later }
def TapPlaysUptoCardSaid : Prop := Claim7.holds Tryz.pinned (.plain (OpenSpec.upto tapPlaysSpec)) tapPlaysUptoCard

/-- THE SECOND FORM's CARD OF 'jotterlaw28.TapOrders'. -/
def tapOrdersUptoCard : Claim7 := { stood := { row := tapOrdersUptoRow, standIns := [], harness := (true, "4603e80b3ac151a4e552611bab457dda9fa709194bdb9cd355c1de7efcf1f1fc"), looks := true }, kinds := [], alts := [], laidByText := true, laidKinds := [.handle, .data, .data, .widerDeep], laidTests := true, laidLooks := .later }
def TapOrdersUptoCardSaid : Prop := Claim7.holds Tryz.pinned (.plain (OpenSpec.upto tapOrdersSpec)) tapOrdersUptoCard

/-- THE SECOND FORM's CARD OF 'jotterlaw28.TapAgain'. -/
def tapAgainUptoCard : Claim7 := { stood := { row := tapAgainUptoRow, standIns := [], harness := (true, "4603e80b3ac151a4e552611bab457dda9fa709194bdb9cd355c1de7efcf1f1fc"), looks := true }, kinds := [], alts := [], laidByText := true, laidKinds := [.handle, .data, .data, .widerDeep], laidTests := true, laidLooks := .later }
def TapAgainUptoCardSaid : Prop := Claim7.holds Tryz.pinned (.plain (OpenSpec.upto tapAgainSpec)) tapAgainUptoCard

/-- THE SECOND FORM's CARD OF 'jotterlaw28.TapTwo'. -/
def tapTwoUptoCard : Claim7 := { stood := { row := tapTwoUptoRow, standIns := [], harness := (true, "4603e80b3ac151a4e552611bab457dda9fa709194bdb9cd355c1de7efcf1f1fc"), looks := true }, kinds := [], alts := [], laidByText := true, laidKinds := [.handle, .data, .data, .widerDeep], laidTests := true, laidLooks := .later }
def TapTwoUptoCardSaid : Prop := Claim7.holds Tryz.pinned (.plain (OpenSpec.upto tapTwoSpec)) tapTwoUptoCard

/-- THE SECOND FORM's CARD OF 'jotterlaw28.TapFresh'. -/
def tapFreshUptoCard : Claim7 := { stood := { row := tapFreshUptoRow, standIns := [], harness := (true, "4603e80b3ac151a4e552611bab457dda9fa709194bdb9cd355c1de7efcf1f1fc"), looks := true }, kinds := [], alts := [], laidByText := true, laidKinds := [.handle, .data, .data, .widerDeep], laidTests := true, laidLooks := .later }
def TapFreshUptoCardSaid : Prop := Claim7.holds Tryz.pinned (.plain (OpenSpec.upto tapFreshSpec)) tapFreshUptoCard

/-- THE SECOND FORM's CARD OF 'jotterlaw28.TapFlips'. -/
def tapFlipsUptoCard : Claim7 := { stood := { row := tapFlipsUptoRow, standIns := [], harness := (true, "4603e80b3ac151a4e552611bab457dda9fa709194bdb9cd355c1de7efcf1f1fc"), looks := true }, kinds := [], alts := [], laidByText := true, laidKinds := [.handle, .data, .data, .widerDeep], laidTests := true, laidLooks := .later }
def TapFlipsUptoCardSaid : Prop := Claim7.holds Tryz.pinned (.plain (OpenSpec.upto tapFlipsSpec)) tapFlipsUptoCard
end Rows
end Go.Proofs.YtodkhoclbhdihaaGreatDoor
