/-
  DERIVED. GIVEN WITH THE SEED: THE CARDS: each row of YtiocjdggdmeggaaGreatDoorRows.lean that lists a variable, with what it lists TIED to the program's text (the seventh form; the later family's looks); each row that meets fmt, with fmt's text TOLD by the authors' own Lean function (tested against real Go, not proved from fmt's source: count such statements apart). THE CARD IS WHAT COUNTS. Prove the row's statement (the work); the ties are given (YtiocjdggdmeggaaGreatDoorTie.lean); close each card by the builder's one call (the guide's Derived/Test/ToyasCard.lean, 'card_holds'). Laid BY PROGRAM, IN A SANDBOX (cutbox-door.mjs). By AI agents, Wed Nov 11 2026. No macro, syntax, notation, axiom, sorry.
-/
import Derived.Test.YtiocjdggdmeggaaGreatDoorRows
import GoSem.ClaimSeven
namespace Go.Proofs.YtiocjdggdmeggaaGreatDoor
namespace Rows

/-- THE TIED CARD OF 'lenseskeep.Ships'. -/
def shipsCard : Claim7 := { stood := { row := shipsRow, standIns := [], harness := (true, "cd691badd77280803818ef9cfd1cdfbc81689d2eff7f68e75d3d6402c60482c2"), looks := true }, kinds := [], alts := [], laidByText := true, laidKinds := [.data, .data, .sentinel, .sentinel, .sentinel, .sentinel, .sentinel, .sentinel, .pinned], laidTests := true, laidLooks := .later }
def ShipsCardSaid : Prop := Claim7.holds Tryz.pinned (.plain (OpenSpec.ofChange shipsSpec)) shipsCard

/-- THE TIED CARD OF 'lenseslaw.All'. -/
def allCard : Claim7 := { stood := { row := allRow, standIns := [], harness := (true, "cd691badd77280803818ef9cfd1cdfbc81689d2eff7f68e75d3d6402c60482c2"), looks := true }, kinds := [], alts := [], laidByText := true, laidKinds := [.data, .data, .sentinel, .sentinel, .sentinel, .sentinel, .sentinel, .sentinel, .pinned], laidTests := true, laidLooks := .later }
def AllCardSaid : Prop := Claim7.holds Tryz.pinned (.plain (OpenSpec.ofChange allSpec)) allCard

/-- THE TIED CARD OF 'lenseslaw.Compiles'. -/
def compilesCard : Claim7 := { stood := { row := compilesRow, standIns := [], harness := (true, "cd691badd77280803818ef9cfd1cdfbc81689d2eff7f68e75d3d6402c60482c2"), looks := true }, kinds := [], alts := [], laidByText := true, laidKinds := [.data, .data, .sentinel, .sentinel, .sentinel, .sentinel, .sentinel, .sentinel, .pinned], laidTests := true, laidLooks := .later }
def CompilesCardSaid : Prop := Claim7.holds Tryz.pinned (.plain (OpenSpec.ofChange compilesSpec)) compilesCard

/-- THE TIED CARD OF 'lenseslaw.Creates'. -/
def createsCard : Claim7 := { stood := { row := createsRow, standIns := [], harness := (true, "cd691badd77280803818ef9cfd1cdfbc81689d2eff7f68e75d3d6402c60482c2"), looks := true }, kinds := [], alts := [], laidByText := true, laidKinds := [.data, .data, .sentinel, .sentinel, .sentinel, .sentinel, .sentinel, .sentinel, .pinned], laidTests := true, laidLooks := .later }
def CreatesCardSaid : Prop := Claim7.holds Tryz.pinned (.plain (OpenSpec.ofChange createsSpec)) createsCard

/-- THE TIED CARD OF 'lenseslaw.Reads'. -/
def readsCard : Claim7 := { stood := { row := readsRow, standIns := [], harness := (true, "cd691badd77280803818ef9cfd1cdfbc81689d2eff7f68e75d3d6402c60482c2"), looks := true }, kinds := [], alts := [], laidByText := true, laidKinds := [.data, .data, .sentinel, .sentinel, .sentinel, .sentinel, .sentinel, .sentinel, .pinned], laidTests := true, laidLooks := .later }
def ReadsCardSaid : Prop := Claim7.holds Tryz.pinned (.plain (OpenSpec.ofChange readsSpec)) readsCard

/-- THE TIED CARD OF 'lenseslaw.Puts'. -/
def putsCard : Claim7 := { stood := { row := putsRow, standIns := [], harness := (true, "cd691badd77280803818ef9cfd1cdfbc81689d2eff7f68e75d3d6402c60482c2"), looks := true }, kinds := [], alts := [], laidByText := true, laidKinds := [.data, .data, .sentinel, .sentinel, .sentinel, .sentinel, .sentinel, .sentinel, .pinned], laidTests := true, laidLooks := .later }
def PutsCardSaid : Prop := Claim7.holds Tryz.pinned (.plain (OpenSpec.ofChange putsSpec)) putsCard

/-- THE TIED CARD OF 'lenseskeep.Keyed'. -/
def keyedCard : Claim7 := { stood := { row := keyedRow, standIns := [], harness := (true, "cd691badd77280803818ef9cfd1cdfbc81689d2eff7f68e75d3d6402c60482c2"), looks := true }, kinds := [], alts := [], laidByText := true, laidKinds := [.data, .data, .sentinel, .sentinel, .sentinel, .sentinel, .sentinel, .sentinel, .pinned], laidTests := true, laidLooks := .later }
def KeyedCardSaid : Prop := Claim7.holds Tryz.pinned (.plain (OpenSpec.ofChange keyedSpec)) keyedCard

/-- THE TIED CARD OF 'lenseslaw.Converts'. -/
def convertsCard : Claim7 := { stood := { row := convertsRow, standIns := [], harness := (true, "cd691badd77280803818ef9cfd1cdfbc81689d2eff7f68e75d3d6402c60482c2"), looks := true }, kinds := [], alts := [], laidByText := true, laidKinds := [.data, .data, .sentinel, .sentinel, .sentinel, .sentinel, .sentinel, .sentinel, .pinned], laidTests := true, laidLooks := .later }
def ConvertsCardSaid : Prop := Claim7.holds Tryz.pinned (.plain (OpenSpec.ofChange convertsSpec)) convertsCard

/-- THE SECOND FORM's CARD OF 'lenseskeep.Ships'. -/
def shipsUptoCard : Claim7 := { stood := { row := shipsUptoRow, standIns := [], harness := (true, "cd691badd77280803818ef9cfd1cdfbc81689d2eff7f68e75d3d6402c60482c2"), looks := true }, kinds := [], alts := [], laidByText := true, laidKinds := [.data, .data, .sentinel, .sentinel, .sentinel, .sentinel, .sentinel, .sentinel, .pinned], laidTests := true, laidLooks := .later }
def ShipsUptoCardSaid : Prop := Claim7.holds Tryz.pinned (.plain (OpenSpec.upto shipsSpec)) shipsUptoCard

/-- THE SECOND FORM's CARD OF 'lenseslaw.All'. -/
def allUptoCard : Claim7 := { stood := { row := allUptoRow, standIns := [], harness := (true, "cd691badd77280803818ef9cfd1cdfbc81689d2eff7f68e75d3d6402c60482c2"), looks := true }, kinds := [], alts := [], laidByText := true, laidKinds := [.data, .data, .sentinel, .sentinel, .sentinel, .sentinel, .sentinel, .sentinel, .pinned], laidTests := true, laidLooks := .later }
def AllUptoCardSaid : Prop := Claim7.holds Tryz.pinned (.plain (OpenSpec.upto allSpec)) allUptoCard

/-- THE SECOND FORM's CARD OF 'lenseslaw.Compiles'. -/
def compilesUptoCard : Claim7 := { stood := { row := compilesUptoRow, standIns := [], harness := (true, "cd691badd77280803818ef9cfd1cdfbc81689d2eff7f68e75d3d6402c60482c2"), looks := true }, kinds := [], alts := [], laidByText := true, laidKinds := [.data, .data, .sentinel, .sentinel, .sentinel, .sentinel, .sentinel, .sentinel, .pinned], laidTests := true, laidLooks := .later }
def CompilesUptoCardSaid : Prop := Claim7.holds Tryz.pinned (.plain (OpenSpec.upto compilesSpec)) compilesUptoCard

/-- THE SECOND FORM's CARD OF 'lenseslaw.Creates'. -/
def createsUptoCard : Claim7 := { stood := { row := createsUptoRow, standIns := [], harness := (true, "cd691badd77280803818ef9cfd1cdfbc81689d2eff7f68e75d3d6402c60482c2"), looks := true }, kinds := [], alts := [], laidByText := true, laidKinds := [.data, .data, .sentinel, .sentinel, .sentinel, .sentinel, .sentinel, .sentinel, .pinned], laidTests := true, laidLooks := .later }
def CreatesUptoCardSaid : Prop := Claim7.holds Tryz.pinned (.plain (OpenSpec.upto createsSpec)) createsUptoCard

/-- THE SECOND FORM's CARD OF 'lenseslaw.Reads'. -/
def readsUptoCard : Claim7 := { stood := { row := readsUptoRow, standIns := [], harness := (true, "cd691badd77280803818ef9cfd1cdfbc81689d2eff7f68e75d3d6402c60482c2"), looks := true }, kinds := [], alts := [], laidByText := true, laidKinds := [.data, .data, .sentinel, .sentinel, .sentinel, .sentinel, .sentinel, .sentinel, .pinned], laidTests := true, laidLooks := .later }
def ReadsUptoCardSaid : Prop := Claim7.holds Tryz.pinned (.plain (OpenSpec.upto readsSpec)) readsUptoCard

/-- THE SECOND FORM's CARD OF 'lenseslaw.Puts'. -/
def putsUptoCard : Claim7 := { stood := { row := putsUptoRow, standIns := [], harness := (true, "cd691badd77280803818ef9cfd1cdfbc81689d2eff7f68e75d3d6402c60482c2"), looks := true }, kinds := [], alts := [], laidByText := true, laidKinds := [.data, .data, .sentinel, .sentinel, .sentinel, .sentinel, .sentinel, .sentinel, .pinned], laidTests := true, laidLooks := .later }
def PutsUptoCardSaid : Prop := Claim7.holds Tryz.pinned (.plain (OpenSpec.upto putsSpec)) putsUptoCard

/-- THE SECOND FORM's CARD OF 'lenseskeep.Keyed'. -/
def keyedUptoCard : Claim7 := { stood := { row := keyedUptoRow, standIns := [], harness := (true, "cd691badd77280803818ef9cfd1cdfbc81689d2eff7f68e75d3d6402c60482c2"), looks := true }, kinds := [], alts := [], laidByText := true, laidKinds := [.data, .data, .sentinel, .sentinel, .sentinel, .sentinel, .sentinel, .sentinel, .pinned], laidTests := true, laidLooks := .later }
def KeyedUptoCardSaid : Prop := Claim7.holds Tryz.pinned (.plain (OpenSpec.upto keyedSpec)) keyedUptoCard

/-- THE SECOND FORM's CARD OF 'lenseslaw.Converts'. -/
def convertsUptoCard : Claim7 := { stood := { row := convertsUptoRow, standIns := [], harness := (true, "cd691badd77280803818ef9cfd1cdfbc81689d2eff7f68e75d3d6402c60482c2"), looks := true }, kinds := [], alts := [], laidByText := true, laidKinds := [.data, .data, .sentinel, .sentinel, .sentinel, .sentinel, .sentinel, .sentinel, .pinned], laidTests := true, laidLooks := .later }
def ConvertsUptoCardSaid : Prop := Claim7.holds Tryz.pinned (.plain (OpenSpec.upto convertsSpec)) convertsUptoCard
end Rows
end Go.Proofs.YtiocjdggdmeggaaGreatDoor
