/-
  DERIVED. GIVEN WITH THE SEED: THE CARDS: each row of YtnajkjgjeiodmaaGreatDoorRows.lean that lists a variable, with what it lists TIED to the program's text (the seventh form; the later family's looks); each row that meets fmt, with fmt's text TOLD by the authors' own Lean function (tested against real Go, not proved from fmt's source: count such statements apart). THE CARD IS WHAT COUNTS. Prove the row's statement (the work); the ties are given (YtnajkjgjeiodmaaGreatDoorTie.lean); close each card by the builder's one call (the guide's Derived/Test/ToyasCard.lean, 'card_holds'). Laid BY PROGRAM, IN A SANDBOX (cutbox-door.mjs). By AI agents, Wed Nov 11 2026. No macro, syntax, notation, axiom, sorry.
-/
import Derived.Test.YtnajkjgjeiodmaaGreatDoorRows
import GoSem.ClaimSeven
namespace Go.Proofs.YtnajkjgjeiodmaaGreatDoor
namespace Rows

/-- THE TIED CARD OF 'foolscaplaw4.BufPlays'. -/
def bufPlaysCard : Claim7 := { stood := { row := bufPlaysRow, standIns := [], harness := (true, "8956ccc1dac3647f98b2783df1f5d8ffebc3d968a6a306e8e8ebfe8e1e40a51d"), looks := false }, kinds := [], alts := [], laidByText := true, laidKinds := [.data, .pinned], laidTests := true, laidLooks := .later }
def BufPlaysCardSaid : Prop := Claim7.holds Tryz.pinned (.plain (OpenSpec.ofChange bufPlaysSpec)) bufPlaysCard

/-- THE TIED CARD OF 'foolscaplaw4.BufNew'. -/
def bufNewCard : Claim7 := { stood := { row := bufNewRow, standIns := [], harness := (true, "8956ccc1dac3647f98b2783df1f5d8ffebc3d968a6a306e8e8ebfe8e1e40a51d"), looks := false }, kinds := [], alts := [], laidByText := true, laidKinds := [.data, .pinned], laidTests := true, laidLooks := .later }
def BufNewCardSaid : Prop := Claim7.holds Tryz.pinned (.plain (OpenSpec.ofChange bufNewSpec)) bufNewCard

/-- THE TIED CARD OF 'foolscaplaw4.BufChanges'. -/
def bufChangesCard : Claim7 := { stood := { row := bufChangesRow, standIns := [], harness := (true, "8956ccc1dac3647f98b2783df1f5d8ffebc3d968a6a306e8e8ebfe8e1e40a51d"), looks := false }, kinds := [], alts := [], laidByText := true, laidKinds := [.data, .pinned], laidTests := true, laidLooks := .later }
def BufChangesCardSaid : Prop := Claim7.holds Tryz.pinned (.plain (OpenSpec.ofChange bufChangesSpec)) bufChangesCard

/-- THE TIED CARD OF 'foolscaplaw4.BufLimit'. -/
def bufLimitCard : Claim7 := { stood := { row := bufLimitRow, standIns := [], harness := (true, "8956ccc1dac3647f98b2783df1f5d8ffebc3d968a6a306e8e8ebfe8e1e40a51d"), looks := false }, kinds := [], alts := [], laidByText := true, laidKinds := [.data, .pinned], laidTests := true, laidLooks := .later }
def BufLimitCardSaid : Prop := Claim7.holds Tryz.pinned (.plain (OpenSpec.ofChange bufLimitSpec)) bufLimitCard

/-- THE TIED CARD OF 'foolscaplaw4.BufEmpty'. -/
def bufEmptyCard : Claim7 := { stood := { row := bufEmptyRow, standIns := [], harness := (true, "8956ccc1dac3647f98b2783df1f5d8ffebc3d968a6a306e8e8ebfe8e1e40a51d"), looks := false }, kinds := [], alts := [], laidByText := true, laidKinds := [.data, .pinned], laidTests := true, laidLooks := .later }
def BufEmptyCardSaid : Prop := Claim7.holds Tryz.pinned (.plain (OpenSpec.ofChange bufEmptySpec)) bufEmptyCard

/-- THE SECOND FORM's CARD OF 'foolscaplaw4.BufPlays'. -/
def bufPlaysUptoCard : Claim7 := { stood := { row := bufPlaysUptoRow, standIns := [], harness := (true, "8956ccc1dac3647f98b2783df1f5d8ffebc3d968a6a306e8e8ebfe8e1e40a51d"), looks := false }, kinds := [], alts := [], laidByText := true, laidKinds := [.data, .pinned], laidTests := true, laidLooks := .later }
def BufPlaysUptoCardSaid : Prop := Claim7.holds Tryz.pinned (.plain (OpenSpec.upto bufPlaysSpec)) bufPlaysUptoCard

/-- THE SECOND FORM's CARD OF 'foolscaplaw4.BufNew'. -/
def bufNewUptoCard : Claim7 := { stood := { row := bufNewUptoRow, standIns := [], harness := (true, "8956ccc1dac3647f98b2783df1f5d8ffebc3d968a6a306e8e8ebfe8e1e40a51d"), looks := false }, kinds := [], alts := [], laidByText := true, laidKinds := [.data, .pinned], laidTests := true, laidLooks := .later }
def BufNewUptoCardSaid : Prop := Claim7.holds Tryz.pinned (.plain (OpenSpec.upto bufNewSpec)) bufNewUptoCard

/-- THE SECOND FORM's CARD OF 'foolscaplaw4.BufChanges'. -/
def bufChangesUptoCard : Claim7 := { stood := { row := bufChangesUptoRow, standIns := [], harness := (true, "8956ccc1dac3647f98b2783df1f5d8ffebc3d968a6a306e8e8ebfe8e1e40a51d"), looks := false }, kinds := [], alts := [], laidByText := true, laidKinds := [.data, .pinned], laidTests := true, laidLooks := .later }
def BufChangesUptoCardSaid : Prop := Claim7.holds Tryz.pinned (.plain (OpenSpec.upto bufChangesSpec)) bufChangesUptoCard

/-- THE SECOND FORM's CARD OF 'foolscaplaw4.BufLimit'. -/
def bufLimitUptoCard : Claim7 := { stood := { row := bufLimitUptoRow, standIns := [], harness := (true, "8956ccc1dac3647f98b2783df1f5d8ffebc3d968a6a306e8e8ebfe8e1e40a51d"), looks := false }, kinds := [], alts := [], laidByText := true, laidKinds := [.data, .pinned], laidTests := true, laidLooks := .later }
def BufLimitUptoCardSaid : Prop := Claim7.holds Tryz.pinned (.plain (OpenSpec.upto bufLimitSpec)) bufLimitUptoCard

/-- THE SECOND FORM's CARD OF 'foolscaplaw4.BufEmpty'. -/
def bufEmptyUptoCard : Claim7 := { stood := { row := bufEmptyUptoRow, standIns := [], harness := (true, "8956ccc1dac3647f98b2783df1f5d8ffebc3d968a6a306e8e8ebfe8e1e40a51d"), looks := false }, kinds := [], alts := [], laidByText := true, laidKinds := [.data, .pinned], laidTests := true, laidLooks := .later }
def BufEmptyUptoCardSaid : Prop := Claim7.holds Tryz.pinned (.plain (OpenSpec.upto bufEmptySpec)) bufEmptyUptoCard
end Rows
end Go.Proofs.YtnajkjgjeiodmaaGreatDoor
