/-
  DERIVED. GIVEN WITH THE SEED: THE CARDS: each row of YtaobohlcpgnebaaDoorRows.lean that lists a variable, with what it lists TIED to the program's text (the seventh form; the later family's looks); each row that meets fmt, with fmt's text TOLD by the authors' own Lean function (tested against real Go, not proved from fmt's source: count such statements apart). THE CARD IS WHAT COUNTS. Prove the row's statement (the work); the ties are given (YtaobohlcpgnebaaDoorTie.lean); close each card by the builder's one call (the guide's Derived/Test/ToyasCard.lean, 'card_holds'). Laid BY PROGRAM, IN A SANDBOX (cutbox-door.mjs). By AI agents, Wed Nov 11 2026. No macro, syntax, notation, axiom, sorry.
-/
import Derived.Test.YtaobohlcpgnebaaDoorRows
import GoSem.ClaimSeven
namespace Go.Proofs.YtaobohlcpgnebaaDoor
namespace Rows

/-- THE TIED CARD OF 'foolscaplaw23.KeysBack'. -/
def keysBackCard : Claim7 := { stood := { row := keysBackRow, standIns := [], harness := (true, "444262847b6887dd350eeebeedf0bc7bf89c130fb16078fee7a047ef7aedc803"), looks := false }, kinds := [], alts := [], laidByText := true, laidKinds := [.data, .data, .data], laidTests := true, laidLooks := .later }
def KeysBackCardSaid : Prop := Claim7.holds Tryd.pinned (.plain (OpenSpec.ofChange keysBackSpec)) keysBackCard

/-- THE TIED CARD OF 'foolscaplaw23.KeysReads'. -/
def keysReadsCard : Claim7 := { stood := { row := keysReadsRow, standIns := [], harness := (true, "444262847b6887dd350eeebeedf0bc7bf89c130fb16078fee7a047ef7aedc803"), looks := false }, kinds := [], alts := [], laidByText := true, laidKinds := [.data, .data, .data], laidTests := true, laidLooks := .later }
def KeysReadsCardSaid : Prop := Claim7.holds Tryd.pinned (.plain (OpenSpec.ofChange keysReadsSpec)) keysReadsCard

/-- THE TIED CARD OF 'foolscaplaw23.KeysNames'. -/
def keysNamesCard : Claim7 := { stood := { row := keysNamesRow, standIns := [], harness := (true, "444262847b6887dd350eeebeedf0bc7bf89c130fb16078fee7a047ef7aedc803"), looks := false }, kinds := [], alts := [], laidByText := true, laidKinds := [.data, .data, .data], laidTests := true, laidLooks := .later }
def KeysNamesCardSaid : Prop := Claim7.holds Tryd.pinned (.plain (OpenSpec.ofChange keysNamesSpec)) keysNamesCard

/-- THE TIED CARD OF 'foolscaplaw23.KeysJoins'. -/
def keysJoinsCard : Claim7 := { stood := { row := keysJoinsRow, standIns := [], harness := (true, "444262847b6887dd350eeebeedf0bc7bf89c130fb16078fee7a047ef7aedc803"), looks := false }, kinds := [], alts := [], laidByText := true, laidKinds := [.data, .data, .data], laidTests := true, laidLooks := .later }
def KeysJoinsCardSaid : Prop := Claim7.holds Tryd.pinned (.plain (OpenSpec.ofChange keysJoinsSpec)) keysJoinsCard

/-- THE TIED CARD OF 'foolscaplaw33.MacroEnds'. -/
def macroEndsCard : Claim7 := { stood := { row := macroEndsRow, standIns := [], harness := (true, "444262847b6887dd350eeebeedf0bc7bf89c130fb16078fee7a047ef7aedc803"), looks := false }, kinds := [], alts := [], laidByText := true, laidKinds := [.data, .pinned], laidTests := true, laidLooks := .later }
def MacroEndsCardSaid : Prop := Claim7.holds Tryd.pinned (.plain (OpenSpec.ofChange macroEndsSpec)) macroEndsCard

/-- THE TIED CARD OF 'foolscaplaw33.MacroKeys'. -/
def macroKeysCard : Claim7 := { stood := { row := macroKeysRow, standIns := [], harness := (true, "444262847b6887dd350eeebeedf0bc7bf89c130fb16078fee7a047ef7aedc803"), looks := false }, kinds := [], alts := [], laidByText := true, laidKinds := [.data, .pinned], laidTests := true, laidLooks := .later }
def MacroKeysCardSaid : Prop := Claim7.holds Tryd.pinned (.plain (OpenSpec.ofChange macroKeysSpec)) macroKeysCard

/-- THE TIED CARD OF 'foolscaplaw33.MacroDepth'. -/
def macroDepthCard : Claim7 := { stood := { row := macroDepthRow, standIns := [], harness := (true, "444262847b6887dd350eeebeedf0bc7bf89c130fb16078fee7a047ef7aedc803"), looks := false }, kinds := [], alts := [], laidByText := true, laidKinds := [.data, .pinned], laidTests := true, laidLooks := .later }
def MacroDepthCardSaid : Prop := Claim7.holds Tryd.pinned (.plain (OpenSpec.ofChange macroDepthSpec)) macroDepthCard

/-- THE TIED CARD OF 'foolscaplaw33.MacroPlays'. -/
def macroPlaysCard : Claim7 := { stood := { row := macroPlaysRow, standIns := [], harness := (true, "444262847b6887dd350eeebeedf0bc7bf89c130fb16078fee7a047ef7aedc803"), looks := false }, kinds := [], alts := [], laidByText := true, laidKinds := [.data, .pinned], laidTests := true, laidLooks := .later }
def MacroPlaysCardSaid : Prop := Claim7.holds Tryd.pinned (.plain (OpenSpec.ofChange macroPlaysSpec)) macroPlaysCard

/-- THE TIED CARD OF 'foolscaplaw33.MacroRefuel'. -/
def macroRefuelCard : Claim7 := { stood := { row := macroRefuelRow, standIns := [], harness := (true, "444262847b6887dd350eeebeedf0bc7bf89c130fb16078fee7a047ef7aedc803"), looks := false }, kinds := [], alts := [], laidByText := true, laidKinds := [.data, .pinned], laidTests := true, laidLooks := .later }
def MacroRefuelCardSaid : Prop := Claim7.holds Tryd.pinned (.plain (OpenSpec.ofChange macroRefuelSpec)) macroRefuelCard

/-- THE SECOND FORM's CARD OF 'foolscaplaw23.KeysBack'. -/
def keysBackUptoCard : Claim7 := { stood := { row := keysBackUptoRow, standIns := [], harness := (true, "444262847b6887dd350eeebeedf0bc7bf89c130fb16078fee7a047ef7aedc803"), looks := false }, kinds := [], alts := [], laidByText := true, laidKinds := [.data, .data, .data], laidTests := true, laidLooks := .later }
def KeysBackUptoCardSaid : Prop := Claim7.holds Tryd.pinned (.plain (OpenSpec.upto keysBackSpec)) keysBackUptoCard

/-- THE SECOND FORM's CARD OF 'foolscaplaw23.KeysReads'. -/
def keysReadsUptoCard : Claim7 := { stood := { row := keysReadsUptoRow, standIns := [], harness := (true, "444262847b6887dd350eeebeedf0bc7bf89c130fb16078fee7a047ef7aedc803"), looks := false }, kinds := [], alts := [], laidByText := true, laidKinds := [.data, .data, .data], laidTests := true, laidLooks := .later }
def KeysReadsUptoCardSaid : Prop := Claim7.holds Tryd.pinned (.plain (OpenSpec.upto keysReadsSpec)) keysReadsUptoCard

/-- THE SECOND FORM's CARD OF 'foolscaplaw23.KeysNames'. -/
def keysNamesUptoCard : Claim7 := { stood := { row := keysNamesUptoRow, standIns := [], harness := (true, "444262847b6887dd350eeebeedf0bc7bf89c130fb16078fee7a047ef7aedc803"), looks := false }, kinds := [], alts := [], laidByText := true, laidKinds := [.data, .data, .data], laidTests := true, laidLooks := .later }
def KeysNamesUptoCardSaid : Prop := Claim7.holds Tryd.pinned (.plain (OpenSpec.upto keysNamesSpec)) keysNamesUptoCard

/-- THE SECOND FORM's CARD OF 'foolscaplaw23.KeysJoins'. -/
def keysJoinsUptoCard : Claim7 := { stood := { row := keysJoinsUptoRow, standIns := [], harness := (true, "444262847b6887dd350eeebeedf0bc7bf89c130fb16078fee7a047ef7aedc803"), looks := false }, kinds := [], alts := [], laidByText := true, laidKinds := [.data, .data, .data], laidTests := true, laidLooks := .later }
def KeysJoinsUptoCardSaid : Prop := Claim7.holds Tryd.pinned (.plain (OpenSpec.upto keysJoinsSpec)) keysJoinsUptoCard

/-- THE SECOND FORM's CARD OF 'foolscaplaw33.MacroEnds'. -/
def macroEndsUptoCard : Claim7 := { stood := { row := macroEndsUptoRow, standIns := [], harness := (true, "444262847b6887dd350eeebeedf0bc7bf89c130fb16078fee7a047ef7aedc803"), looks := false }, kinds := [], alts := [], laidByText := true, laidKinds := [.data, .pinned], laidTests := true, laidLooks := .later }
def MacroEndsUptoCardSaid : Prop := Claim7.holds Tryd.pinned (.plain (OpenSpec.upto macroEndsSpec)) macroEndsUptoCard

/-- THE SECOND FORM's CARD OF 'foolscaplaw33.MacroKeys'. -/
def macroKeysUptoCard : Claim7 := { stood := { row := macroKeysUptoRow, standIns := [], harness := (true, "444262847b6887dd350eeebeedf0bc7bf89c130fb16078fee7a047ef7aedc803"), looks := false }, kinds := [], alts := [], laidByText := true, laidKinds := [.data, .pinned], laidTests := true, laidLooks := .later }
def MacroKeysUptoCardSaid : Prop := Claim7.holds Tryd.pinned (.plain (OpenSpec.upto macroKeysSpec)) macroKeysUptoCard

/-- THE SECOND FORM's CARD OF 'foolscaplaw33.MacroDepth'. -/
def macroDepthUptoCard : Claim7 := { stood := { row := macroDepthUptoRow, standIns := [], harness := (true, "444262847b6887dd350eeebeedf0bc7bf89c130fb16078fee7a047ef7aedc803"), looks := false }, kinds := [], alts := [], laidByText := true, laidKinds := [.data, .pinned], laidTests := true, laidLooks := .later }
def MacroDepthUptoCardSaid : Prop := Claim7.holds Tryd.pinned (.plain (OpenSpec.upto macroDepthSpec)) macroDepthUptoCard

/-- THE SECOND FORM's CARD OF 'foolscaplaw33.MacroPlays'. -/
def macroPlaysUptoCard : Claim7 := { stood := { row := macroPlaysUptoRow, standIns := [], harness := (true, "444262847b6887dd350eeebeedf0bc7bf89c130fb16078fee7a047ef7aedc803"), looks := false }, kinds := [], alts := [], laidByText := true, laidKinds := [.data, .pinned], laidTests := true, laidLooks := .later }
def MacroPlaysUptoCardSaid : Prop := Claim7.holds Tryd.pinned (.plain (OpenSpec.upto macroPlaysSpec)) macroPlaysUptoCard

/-- THE SECOND FORM's CARD OF 'foolscaplaw33.MacroRefuel'. -/
def macroRefuelUptoCard : Claim7 := { stood := { row := macroRefuelUptoRow, standIns := [], harness := (true, "444262847b6887dd350eeebeedf0bc7bf89c130fb16078fee7a047ef7aedc803"), looks := false }, kinds := [], alts := [], laidByText := true, laidKinds := [.data, .pinned], laidTests := true, laidLooks := .later }
def MacroRefuelUptoCardSaid : Prop := Claim7.holds Tryd.pinned (.plain (OpenSpec.upto macroRefuelSpec)) macroRefuelUptoCard
end Rows
end Go.Proofs.YtaobohlcpgnebaaDoor
