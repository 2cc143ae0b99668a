/-
  WHAT THE ROWS OF THE MACRO LAWS LIST: the witness lays it. Conditions: none.
-/
import Derived.Test.YtnajkjgjeiodmaaGreatDoorRows
import Derived.Test.YtnajkjgjeiodmaaGreatDoorShp
import Derived.Test.YtnajkjgjeiodmaaGreatDoorRow2
import Derived.ProofKit
import Derived.LaidMore
import Derived.OpenShut
import Derived.Lay
import Derived.ChangeSlices
import Derived.SizedLaws
namespace Go.Proofs.YtnajkjgjeiodmaaGreatDoor
open Go.ChangeShapes Go.WideShapes Go.ChangeAt Go.RowKit
open Go.Proofs (Tryz.prog)

/-- What the rows of the macro laws list. -/
noncomputable def laidM : List (String × DataW Unit) := [("unicode/utf8.acceptRanges", Rows.laid_unicode_utf8_acceptRanges), ("unicode/utf8.first", Rows.laid_unicode_utf8_first)]
set_option maxRecDepth 100000 in
theorem met_laidM (os : Os) (args : Array Value) : laidMetH Tryz.prog laidM ((World.laidAll Tryz.prog os laidM).forCall (fun _ _ => 0) ⟨#[], args, []⟩).memory := by
  rw [MakeChecks.laidMetH_plain _ _ _ (by kernel_rfl)]
  exact laidMet_laidAll _ (by kernel_rfl) (by kernel_rfl)

end Go.Proofs.YtnajkjgjeiodmaaGreatDoor
