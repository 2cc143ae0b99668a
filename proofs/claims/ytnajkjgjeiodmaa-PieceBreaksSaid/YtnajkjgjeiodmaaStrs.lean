/-
  AN ARGUMENT THAT IS A LIST OF TEXTS, OPENED TO CELLS. Conditions: none of a program.
-/
import Derived.Test.YtnajkjgjeiodmaaRow2
import Derived.SliceStrings
namespace Go.Proofs.Ytnajkjgjeiodmaa
open Go.ChangeShapes Go.WideShapes Go.ChangeAt Go.RowKit

theorem one_of {α : Type} {a b : α} (h : [a] = [b]) : a = b := by cases h; rfl
theorem open_strs {H : Type} {enc : TypeId × Value → H} {P : Program} {w : World} {held : Bool} {t e : TypeId} {fuel : Nat} {a1 : Option Addr} {len1 cap1 : Nat} {x : DataW H × List MemPlace}
    (hT : P.underlying t = some (.slice e)) (hE : P.underlying e = some .string) (hC : P.cellsOf e = 1)
    (h : DataW.trod enc P w 0 (fun _ => true) held fuel t [.slice a1 len1 cap1] = some x) :
    len1 ≤ maxLen ∧ ∀ i, i < len1 → ∃ (y : Addr) (S : ByteArray), a1 = some y ∧ S.size ≤ maxLen ∧ w.cell? (y.add i) = some (.string S) := by
  rcases open_strings hT hE hC h with ⟨hcs, _⟩ | ⟨A, l, c, ss, hcs, _, hlc, hcm, hsl, _, hcell, hs⟩
  · cases one_of hcs
    exact ⟨Nat.zero_le _, fun i hi => by omega⟩
  · cases one_of hcs
    refine ⟨Nat.le_trans hlc hcm, fun i hi => ⟨A, _, rfl, ?_, hcell i ?_⟩⟩
    · have hi2 : i < ss.length := by rw [hsl]; simp; omega
      rw [List.getD_eq_getElem?_getD, List.getElem?_eq_getElem hi2]
      exact hs _ (List.getElem_mem hi2)
    · rw [hsl]; simp; omega

end Go.Proofs.Ytnajkjgjeiodmaa
