/-
  WHAT THE LISTED TABLES GIVE THE WALKS; bytes that came in. Conditions: none.
-/
import Derived.Test.YtaobohlcpgnebaaDoorRows
import Derived.Test.YtaobohlcpgnebaaDoorDg
import Derived.Test.YtaobohlcpgnebaaDoorRow2
import Derived.ProofKit
import Derived.LaidMore
import Derived.OpenShut
import Derived.Lib.LaidTab
import Derived.ChangeSlices
import Derived.SizedLaws
namespace Go.Proofs.YtaobohlcpgnebaaDoor
open Go.ChangeShapes Go.WideShapes Go.ChangeAt Go.RowKit
open Go.Proofs (Tryd.prog)

theorem own : ownKnob Tryd.prog.godebug = none := by kernel_rfl
/-- What the rows of the keys list. -/
def laid3 : List (String × DataW Unit) := [("math/bits.deBruijn32tab", Rows.laid_math_bits_deBruijn32tab), ("math/bits.deBruijn64tab", Rows.laid_math_bits_deBruijn64tab), ("internal/strconv.uint64pow10", Rows.laid_internal_strconv_uint64pow10)]
set_option maxRecDepth 100000 in
theorem door_met3 (os : Os) (args : Array Value) : laidMetH Tryd.prog laid3 ((World.doorLaid Tryd.prog 34 os).forCall (fun _ _ => 0) ⟨#[], args, []⟩).memory :=
  laidMetH_of_parts3 (fuel := 8) (laidMet_of_run' 8 (by kernel_rfl) (by kernel_rfl)) (by kernel_rfl) (by kernel_rfl)

theorem tens_of_laid {W : World} (h : laidMetH Tryd.prog laid3 W) : Tens W := by
  rw [MakeChecks.laidMetH_plain _ _ _ (by kernel_rfl)] at h
  obtain ⟨ps, ⟨_, _, _, _, _, _, _, _, _, _, ⟨_, _, _, _, _, _, _, _, _, _, ⟨g, t, cs, fuel, p, q, hg, ht, hvar, hd, _⟩, _⟩, _⟩, _⟩ := h
  obtain rfl := Option.some.inj ((show Tryd.prog.globalNamed "internal/strconv.uint64pow10" = some 0 by kernel_rfl).symm.trans hg)
  obtain rfl := Option.some.inj ((show (Tryd.prog.globals[0]?).map (·.type) = some 104 by kernel_rfl).symm.trans ht)
  rw [show (Rows.laid_internal_strconv_uint64pow10 : DataW Unit) = Lib.tabData .u64 Lib.pow10Tab by kernel_rfl] at hd
  unfold Tens Lib.TabIs
  rw [hvar, ← Lib.cells_of_tab Tryd.underlying104 Tryd.underlying94 (by kernel_rfl) (by kernel_rfl) hd]

theorem open_bytes {H : Type} {enc : TypeId × Value → H} {base : Nat} {spare : Nat → Bool} {held : Bool} {w : World} {fuel : Nat} {v : Value} {x : DataW H × List MemPlace}
    (h : DataW.trod enc Tryd.prog w base spare held fuel 22 [v] = some x) : ∃ l : List UInt8, l.length ≤ maxLen ∧ RdB w v l ∧ (l = [] ∨ ∃ es sp, x.1 = .slice es sp ∧ es.length = l.length) := by
  rcases open_ints Tryd.underlying22 Tryd.underlying5 (by kernel_rfl) h with ⟨hcs, _⟩ | ⟨a, len, cap, zs, hcs, _, hlc, hcm, hzl, hx, hcell, hwf⟩
  · obtain rfl : v = .slice none 0 0 := by simpa using hcs
    exact ⟨[], by simp [maxLen], .inl ⟨rfl, rfl, rfl⟩, .inl rfl⟩
  · obtain rfl : v = .slice (some a) len cap := by simpa using hcs
    have hlz : len ≤ zs.length := by rw [hzl]; split <;> omega
    have hll : ((zs.take len).map fun z => UInt8.ofNat z.toNat).length = len := by
      rw [List.length_map, List.length_take]
      omega
    refine ⟨(zs.take len).map fun z => UInt8.ofNat z.toNat, by omega, .inr ⟨a, cap, by rw [hll], fun j u hj => ?_⟩, .inr ⟨_, _, congrArg Prod.fst hx, by simp [lits]⟩⟩
    have hj2 : j < len := by
      have := (List.getElem?_eq_some_iff.1 hj).1
      rw [List.length_map, hll] at this
      exact this
    have hjz : j < zs.length := by omega
    rw [hcell j hjz]
    have hz := hwf zs[j] (List.getElem_mem hjz)
    have hb := wf_u8 hz
    simp [hj2, hjz] at hj
    rw [← hj]
    simp [encB, hjz]
    omega

end Go.Proofs.YtaobohlcpgnebaaDoor
