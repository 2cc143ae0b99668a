/- foolscaplaw2.PiecePlays returns true at every arguments within the reach of the statement, and changes nothing. Conditions: none beyond the given statement. -/
import Derived.Test.YtnajkjgjeiodmaaRows
import Derived.Test.YtnajkjgjeiodmaaPpl
import Derived.Test.YtnajkjgjeiodmaaActs
import Derived.Test.YtnajkjgjeiodmaaRow2
import Derived.WalkKit
import Derived.ProofKit
import Derived.OpenShut
import Derived.ShutString
import Derived.SizedLaws
import Derived.ChangeOld
import Derived.Below
namespace Go.Proofs.Ytnajkjgjeiodmaa.piecePlays
open Go.ChangeShapes Go.WideShapes Go.ChangeAt Go.RowKit
open Go.ChangeMaps (open_string shut_string)

theorem own : ownKnob Try.prog.godebug = none := by kernel_rfl

set_option maxRecDepth 100000 in
theorem lifted (os : Os) (started : os.Started) (H : Type) (enc : TypeId × Value → H) :
    ReturnsInHanded {} Try.checked os 11 .any (Rows.piecePlaysSpec.pre6 enc Try.prog Try.f11 Rows.piecePlaysRow.domain false) (Rows.piecePlaysSpec.post enc Try.prog Try.f11 false true false false) := by
  refine returnsInHanded_of_change_sized (C := Try.checked) own started (by kernel_rfl) Try.func11
    (ChangeSpec.witness6 (enc := enc) (C := Try.checked) false ⟨#[], #[.string ByteArray.empty, .int .i64 0, .slice none 0 0], []⟩ 8 (by kernel_rfl) (by kernel_rfl) (by kernel_rfl) (by kernel_rfl)) ?_
  intro W base args ds gs before hval0 hW hcnd hsz0 _
  have hsz : (DataW.weightsEach Try.prog (Try.f11.params.toList ++ Rows.piecePlaysSpec.plain.varTypes Try.prog) (ds ++ gs)).all (· ≤ reachBytes) = true := hsz0
  have hval : ∀ (j : Nat) t v, Try.f11.params[j]? = some t → args[j]? = some v → Value.okWide Try.prog W .any base t v := hval0
  have hW' := hW
  obtain ⟨p, q, hA0, hV, rfl, hfz, hnd⟩ := hW
  have hA : DataW.TrodAll enc Try.prog W 0 (fun _ => true) true Try.f11.params.toList args.toList ds p := hA0
  rw [Try.params11] at hA hval hsz
  obtain ⟨v0, vs0, d0, ds0, p0, q0, hargs, rfl, rfl, h0, r0⟩ := trodAll_cons hA
  obtain ⟨v1, vs1, d1, ds1, p1, q1, rfl, rfl, rfl, h1, r1⟩ := trodAll_cons r0
  obtain ⟨v2, vs2, d2, ds2, p2, q2, rfl, rfl, rfl, h2, r2⟩ := trodAll_cons r1
  obtain ⟨rfl, rfl, rfl⟩ := trodAll_nil r2
  obtain rfl : args = #[v0, v1, v2] := by cases args; simp_all
  obtain ⟨rfl, rfl⟩ := trodVars_none hV
  obtain ⟨a0, rfl, rfl, rfl, w0⟩ := open_string Try.underlying9 (hval 0 9 v0 rfl rfl) h0
  have z0 : a0.size ≤ 140737488351232 := by
    have := sized_string hsz (j := 0) (t := 9) rfl rfl
    simpa [reachBytes] using this
  obtain ⟨a1, rfl, rfl, rfl, w1⟩ := open_int Try.underlying3 (hval 1 3 v1 rfl rfl) h1
  obtain ⟨a2, len2, cap2, rfl⟩ := okWide_slice Try.underlying62 (hval 2 62 v2 rfl rfl)
  obtain ⟨x2, y2⟩ : len2 ≤ maxLen ∧ ∀ i, i < len2 → ∃ (y : Addr) (v : Nat) (o n : Int) (S : ByteArray), a2 = some y ∧ v ≤ 255 ∧ S.size ≤ maxLen ∧ W.cell? (y.add (i * 4)) = some (.int .u8 v) ∧ W.cell? ⟨(y.add (i * 4)).block, (y.add (i * 4)).off + 1, none⟩ = some (.int .i64 o) ∧
      W.cell? ⟨(y.add (i * 4)).block, (y.add (i * 4)).off + 2, none⟩ = some (.int .i64 n) ∧ W.cell? ⟨(y.add (i * 4)).block, (y.add (i * 4)).off + 3, none⟩ = some (.string S) := by
    obtain ⟨fuel, hf⟩ := h2
    exact open_acts Try.underlying62 Try.underlying63 (by kernel_rfl) rfl rfl rfl rfl (by kernel_rfl) (by kernel_rfl) (by kernel_rfl) (by kernel_rfl) Try.underlying5 Try.underlying3 Try.underlying3 Try.underlying9 hf
  clear hA0 hval0
  simp only [List.append_nil] at hW'
  refine (piecePlays W a0 a1 a2 len2 cap2 z0 (wf_i64 w1).1 (wf_i64 w1).2 x2 y2).mono fun e W' ⟨he, hg⟩ => ?_
  subst he
  exact ⟨_, rfl, law_post (by kernel_rfl : laidOutB Try.prog = true) (by kernel_rfl) rfl rfl Try.underlying4 hW' rfl hg.below⟩

theorem over : Rows.piecePlaysRow.holds Try.pinned (OpenSpec.ofChange Rows.piecePlaysSpec) :=
  OpenClaim.holds_of_wide 11 Try.f11 rfl rfl rfl rfl rfl rfl rfl ⟨rfl, rfl, rfl, rfl, rfl⟩ rfl rfl rfl rfl rfl (by kernel_rfl) Try.func11 (by kernel_rfl)
    (of_decide_eq_true (by kernel_rfl)) (by unfold Func.isWrapper; first | (rw [if_pos (by decide +kernel)]; kernel_rfl) | (rw [if_neg (by decide +kernel)]; exact ⟨rfl, rfl⟩))
    (fun os started H enc _ => lifted os started H enc)

/-- ████ THE STATEMENT ████ -/
theorem proved : Rows.PiecePlaysSaid := over
end Go.Proofs.Ytnajkjgjeiodmaa.piecePlays
