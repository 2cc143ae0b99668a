/- foolscaplaw3.IndexPlaces returns true at every text and place, and changes nothing. Conditions: none beyond the given statement. -/
import Derived.Test.YtnajkjgjeiodmaaRows
import Derived.Test.YtnajkjgjeiodmaaL3places
import Derived.Test.YtnajkjgjeiodmaaRow
import Derived.WalkKit
import Derived.ProofKit
import Derived.OpenShut
import Derived.ShutString
import Derived.Lib.SmallJoins
namespace Go.Proofs.Ytnajkjgjeiodmaa.indexPlaces
open Go.ChangeShapes Go.WideShapes Go.ChangeAt Go.RowKit
open Go.ChangeMaps (open_string shut_string)

theorem wf_wrap {a : Int} (h : (Lit.int .i64 a).wf = true) : IntKind.i64.wrap a = a := by
  have h2 : IntKind.i64.min ≤ a ∧ a ≤ 9223372036854775807 := by simpa [Lit.wf] using h
  have e : IntKind.i64.min = -9223372036854775808 := by decide
  rw [e] at h2
  rw [IntKind.wrap_i64]
  omega

theorem own : ownKnob Try.prog.godebug = none := by kernel_rfl

set_option maxRecDepth 100000 in
theorem lifted (os : Os) (started : os.Started) (H : Type) (enc : TypeId × Value → H) :
    ReturnsInHanded {} Try.checked os 3 .any (Rows.indexPlacesSpec.pre6 enc Try.prog Try.f3 Rows.indexPlacesRow.domain false) (Rows.indexPlacesSpec.post enc Try.prog Try.f3 false true false false) := by
  refine returnsInHanded_of_change (C := Try.checked) own started (by kernel_rfl) Try.func3
    (ChangeSpec.witness6 (enc := enc) (C := Try.checked) false ⟨#[], #[.string ByteArray.empty, .int .i64 0, .agg #[.int .i64 0, .int .i64 0], .int .i64 0], []⟩ 8 (by kernel_rfl) (by kernel_rfl) (by kernel_rfl) (by kernel_rfl)) ?_
  intro W base args ds gs before hval0 hW hcnd _
  have hval : ∀ (j : Nat) t v, Try.f3.params[j]? = some t → args[j]? = some v → Value.okWide Try.prog W .any base t v := hval0
  have hW' := hW
  obtain ⟨p, q, hA0, hV, rfl, hfz, hnd⟩ := hW
  have hA : DataW.TrodAll enc Try.prog W 0 (fun _ => true) true Try.f3.params.toList args.toList ds p := hA0
  rw [Try.params3] at hA hval
  obtain ⟨v0, vs0, d0, ds0, p0, q0, hargs, rfl, rfl, h0, r0⟩ := trodAll_cons hA
  obtain ⟨v1, vs1, d1, ds1, p1, q1, rfl, rfl, rfl, h1, r1⟩ := trodAll_cons r0
  obtain ⟨v2, vs2, d2, ds2, p2, q2, rfl, rfl, rfl, h2, r2⟩ := trodAll_cons r1
  obtain ⟨v3, vs3, d3, ds3, p3, q3, rfl, rfl, rfl, h3, r3⟩ := trodAll_cons r2
  obtain ⟨rfl, rfl, rfl⟩ := trodAll_nil r3
  obtain rfl : args = #[v0, v1, v2, v3] := by cases args; simp_all
  obtain ⟨rfl, rfl⟩ := trodVars_none hV
  obtain ⟨a0, rfl, rfl, rfl, w0⟩ := open_string Try.underlying9 (hval 0 9 v0 rfl rfl) h0
  obtain ⟨a1, rfl, rfl, rfl, w1⟩ := open_int Try.underlying3 (hval 1 3 v1 rfl rfl) h1
  obtain ⟨c0, c1, y0, y1, n, rfl, rfl, rfl, k0, k1⟩ := Go.Joins.open_agg2 Try.underlying23 (by kernel_rfl) (by kernel_rfl) (hval 2 23 v2 rfl rfl) h2
  obtain ⟨b0, hb0, _, w2⟩ := DataW.trod_int Try.underlying3 k0
  obtain ⟨b1, hb1, _, w4⟩ := DataW.trod_int Try.underlying3 k1
  cases hb0
  cases hb1
  obtain ⟨a3, rfl, rfl, rfl, w3⟩ := open_int Try.underlying3 (hval 3 3 v3 rfl rfl) h3
  have u1 : IntKind.i64.wrap a1 = a1 := wf_wrap w1
  have u2 : IntKind.i64.wrap b0 = b0 := wf_wrap w2
  have u3 : IntKind.i64.wrap b1 = b1 := wf_wrap w4
  have u4 : IntKind.i64.wrap a3 = a3 := wf_wrap w3
  clear hA0 hval0
  simp only [List.append_nil] at hW'
  refine (indexPlaces W a0 a1 b0 b1 a3 w0 u1 u2 u3 u4).mono fun e W' ⟨he, hg⟩ => ?_
  subst he
  exact ⟨_, rfl, law_post (by kernel_rfl : laidOutB Try.prog = true) (by kernel_rfl) rfl rfl Try.underlying4 hW' rfl hg.below⟩

theorem over : Rows.indexPlacesRow.holds Try.pinned (OpenSpec.ofChange Rows.indexPlacesSpec) :=
  OpenClaim.holds_of_wide 3 Try.f3 rfl rfl rfl rfl rfl rfl rfl ⟨rfl, rfl, rfl, rfl, rfl⟩ rfl rfl rfl rfl rfl (by kernel_rfl) Try.func3 (by kernel_rfl)
    (of_decide_eq_true (by kernel_rfl)) (by unfold Func.isWrapper; first | (rw [if_pos (by decide +kernel)]; kernel_rfl) | (rw [if_neg (by decide +kernel)]; exact ⟨rfl, rfl⟩))
    (fun os started H enc _ => lifted os started H enc)

/-- ████ THE STATEMENT ████ -/
theorem proved : Rows.IndexPlacesSaid :=
  over
end Go.Proofs.Ytnajkjgjeiodmaa.indexPlaces
