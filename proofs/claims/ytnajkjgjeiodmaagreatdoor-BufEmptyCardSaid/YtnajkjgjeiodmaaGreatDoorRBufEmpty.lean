/- foolscaplaw4.BufEmpty returns true at every arguments, and changes nothing; its card, tied to the program's text. Conditions: none beyond the given statement. -/
import Derived.Test.YtnajkjgjeiodmaaGreatDoorCards
import Derived.Test.YtnajkjgjeiodmaaGreatDoorTie
import Derived.Test.YtnajkjgjeiodmaaGreatDoorLdz
import Derived.Test.YtnajkjgjeiodmaaGreatDoorBe
import Derived.Test.YtnajkjgjeiodmaaGreatDoorLdM
namespace Go.Proofs.YtnajkjgjeiodmaaGreatDoor.bufEmpty
open Go.ChangeShapes Go.WideShapes Go.ChangeAt Go.RowKit
open Go.ChangeMaps (open_string shut_string)
open Go.Proofs (Tryz.prog)

set_option maxRecDepth 100000 in
theorem lifted (os : Os) (started : os.Started) (H : Type) (enc : TypeId × Value → H) :
    ReturnsInHanded {} Tryz.checked os 7 .any (fun w args => (Rows.bufEmptySpec.pre enc Tryz.prog Tryz.f7 [] false w args ∧ laidMetH Tryz.prog laidM w) ∧ sizedMet enc Tryz.prog Tryz.f7 (OpenSpec.ofChange Rows.bufEmptySpec) false w args)
      (Rows.bufEmptySpec.post enc Tryz.prog Tryz.f7 false true false false) := by
  refine returnsInHanded_and_shaped (C := Tryz.checked) (X := fun w _ => laidMetH Tryz.prog laidM w) (fun _ _ _ hh h => h.of_heap hh) own started (by kernel_rfl) Tryz.func7
    (ChangeSpec.witness_shaped (enc := enc) (C := Tryz.checked) (os := os) (X := fun w _ => laidMetH Tryz.prog laidM w) false (World.laidAll Tryz.prog os laidM) #[.slice none 0 0, .int .u8 0, .int .u8 0] 8 (World.laidAll_os _ _ _) (World.shaped_of_ZipB (by kernel_rfl) (by kernel_rfl)) (by kernel_rfl) (by kernel_rfl) (by kernel_rfl) (met_laidM os _)) ?_
  intro W base args ds gs before hval0 hW _ hsz0 hL hShp
  have hsz : (DataW.weightsEach Tryz.prog (Tryz.f7.params.toList ++ Rows.bufEmptySpec.plain.varTypes Tryz.prog) (ds ++ gs)).all (· ≤ reachBytes) = true := hsz0
  have hval : ∀ (j : Nat) t v, Tryz.f7.params[j]? = some t → args[j]? = some v → Value.okWide Tryz.prog W .any base t v := hval0
  have hW' := hW
  obtain ⟨p, q, hA0, hV, rfl, hfz, hnd⟩ := hW
  have hA : DataW.TrodAll enc Tryz.prog W 0 (fun _ => true) true Tryz.f7.params.toList args.toList ds p := hA0
  rw [Tryz.params7] at hA hval hsz
  obtain ⟨v0, vs0, d0, ds0, p0, q0, hargs, rfl, rfl, h0, r0⟩ := trodAll_cons hA
  obtain ⟨v1, vs1, d1, ds1, p1, q1, rfl, rfl, rfl, h1, r1⟩ := trodAll_cons r0
  obtain ⟨v2, vs2, d2, ds2, p2, q2, rfl, rfl, rfl, h2, r2⟩ := trodAll_cons r1
  obtain ⟨rfl, rfl, rfl⟩ := trodAll_nil r2
  obtain rfl : args = #[v0, v1, v2] := by cases args; simp_all
  obtain ⟨rfl, rfl⟩ := trodVars_none hV
  obtain ⟨a0, len0, cap0, rfl⟩ := okWide_slice Tryz.underlying22 (hval 0 22 v0 rfl rfl)
  obtain ⟨fuel0, hf0⟩ := h0
  obtain ⟨l0, x0, y0, t0⟩ := open_rdL (j := 0) hf0 hsz rfl rfl
  obtain ⟨a1, rfl, rfl, rfl, w1⟩ := open_int Tryz.underlying5 (hval 1 5 v1 rfl rfl) h1
  obtain ⟨a2, rfl, rfl, rfl, w2⟩ := open_int Tryz.underlying5 (hval 2 5 v2 rfl rfl) h2
  clear hA0 hval0
  simp only [List.append_nil] at hW'
  obtain ⟨z1, rfl⟩ := Int.eq_ofNat_of_zero_le (wf_u8 w1).1
  have u1 := (wf_u8 w1).2
  obtain ⟨z2, rfl⟩ := Int.eq_ofNat_of_zero_le (wf_u8 w2).1
  have u2 := (wf_u8 w2).2
  refine (Go.Proofs.YtnajkjgjeiodmaaGreatDoor.bufEmpty_walk W (maxLen_of_shaped hShp) _ l0 x0 t0 (by omega) z1 z2 (by omega) (by omega)).mono fun e W' ⟨he, hg⟩ => ?_
  subst he
  exact ⟨_, rfl, law_post (by kernel_rfl : laidOutB Tryz.prog = true) (by kernel_rfl) rfl rfl Tryz.underlying4 hW' rfl hg.below⟩

theorem over : Rows.BufEmptySaid :=
  OpenClaim.holds_of_wide 7 Tryz.f7 rfl rfl rfl rfl rfl rfl rfl ⟨rfl, rfl, rfl, rfl, rfl⟩ rfl rfl rfl rfl rfl (by kernel_rfl) Tryz.func7 (by kernel_rfl)
    (of_decide_eq_true (by kernel_rfl)) (by unfold Func.isWrapper; first | (rw [if_pos (by decide +kernel)]; kernel_rfl) | (rw [if_neg (by decide +kernel)]; exact ⟨rfl, rfl⟩))
    (fun os started H enc _ => lifted os started H enc)

/-- ████ THE STATEMENT ████ -/
theorem proved : Rows.BufEmptyCardSaid :=
  Claim7.holds_tied_plain_at .later [] [.data, .pinned] true (true, "8956ccc1dac3647f98b2783df1f5d8ffebc3d968a6a306e8e8ebfe8e1e40a51d") false
    over (fun _ h => by cases h) (by kernel_rfl) (fun _ h => by cases h) bufEmpty_row_tie rfl ⟨rfl, rfl⟩ (by kernel_rfl) rfl
    (fun f fn hf hfn => by
      obtain rfl : f = 7 := Option.some.inj ((show Tryz.prog.funcNamed "foolscap/foolscaplaw4.BufEmpty" = some 7 by kernel_rfl).symm.trans hf) |>.symm
      obtain rfl : fn = Tryz.f7 := (Option.some.inj (Tryz.func7.symm.trans hfn)).symm
      exact ⟨by kernel_rfl, fun j t ht => by
        rw [Tryz.params7] at ht
        have hm := Array.mem_of_getElem? ht
        have hall : (Tryz.f7.params.toList.all fun u => !Tryz.prog.wantsStandIn u) = true := by kernel_rfl
        rw [Tryz.params7] at hall
        exact (show Tryz.prog.wantsStandIn t = false by simpa using List.all_eq_true.1 hall t (by simpa using hm))⟩)
    (by kernel_rfl)

end Go.Proofs.YtnajkjgjeiodmaaGreatDoor.bufEmpty
