/- foolscaplaw33.MacroKeys returns true at every arguments of bulk at most 1048576, and changes nothing; its card, tied to the program's text. Conditions: none beyond the given statement. -/
import Derived.Test.YtaobohlcpgnebaaDoorCards
import Derived.Test.YtaobohlcpgnebaaDoorTie
import Derived.Test.YtaobohlcpgnebaaDoorLdU
import Derived.Test.YtaobohlcpgnebaaDoorMks
namespace Go.Proofs.YtaobohlcpgnebaaDoor.macroKeysUpto
open Go.ChangeShapes Go.WideShapes Go.ChangeAt Go.RowKit
open Go.Proofs (Tryd.prog)

theorem one_of2 {a b : Value} (h : [a] = [b]) : a = b := by cases h; rfl
/-- A world for the witness: what the row lists is laid in it. -/
noncomputable def laidWorld (os : Os) : World := World.laidAll Tryd.prog os laidM
set_option maxRecDepth 100000 in
theorem laid_met (os : Os) (args : Array Value) : laidMet Tryd.prog Rows.macroKeysUptoRow.laid ((laidWorld os).forCall (fun _ _ => 0) ⟨#[], args, []⟩).memory :=
  laidMet_laidAll _ (by kernel_rfl) (by kernel_rfl)
theorem reads (os : Os) {H : Type} (enc : TypeId × Value → H) : ∃ places, DataW.whole enc Tryd.prog ((laidWorld os).forCall (fun _ _ => 0) ⟨#[], #[.agg #[.int .i64 0, .slice none 0 0], .slice none 0 0], []⟩).memory Tryd.f8.params.toList Rows.macroKeysSpec.vars false #[Value.agg #[.int .i64 0, .slice none 0 0], .slice none 0 0].toList 8 = some ([.agg [.lit (.int .i64 0), .nil], .nil], [], places) :=
  ⟨[], by kernel_rfl⟩

set_option maxRecDepth 100000 in
theorem liftedUpto (os : Os) (started : os.Started) (H : Type) (enc : TypeId × Value → H) (F : Stop.Interp) :
    ReturnsInHanded {} Tryd.checked os 8 .any ((Rows.OpenSpec.upto Rows.macroKeysSpec).preRow enc Tryd.prog Tryd.f8 Rows.macroKeysUptoRow.domain false Rows.macroKeysUptoRow.laid) (((Rows.OpenSpec.upto Rows.macroKeysSpec).at F).post enc Tryd.prog Tryd.f8 false true false false) := by
  obtain ⟨places, hx⟩ := reads os enc
  refine returnsInHanded_of_row (C := Tryd.checked) (s := Rows.OpenSpec.upto Rows.macroKeysSpec) own started (by kernel_rfl) Tryd.func8
    (witness_row_at (enc := enc) (C := Tryd.checked) false (laidWorld os) #[.agg #[.int .i64 0, .slice none 0 0], .slice none 0 0] (World.laidAll_os _ _ _) (by kernel_rfl) (by kernel_rfl) (by kernel_rfl)
      (OpenSpec.preRow_of_cond 8 hx (by kernel_rfl) (fun k hk => by cases hk; kernel_rfl) (by kernel_rfl) (laid_met os _))) ?_
  intro W base args ds gs before hval0 hW _ hcond _ hL hShp _
  have hval : ∀ (j : Nat) t v, Tryd.f8.params[j]? = some t → args[j]? = some v → Value.okWide Tryd.prog W .any base t v := hval0
  have hW' := hW
  obtain ⟨p, q, hA0, hV, rfl, hfz, hnd⟩ := hW
  have hA : DataW.TrodAll enc Tryd.prog W 0 (fun _ => true) true Tryd.f8.params.toList args.toList ds p := hA0
  rw [Tryd.params8] at hA hval
  obtain ⟨v0, vs0, d0, ds0, p0, q0, hargs, rfl, rfl, h0, r0⟩ := trodAll_cons hA
  obtain ⟨v1, vs1, d1, ds1, p1, q1, rfl, rfl, rfl, h1, r1⟩ := trodAll_cons r0
  obtain ⟨rfl, rfl, rfl⟩ := trodAll_nil r1
  obtain rfl : args = #[v0, v1] := by cases args; simp_all
  obtain ⟨rfl, rfl⟩ := trodVars_none hV
  have hk : Rows.uptoSmall H ([d0, d1] ++ []) = true := hcond _ rfl
  have hbulk : Rows.uptoBulkAll ([d0, d1] ++ []) ≤ 1048576 := of_decide_eq_true hk
  simp only [List.append_nil, Rows.uptoBulkAll] at hbulk
  obtain ⟨kd, v, xs, rfl, w0, x0, y0, z0⟩ := open_reg (hval 0 _ v0 rfl rfl) h0
  obtain ⟨a1, len1, cap1, rfl⟩ := okWide_slice Tryd.underlying22 (hval 1 22 v1 rfl rfl)
  obtain ⟨K, ka, kc, hva, hkc, hkm, hkr⟩ : ∃ (l : List UInt8) (a : Option Addr) (c : Nat), Value.slice a1 len1 cap1 = .slice a l.length c ∧ l.length ≤ c ∧ l.length ≤ maxLen ∧ RdB W (.slice a1 len1 cap1) l := by
    obtain ⟨fuel, hf⟩ := h1
    exact open_bytes_c hf
  obtain ⟨rfl, rfl, rfl⟩ : a1 = ka ∧ len1 = K.length ∧ cap1 = kc := by simpa using hva
  have hkl : K.length ≤ 140737488355328 := by
    obtain ⟨fuel, hf⟩ := h1
    rcases open_ints Tryd.underlying22 Tryd.underlying5 (by kernel_rfl) hf with ⟨hcs, _⟩ | ⟨a, len, cap, zs, hcs, _, hlc, hcm, hzl, hx1, _⟩
    · obtain ⟨-, e, -⟩ : a1 = none ∧ K.length = 0 ∧ cap1 = 0 := by
        have := one_of2 hcs
        simpa using this
      omega
    · obtain ⟨-, e, -⟩ : a1 = some a ∧ K.length = len ∧ cap1 = cap := by
        have := one_of2 hcs
        simpa using this
      have hll : len ≤ zs.length := by rw [hzl]; split <;> omega
      have hle : ∀ l : List (DataW H), l.length ≤ Rows.uptoBulkAll l := fun l => by
        induction l with
        | nil => simp [Rows.uptoBulkAll]
        | cons x r ih =>
          have : 1 ≤ Rows.uptoBulk x := by
            cases x with
            | lit l => cases l <;> simp [Rows.uptoBulk]
            | nil => simp [Rows.uptoBulk]
            | ptr d => simp [Rows.uptoBulk]
            | slice elems spare => simp [Rows.uptoBulk]
            | agg parts => simp [Rows.uptoBulk]
            | iface t d => simp [Rows.uptoBulk]
            | map entries => simp [Rows.uptoBulk]
            | held h => simp [Rows.uptoBulk]
          simp only [Rows.uptoBulkAll, List.length_cons]
          omega
      have h2 := hle (lits .u8 (zs.take len))
      have h3 : (lits (H := H) .u8 (zs.take len)).length = len := by simp [lits, List.length_take]; omega
      have h4 : d1 = .slice (lits .u8 (zs.take len)) (lits .u8 (zs.drop len)) := congrArg Prod.fst hx1
      rw [h4] at hbulk
      simp only [Rows.uptoBulk] at hbulk
      omega
  clear hA0 hval0
  simp only [List.append_nil] at hW'
  have hxl : xs.length ≤ 9223372036854775807 := by
    unfold maxLen at y0
    omega
  refine (Go.Proofs.YtaobohlcpgnebaaDoor.macroKeys W kd v xs a1 cap1 K (wf_i64 w0).1 (wf_i64 w0).2 x0 hxl (by omega) hkr hkc hkl (maxLen_of_shaped hShp)).mono fun e W' ⟨he, hg⟩ => ?_
  subst he
  exact ⟨_, rfl, law_post (by kernel_rfl : laidOutB Tryd.prog = true) (by kernel_rfl) rfl rfl Tryd.underlying4 hW' rfl hg.below⟩

theorem saidUpto : Rows.MacroKeysUptoSaid :=
  OpenClaim.holds_of_cond 8 Tryd.f8 rfl rfl rfl rfl rfl rfl rfl ⟨rfl, rfl, rfl, rfl, rfl⟩ rfl rfl rfl rfl rfl (by kernel_rfl) Tryd.func8 (by kernel_rfl)
    (of_decide_eq_true (by kernel_rfl)) (by unfold Func.isWrapper; first | (rw [if_pos (by decide +kernel)]; kernel_rfl) | (rw [if_neg (by decide +kernel)]; exact ⟨rfl, rfl⟩))
    (fun os started H enc _ F => by rw [OpenClaim.pre_eq_preRow]; exact liftedUpto os started H enc F)

/-- No parameter wants a stand-in; the program's own looks are off: what the card asks. -/
theorem plain (f : FuncId) (fn : Func) (hf : Tryd.pinned.checked.prog.funcNamed "foolscap/foolscaplaw33.MacroKeys" = some f) (hfn : Tryd.pinned.checked.prog.funcs[f]? = some fn) :
    false = Tryd.pinned.checked.prog.looks [] ∧ ∀ (j : Nat) t, fn.params[j]? = some t → Tryd.pinned.checked.prog.wantsStandIn t = false := by
  obtain rfl : f = 8 := Option.some.inj ((show Tryd.prog.funcNamed "foolscap/foolscaplaw33.MacroKeys" = some 8 by kernel_rfl).symm.trans hf) |>.symm
  obtain rfl : fn = Tryd.f8 := (Option.some.inj (Tryd.func8.symm.trans hfn)).symm
  refine ⟨by kernel_rfl, fun j t ht => ?_⟩
  rw [Tryd.params8] at ht
  have hm := Array.mem_of_getElem? ht
  have hall : (Tryd.f8.params.toList.all fun u => !Tryd.prog.wantsStandIn u) = true := by kernel_rfl
  rw [Tryd.params8] at hall
  exact (show Tryd.prog.wantsStandIn t = false by simpa using List.all_eq_true.1 hall t (by simpa using hm))

/-- ████ THE STATEMENT ████ -/
theorem proved : Rows.MacroKeysUptoCardSaid :=
  Claim7.holds_tied_plain_at .later [] _ _ _ _ saidUpto (fun _ h => by cases h) (by kernel_rfl) (fun _ h => by cases h) macroKeysUpto_row_tie rfl ⟨rfl, rfl⟩ (by kernel_rfl) rfl plain (by kernel_rfl)

end Go.Proofs.YtaobohlcpgnebaaDoor.macroKeysUpto
