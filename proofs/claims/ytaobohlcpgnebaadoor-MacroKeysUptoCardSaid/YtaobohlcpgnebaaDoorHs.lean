/-
  foolscaphelp.Strings AND Reg, AT EQUAL LISTS: true. Conditions: none.
-/
import Derived.Test.YtaobohlcpgnebaaDoorMk
namespace Go.Proofs.YtaobohlcpgnebaaDoor
open Go.RowKit
open Go.Proofs (Tryd.prog)

theorem RdS.form {w : World} {v : Value} {xs : List ByteArray} (h : RdS w v xs) : ∃ a c, v = .slice a xs.length c := by
  rcases h with ⟨a, c, rfl, rfl⟩ | ⟨b, o, c, rfl, _⟩
  · exact ⟨a, c, rfl⟩
  · exact ⟨_, _, rfl⟩
theorem RdS.lt {w : World} {v : Value} {xs : List ByteArray} (h : RdS w v xs) : ∀ b, v.ownBlock = some b → 0 < xs.length → b < w.heap.size := by
  rcases h with ⟨a, c, rfl, rfl⟩ | ⟨b, o, c, rfl, _, h, _⟩
  · intro b hb h0; simp at h0
  · intro b2 hb _
    obtain rfl : b = b2 := by simpa [Value.ownBlock] using hb
    exact h
theorem RdS.at {w : World} {v : Value} {xs : List ByteArray} (h : RdS w v xs) {k : Nat} {s : ByteArray} (hs : xs[k]? = some s) : ∃ b o c, v = .slice (some ⟨b, o, none⟩) xs.length c ∧ w.cell? ⟨b, o + k, none⟩ = some (.string s) := by
  rcases h with ⟨a, c, rfl, rfl⟩ | ⟨b, o, c, rfl, _, _, hc⟩
  · simp at hs
  · exact ⟨b, o, c, rfl, hc k s hs⟩

set_option maxRecDepth 100000 in
set_option maxHeartbeats 1600000 in
theorem hlpStrings (w : World) (v u : Value) (xs : List ByteArray) (hv : RdS w v xs) (hu : RdS w u xs) (hl : xs.length ≤ 140737488355328) :
    Calls Tryd.prog 48 #[v, u] w fun e w' => e = .returned (.bool true) ∧ Frm [] w w' := by
  obtain ⟨va, vc, rfl⟩ := hv.form
  obtain ⟨ua, uc, rfl⟩ := hu.form
  have HV := Lib.hid hv
  have HU := Lib.hid hu
  clear hv hu
  generalize hn : xs.length = n at *
  have HN := Lib.hid hn
  clear hn
  go_enter Tryd.func48, Tryd.ntmps48
  go_wp2_with fail
  go_loopw [5] (fun i wr => ∃ k : Nat, k ≤ n ∧ i = .int .i64 (k : Int) ∧ Frm [] w wr) (fun i _ => n - (intOf i).toNat)
  case atStart => exact ⟨0, by omega, rfl, Frm.refl _ _⟩
  case round =>
    obtain ⟨k, hk, rfl, hf⟩ := hrel
    have HF := Lib.hid hf
    by_cases hlt : k < n
    · obtain ⟨s, hs⟩ : ∃ s, xs[k]? = some s := ⟨xs[k]'(by rw [HN.out]; exact hlt), List.getElem?_eq_getElem _⟩
      have h1 := (HV.out.frm hf)
      have h2 := (HU.out.frm hf)
      rw [← HN.out] at h1 h2
      obtain ⟨b1, o1, c1, e1, k1⟩ := h1.at hs
      obtain ⟨b2, o2, c2, e2, k2⟩ := h2.at hs
      obtain ⟨rfl, -, rfl⟩ : va = some ⟨b1, o1, none⟩ ∧ True ∧ vc = c1 := by simpa using e1
      obtain ⟨rfl, -, rfl⟩ : ua = some ⟨b2, o2, none⟩ ∧ True ∧ uc = c2 := by simpa using e2
      clear h1 h2 e1 e2 hf hs
      go_wp2_with fail
      go_quiet (fail)
      go_wp2_with fail
      go_roundw
      case rel => exact ⟨k + 1, by omega, by go_num, HF.out.drewN _⟩
      case measure => simp [intOf]; omega
    · clear hf
      go_wp2_with fail
      go_ret
      exact ⟨rfl, HF.out⟩

set_option maxRecDepth 100000 in
set_option maxHeartbeats 1600000 in
theorem hlpReg (w : World) (n : Int) (v u : Value) (xs : List ByteArray) (hv : RdS w v xs) (hu : RdS w u xs) (hl : xs.length ≤ 140737488355328) :
    Calls Tryd.prog 30 #[.agg #[.int .i64 n, v], .agg #[.int .i64 n, u]] w fun e w' => e = .returned (.bool true) ∧ Frm [] w w' := by
  obtain ⟨va, vc, rfl⟩ := hv.form
  obtain ⟨ua, uc, rfl⟩ := hu.form
  have hf : ∀ o o' : Obj, Frm [] w ((w.alloc o).alloc o') := fun o o' => ((Frm.refl _ _).alloc o).alloc o'
  have hst := fun o o' => hlpStrings _ _ _ xs (hv.frm (hf o o')) (hu.frm (hf o o')) hl
  have HF := Lib.hid hf
  clear hf hv hu
  generalize hn : xs.length = m at *
  clear hn
  go_enter Tryd.func30, Tryd.ntmps30
  go_wp2_with fail
  refine (hst _ _).mono ?_
  rintro e w1 ⟨rfl, hf1⟩
  have HF1 := Lib.hid ((HF.out _ _).trans hf1 (by simp))
  clear hf1 hst
  go_wp2_with fail
  go_ret
  exact ⟨rfl, HF1.out⟩

end Go.Proofs.YtaobohlcpgnebaaDoor
