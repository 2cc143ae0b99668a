/-
  THE WALK OF foolscaplaw3.IndexLines: it returns true at every text, and changes nothing that lay in memory.
-/
import Derived.Test.YtnajkjgjeiodmaaL3known
namespace Go.Proofs.Ytnajkjgjeiodmaa
open Go.RowKit
open Go.Proofs (Try.prog)

theorem nl_snoc (l : List UInt8) (k : Nat) (c : UInt8) (hc : l[k]? = some c) : nl (l.take (k + 1)) = nl (l.take k) + (if c = 10 then 1 else 0) := by
  rw [List.take_add_one, hc, nl_append]
  simp [nl]
theorem str_get (s : ByteArray) (k : Nat) (hlt : k < s.size) : s.data.toList[k]? = some s[k] := by
  rw [List.getElem?_eq_getElem (by simpa using hlt)]; rfl
theorem test10_yes {c : UInt8} (h : c = 10) : ((c.toNat : Int) == 10) = true := by rw [h]; rfl
theorem test10_no {c : UInt8} (h : ¬ c = 10) : ((c.toNat : Int) == 10) = false := by
  have : c.toNat ≠ 10 := fun e => h (UInt8.toNat_inj.1 e)
  rw [beq_eq_false_iff_ne]; omega

set_option maxRecDepth 100000 in
set_option maxHeartbeats 2000000 in
theorem indexLines (w : World) (s : ByteArray) (hsm : s.size ≤ maxLen) : Calls Try.prog 4 #[.string s] w fun e w' => e = .returned (.bool true) ∧ Frm [] w w' := by
  have hk := known3 w
  unfold maxLen at hsm
  by_cases hs : s.size ≤ 400
  · go_enter Try.func4, Try.ntmps4
    go_wp2_with fail
    refine hk.mono ?_
    rintro e w1 ⟨rfl, hf1⟩
    have hnew := idxNew w1 s (by omega)
    have HF1 := Lib.hid hf1
    clear hk hf1
    go_wp2_with fail
    refine hnew.mono ?_
    rintro e w2 ⟨x, fp, rfl, hi, hf2, _⟩
    have HI := Lib.hid hi
    have HF2 := Lib.hid (HF1.out.trans hf2 (by simp))
    clear hnew hi hf2
    go_wp2_with fail
    go_loop [4, 5] (fun n i => ∃ k : Nat, k ≤ s.size ∧ i = .int .i64 k ∧ n = .int .i64 (nl (s.data.toList.take k) + 1 : Nat)) (fun _ i => s.size - (intOf i).toNat)
    case atStart => exact ⟨0, Nat.zero_le _, rfl, rfl⟩
    case round =>
      obtain ⟨k, hk, rfl, rfl⟩ := hrel
      have hb := nl_le (s.data.toList.take k)
      rw [List.length_take] at hb
      by_cases hlt : k < s.size
      · have hsn := nl_snoc _ k _ (str_get s k hlt)
        by_cases h10 : s[k] = 10
        · have htest := test10_yes h10
          rw [if_pos h10] at hsn
          have HSN := Lib.hid hsn
          clear hsn h10
          generalize nl (s.data.toList.take k) = M at *
          go_wp2_with fail
          go_round
          case rel => exact ⟨k + 1, by omega, by go_num, by rw [HSN.out]; go_num⟩
          case measure => simp [intOf]; omega
        · have htest := test10_no h10
          rw [if_neg h10] at hsn
          have HSN := Lib.hid hsn
          clear hsn h10
          generalize nl (s.data.toList.take k) = M at *
          go_wp2_with fail
          go_round
          case rel => exact ⟨k + 1, by omega, by go_num, by rw [HSN.out, Nat.add_zero]⟩
          case measure => simp [intOf]; omega
      · obtain rfl : k = s.size := by omega
        have hall : s.data.toList.take s.size = s.data.toList := List.take_of_length_le (by simp)
        have hss : s.data.toList.length = s.size := by simp
        have hlines := idxLines w2 x fp _ HI.out
        have hlen := idxLen w2 x fp _ HI.out
        have hsize := fun k a b => idxSize_yes w2 x fp _ HI.out (by omega) k a b
        have hbl := bnd_length s.data.toList
        have hlast := bnd_last s.data.toList
        rw [hss] at hlen hlast
        have hget : ∀ j, j < nl s.data.toList + 2 → ∃ b, (bnd s.data.toList)[j]? = some b ∧ 0 ≤ b ∧ b ≤ s.size + 1 := fun j hj => by
          have hj' : j < (bnd s.data.toList).length := by omega
          refine ⟨_, List.getElem?_eq_getElem hj', ?_⟩
          have hm := List.mem_of_getElem? (List.getElem?_eq_getElem hj')
          rcases List.mem_append.1 hm with h | h
          · have := starts_range _ _ h
            rw [hss] at this
            omega
          · simp at h
            rw [h]
            have : s.data.size = s.size := rfl
            omega
        rw [hall] at hb ⊢
        have h0 : (bnd s.data.toList)[0]? = some 0 := rfl
        have HSZ := Lib.hid hsize
        have HGET := Lib.hid hget
        have HLAST := Lib.hid hlast
        have H0 := Lib.hid h0
        have hN : nl s.data.toList ≤ 400 := by omega
        clear hsize hget hlast hall hk hlt hbl hss h0 hb
        generalize hB : bnd s.data.toList = B at *
        generalize nl s.data.toList = N at *
        clear hB
        go_wp2_with fail
        go_loop [6, 7, 8, 9] (fun sum i _ _ => ∃ (k : Nat) (b : Int), k ≤ N + 1 ∧ i = .int .i64 k ∧ B[k]? = some b ∧ sum = .int .i64 b) (fun _ i _ _ => N + 1 - (intOf i).toNat)
        case atStart => exact ⟨0, 0, by omega, rfl, H0.out, rfl⟩
        case round =>
          obtain ⟨k, b, hk, rfl, hb, rfl⟩ := hrel
          by_cases hlt : k < N + 1
          · obtain ⟨b2, hb2, hb3, hb4⟩ := HGET.out (k + 1) (by omega)
            obtain ⟨b', hb', hb5, hb6⟩ := HGET.out k (by omega)
            obtain rfl : b = b' := by rw [hb] at hb'; exact Option.some.inj hb'
            have hc := HSZ.out k b b2 hlt hb hb2
            have HB2 := Lib.hid hb2
            clear hb hb' hb2
            go_wp2_with fail
            refine hlines.mono ?_
            rintro e w' ⟨rfl, rfl⟩
            go_wp2_with fail
            refine hc.mono ?_
            rintro e w' ⟨rfl, rfl⟩
            clear hc
            go_wp2_with fail
            go_round
            case rel => exact ⟨k + 1, b2, by omega, by go_num, HB2.out, by rw [show b + (b2 - 1 - b + 1) = b2 by omega]⟩
            case measure => simp [intOf]; omega
          · obtain rfl : k = N + 1 := by omega
            have hbe : (s.size : Int) + 1 = b := by
              rw [HLAST.out] at hb
              exact Option.some.inj hb
            clear hb hlt hk
            subst hbe
            go_wp2_with fail
            refine hlines.mono ?_
            rintro e w' ⟨rfl, rfl⟩
            go_wp2_with fail
            refine hlines.mono ?_
            rintro e w' ⟨rfl, rfl⟩
            go_wp2_with fail
            refine hlen.mono ?_
            rintro e w' ⟨rfl, rfl⟩
            go_wp2_with fail
            go_ret
            exact ⟨rfl, HF2.out⟩
  · go_enter Try.func4, Try.ntmps4
    go_wp2_with fail
    refine hk.mono ?_
    rintro e w1 ⟨rfl, hf1⟩
    clear hk
    go_wp2_with fail
    go_ret
    exact ⟨rfl, hf1⟩

end Go.Proofs.Ytnajkjgjeiodmaa
