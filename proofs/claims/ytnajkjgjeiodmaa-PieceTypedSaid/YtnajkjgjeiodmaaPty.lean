/-
  THE WALK OF foolscaplaw2.PieceTyped: it returns true at every arguments, and changes nothing that lay in memory.
-/
import Derived.Test.YtnajkjgjeiodmaaHt
namespace Go.Proofs.Ytnajkjgjeiodmaa
open Go.RowKit
open Go.Proofs (Try.prog)

/-- The text with the first k bytes of another one typed into it. -/
def mid (s t : ByteArray) (κ k : Nat) : List UInt8 := s.data.toList.take κ ++ t.data.toList.take k ++ s.data.toList.drop κ
theorem mid_length (s t : ByteArray) (κ k : Nat) (hκ : κ ≤ s.size) (hk : k ≤ t.size) : (mid s t κ k).length = s.size + k := by
  have h1 := str_len s
  have h2 := str_len t
  simp only [mid, List.length_append, List.length_take, List.length_drop]
  omega
theorem mid_take (s t : ByteArray) (κ k : Nat) (hκ : κ ≤ s.size) (hk : k ≤ t.size) : (mid s t κ k).take (κ + k) = s.data.toList.take κ ++ t.data.toList.take k := by
  have h1 := str_len s
  have h2 := str_len t
  rw [mid, List.take_append_of_le_length (by simp only [List.length_append, List.length_take]; omega), List.take_of_length_le (by simp only [List.length_append, List.length_take]; omega)]
theorem mid_drop (s t : ByteArray) (κ k : Nat) (hκ : κ ≤ s.size) (hk : k ≤ t.size) : (mid s t κ k).drop (κ + k) = s.data.toList.drop κ := by
  have h1 := str_len s
  have h2 := str_len t
  rw [mid, List.drop_append_of_le_length (by simp only [List.length_append, List.length_take]; omega), List.drop_eq_nil_of_le (by simp only [List.length_append, List.length_take]; omega), List.nil_append]
theorem mid_more (s t : ByteArray) (κ k : Nat) (hκ : κ ≤ s.size) (hk : k < t.size) : (mid s t κ k).take (κ + k) ++ [t[k]] ++ (mid s t κ k).drop (κ + k) = mid s t κ (k + 1) := by
  rw [mid_take s t κ k hκ (by omega), mid_drop s t κ k hκ (by omega), mid, str_next t k hk, ← List.append_assoc]
theorem mid_less (s t : ByteArray) (κ k : Nat) (hκ : κ ≤ s.size) (hk : k < t.size) : (mid s t κ (k + 1)).take (κ + k) ++ (mid s t κ (k + 1)).drop (κ + k + 1) = mid s t κ k := by
  rw [Nat.add_assoc, mid_drop s t κ (k + 1) hκ (by omega)]
  have h1 := str_len s
  have h2 := str_len t
  have : (mid s t κ (k + 1)).take (κ + k) = s.data.toList.take κ ++ t.data.toList.take k := by
    rw [← mid_more s t κ k hκ hk, List.append_assoc, List.take_append_of_le_length (by rw [mid_take s t κ k hκ (by omega)]; simp only [List.length_append, List.length_take]; omega), List.take_take, Nat.min_self, mid_take s t κ k hκ (by omega)]
  rw [this, mid]
theorem mid_none (s t : ByteArray) (κ : Nat) : mid s t κ 0 = s.data.toList := by
  rw [mid, List.take_zero, List.append_nil, List.take_append_drop]

set_option maxRecDepth 100000 in
set_option maxHeartbeats 8000000 in
theorem pieceTyped (w : World) (s t : ByteArray) (v : Int) (hs : s.size ≤ 140737488351232) (ht : t.size ≤ 140737488351232) (hv0 : 0 ≤ v) (hv1 : v ≤ 255) :
    Calls Try.prog 12 #[.string s, .string t, .int .u8 v] w fun e w' => e = .returned (.bool true) ∧ Frm [] w w' := by
  have hk := known2 w
  by_cases hs1 : s.size ≤ 100
  · by_cases ht1 : t.size ≤ 100
    · obtain ⟨vn, rfl⟩ := Int.eq_ofNat_of_zero_le hv0
      have hκ : vn % (s.size + 1) ≤ s.size := by have := Nat.mod_lt vn (show 0 < s.size + 1 by omega); omega
      have hκe : (vn : Int) % ((s.size : Int) + 1) = ((vn % (s.size + 1) : Nat) : Int) := by rw [Int.natCast_emod]; rfl
      obtain ⟨c1, c2, hadd1, hadd2, hc2, hc2s⟩ := put_str s t (vn % (s.size + 1)) hκ (by omega) (by omega)
      go_enter Try.func12, Try.ntmps12
      go_wp2_with fail
      refine hk.mono ?_
      rintro e w1 ⟨rfl, hf1⟩
      have hnew := tNew w1 s 1000 1000 (by omega) (by omega) (by omega) (by omega)
      have HF1 := Lib.hid hf1
      have HADD1 := Lib.hid hadd1
      have HADD2 := Lib.hid hadd2
      have HC2 := Lib.hid hc2
      have HKE := Lib.hid hκe
      clear hk hf1 hadd1 hadd2 hc2 hc2s hκe
      go_wp2_with fail
      refine hnew.mono ?_
      rintro e w2 ⟨x, fp, np, rfl, ht, hf2, hb2⟩
      have HH := Lib.hid (HeldT.made HF1.out ht hf2 hb2)
      clear hnew ht hf2 hb2
      go_wp2_with fail
      rw [HKE.out]
      generalize vn % (s.size + 1) = κ at *
      go_loopw [10] (fun i wr => ∃ k : Nat, k ≤ t.size ∧ i = .int .i64 k ∧ HeldT w x (mid s t κ k) 1000 k (1000 + 2 * k) wr) (fun i _ => t.size - (intOf i).toNat)
      case atStart => exact ⟨0, Nat.zero_le _, rfl, by rw [mid_none]; exact HH.out⟩
      case round =>
        obtain ⟨k, hkt, rfl, hh⟩ := hrel
        have hml := mid_length s t κ k hκ hkt
        by_cases hlt : k < t.size
        · have hone := str_one t k hlt
          have hsz : (t.extract k (k + 1)).size = 1 := by rw [← str_len, hone]; rfl
          have hins := hInsert hh (κ + k) (t.extract k (k + 1)) (by omega) (by omega) (by omega)
          rw [hone, mid_more s t κ k hκ hlt, hsz] at hins
          rw [show ((κ + k : Nat) : Int) = (κ : Int) + (k : Int) from by omega, if_neg (by omega)] at hins
          have HINS := Lib.hid hins
          have hk1 : ((k : Int) + 1).toNat = k + 1 := by omega
          have hk2 : (k : Int) ≤ (k : Int) + 1 := by omega
          have hk3 : (k : Int) + 1 ≤ (t.size : Int) := by omega
          clear hins hone hsz hh hml
          go_wp2_with fail
          refine HINS.out.mono ?_
          rintro e w3 ⟨rfl, hh3⟩
          have HH3 := Lib.hid hh3
          clear hh3
          go_wp2_with fail
          go_roundw
          case rel => exact ⟨k + 1, by omega, by go_num, HH3.out.mono (by omega)⟩
          case measure => simp [intOf]; omega
        · obtain rfl : k = t.size := by omega
          have hcm : mid s t κ t.size = c2.data.toList := by rw [HC2.out, mid, ← str_len t, List.take_length]
          rw [hcm] at hh
          have hwh := fun nq => hWhole c2 (hh.frm ((Frm.refl [] wr).drewN nq)) (by omega)
          have HH := Lib.hid hh
          have HWH := Lib.hid hwh
          have HCM := Lib.hid hcm
          have hadd1 := HADD1.out
          have hadd2 := HADD2.out
          have mixed : Try.prog.follows .mixedOrders = true := by kernel_rfl
          clear hh hwh hcm hml
          go_wp2_with fail
          refine wp_region_tail 12 mixed (by kernel_rfl) ?_
          simp only [List.take_succ_cons, List.take_zero, List.drop_succ_cons, List.drop_zero]
          repeat still_step
          refine wpStill_nil ?_
          clear hadd1 hadd2
          go_wp2_with fail
          refine (HWH.out 1).mono ?_
          rintro e w3 ⟨rfl, hh3⟩
          rw [← HCM.out] at hh3
          have HH3 := Lib.hid hh3
          clear hh3
          go_wp2_with fail
          go_loopw [11] (fun i wr => ∃ k : Nat, k ≤ t.size ∧ i = .int .i64 k ∧ HeldT w x (mid s t κ k) 1000 (t.size + (t.size - k)) (3000 + 2 * (t.size - k)) wr) (fun i _ => (intOf i).toNat)
          case atStart => exact ⟨t.size, by omega, rfl, by simpa using HH3.out.mono (by omega)⟩
          case round =>
            obtain ⟨k, hkt, rfl, hh⟩ := hrel
            have hml := mid_length s t κ k hκ hkt
            by_cases hpos : 0 < k
            · obtain ⟨j, rfl⟩ : ∃ j, k = j + 1 := ⟨k - 1, by omega⟩
              have hdel := hDelete hh (κ + j) 1 (by omega) (by omega)
              rw [mid_less s t κ j hκ (by omega), show ((κ + j : Nat) : Int) = (κ : Int) + (j : Int) from by omega, if_neg (by omega)] at hdel
              have HDEL := Lib.hid hdel
              clear hdel hh hml hpos
              have hgt : (0 : Int) < (j : Int) + 1 := by omega
              go_wp2_with fail
              rw [show (κ : Int) + ((j : Int) + 1) - 1 = (κ : Int) + (j : Int) from by omega]
              refine HDEL.out.mono ?_
              rintro e w4 ⟨rfl, hh4⟩
              have HH4 := Lib.hid hh4
              clear hh4
              go_wp2_with fail
              go_roundw
              case rel =>
                refine ⟨j, by omega, by go_num, ?_⟩
                have := HH4.out
                rw [show t.size + (t.size - (j + 1)) + 1 = t.size + (t.size - j) from by omega] at this
                exact this.mono (by omega)
              case measure => simp [intOf]
            · obtain rfl : k = 0 := by omega
              rw [mid_none, Nat.sub_zero] at hh
              have hwh := hWhole s hh (by omega)
              have HWH := Lib.hid hwh
              clear hwh hh hml
              go_wp2_with fail
              rw [show 2 * (t.size : Int) = ((t.size + t.size : Nat) : Int) from by omega]
              refine HWH.out.mono ?_
              rintro e w4 ⟨rfl, hh4⟩
              have HF4 := Lib.hid hh4.fin
              clear hh4
              go_wp2_with fail
              go_ret
              exact ⟨rfl, HF4.out⟩
    · have hgt : (100 : Int) < (t.size : Int) := by omega
      go_enter Try.func12, Try.ntmps12
      go_wp2_with fail
      refine hk.mono ?_
      rintro e w1 ⟨rfl, hf1⟩
      clear hk
      go_wp2_with fail
      go_ret
      exact ⟨rfl, hf1⟩
  · have hgt : (100 : Int) < (s.size : Int) := by omega
    go_enter Try.func12, Try.ntmps12
    go_wp2_with fail
    refine hk.mono ?_
    rintro e w1 ⟨rfl, hf1⟩
    clear hk
    go_wp2_with fail
    go_ret
    exact ⟨rfl, hf1⟩

end Go.Proofs.Ytnajkjgjeiodmaa
