/-
  THE WALK OF foolscaplaw2.PieceCuts: it returns true at every arguments, and changes nothing that lay in memory.
-/
import Derived.Test.YtnajkjgjeiodmaaHt
namespace Go.Proofs.Ytnajkjgjeiodmaa
open Go.RowKit
open Go.Proofs (Try.prog)

/-- A string out of which bytes are taken: what it reads as, and that Go's sum comes to it. -/
theorem cut_str (cs : ByteArray) (a k : Nat) (h : a + k ≤ cs.size) (hs : cs.size ≤ 1000000000) : ∃ c2 : ByteArray, (∀ W, (Op.stringOp .add (cs.extract 0 a) (cs.extract (a + k) cs.size)).run Try.prog W = .ok (.string c2) W) ∧
    c2.data.toList = cs.data.toList.take a ++ cs.data.toList.drop (a + k) ∧ c2.size = cs.size - k := by
  have hl := str_len cs
  have h1 : (cs.extract 0 a).data.toList = cs.data.toList.take a := by rw [Lib.extract_eq]; simp
  have h2 : (cs.extract (a + k) cs.size).data.toList = cs.data.toList.drop (a + k) := by
    rw [Lib.extract_eq]
    show (cs.data.toList.drop (a + k)).take (cs.size - (a + k)) = _
    rw [List.take_of_length_le (by rw [List.length_drop]; omega)]
  have z1 : (cs.extract 0 a).size = a := by
    rw [← str_len, h1, List.length_take]
    omega
  have z2 : (cs.extract (a + k) cs.size).size = cs.size - (a + k) := by
    rw [← str_len, h2, List.length_drop]
    omega
  refine ⟨cs.extract 0 a ++ cs.extract (a + k) cs.size, fun W => run_string_add_sum W _ _ (by omega), ?_, by rw [ByteArray.size_append, z1, z2]; omega⟩
  rw [← h1, ← h2]
  simp

set_option maxRecDepth 100000 in
set_option maxHeartbeats 8000000 in
theorem pieceCuts (w : World) (a : Option Addr) (len cap : Nat) (off n : Int) (hl : len ≤ maxLen)
    (ha : ∀ i, i < len → ∃ (y : Addr) (S : ByteArray), a = some y ∧ S.size ≤ maxLen ∧ w.cell? (y.add i) = some (.string S)) (ho0 : 0 ≤ off) (ho1 : off ≤ 65535) (hn0 : 0 ≤ n) (hn1 : n ≤ 65535) :
    Calls Try.prog 13 #[.slice a len cap, .int .u16 off, .int .u16 n] w fun e w' => e = .returned (.bool true) ∧ Frm [] w w' := by
  have hk := known2 w
  unfold maxLen at hl
  by_cases hl1 : len ≤ 15
  · obtain ⟨off, rfl⟩ := Int.eq_ofNat_of_zero_le ho0
    obtain ⟨n, rfl⟩ := Int.eq_ofNat_of_zero_le hn0
    have HA := Lib.hid ha
    clear ha
    go_enter Try.func13, Try.ntmps13
    go_wp2_with fail
    refine hk.mono ?_
    rintro e w1 ⟨rfl, hf1⟩
    have hnew := tNew w1 ⟨#[]⟩ 2000 2000 (by decide) (by decide) (by decide) (by decide)
    have HF1 := Lib.hid hf1
    clear hk hf1
    go_wp2_with fail
    refine hnew.mono ?_
    rintro e w2 ⟨x, fp, np, rfl, ht, hf2, hb2⟩
    have HH := Lib.hid (HeldT.made HF1.out ht hf2 hb2)
    clear hnew ht hf2 hb2
    go_wp2_with fail
    go_loopw [9, 10, 11] (fun c e i wr => ∃ (cs : ByteArray) (k ed : Nat), cs.size ≤ 40 * k ∧ k ≤ len ∧ c = .string cs ∧ e = .int .i64 ed ∧ i = .int .i64 k ∧ HeldT w x cs.data.toList 2000 ed (2000 + 100 * k) wr) (fun _ _ i _ => len - (intOf i).toNat)
    case atStart => exact ⟨⟨#[]⟩, 0, 0, by decide, Nat.zero_le _, rfl, rfl, rfl, HH.out⟩
    case round =>
      obtain ⟨cs, k, ed, hcs, hkl, rfl, rfl, rfl, hh⟩ := hrel
      have hed := hh.few.2.2.1
      by_cases hlt : k < len
      · obtain ⟨y, S, rfl, hS, hcell0⟩ := HA.out k hlt
        have hcell := hh.fin.cell hcell0 (by simp)
        unfold maxLen at hS
        by_cases hbig : S.size ≤ 40
        · have hP : k * cs.size ≤ 15 * 600 := Nat.mul_le_mul (by omega) (by omega)
          have hκ : k * cs.size / (len + 1) ≤ cs.size := by
            refine Nat.div_le_of_le_mul ?_
            rw [Nat.mul_comm]
            have := Nat.mul_le_mul_left cs.size (show k ≤ len + 1 by omega)
            rw [Nat.mul_comm (len + 1)]
            omega
          have hκe : (k : Int) * (cs.size : Int) / ((len : Int) + 1) = ((k * cs.size / (len + 1) : Nat) : Int) := by rw [Int.natCast_ediv]; simp
          have hPi : (k : Int) * (cs.size : Int) ≤ 9000 := by have := Int.ofNat_le.2 hP; simpa using this
          have hPi0 : 0 ≤ (k : Int) * (cs.size : Int) := Int.mul_nonneg (by omega) (by omega)
          obtain ⟨c1, c2, hadd1, hadd2, hc2, hc2s⟩ := put_str cs S (k * cs.size / (len + 1)) hκ (by omega) (by omega)
          have hlc := str_len cs
          have hins := hInsert hh (k * cs.size / (len + 1)) S (by omega) (by omega) (by omega)
          rw [← hc2] at hins
          have HINS := Lib.hid hins
          have HADD1 := Lib.hid hadd1
          have HADD2 := Lib.hid hadd2
          have HC2S := Lib.hid hc2s
          have HKE := Lib.hid hκe
          have HCELL0 := Lib.hid hcell0
          clear hins hh hadd1 hadd2 hc2 hc2s hκe hcell0 hlc hP
          go_wp2_with fail
          rw [HKE.out]
          generalize k * cs.size / (len + 1) = κ at *
          refine HINS.out.mono ?_
          rintro e w3 ⟨rfl, hh3⟩
          have hcell3 := hh3.fin.cell HCELL0.out (by simp)
          have HH3 := Lib.hid hh3
          have hadd1 := HADD1.out
          have hadd2 := HADD2.out
          clear hh3 hcell
          go_wp2_with fail
          go_quiet (fail)
          clear hadd1 hadd2 hcell3
          have hcell4 := ((HH3.out.fin).drewN nq).cell HCELL0.out (by simp)
          by_cases hS0 : S.size = 0
          · have hSe : (!S.toList.isEmpty) = false := by
              rw [ByteArray.toList_eq, List.eq_nil_of_length_eq_zero (show S.data.toList.length = 0 from hS0)]
              rfl
            have hHH := HH3.out
            rw [if_pos hS0, Nat.add_zero] at hHH
            have HH4 := Lib.hid (hHH.frm ((Frm.refl [] w3).drewN nq))
            have hc2b : c2.size ≤ 40 * (k + 1) := by have := HC2S.out; omega
            clear hS0 hHH
            go_wp2_with fail
            refine ⟨⟨c2, k + 1, ed, hc2b, by omega, rfl, rfl, by go_num, HH4.out.mono (by omega)⟩, ?_⟩
            simp [intOf]
            omega
          · have hSe : (!S.toList.isEmpty) = true := by
              rw [ByteArray.toList_eq]
              cases h : S.data.toList with
              | nil => exact absurd (by rw [← str_len, h]; rfl) hS0
              | cons _ _ => rfl
            have hHH := HH3.out
            rw [if_neg hS0] at hHH
            have HH4 := Lib.hid (hHH.frm ((Frm.refl [] w3).drewN nq))
            have hc2b : c2.size ≤ 40 * (k + 1) := by have := HC2S.out; omega
            clear hS0 hHH
            go_wp2_with fail
            refine ⟨⟨c2, k + 1, ed + 1, hc2b, by omega, rfl, by go_num, by go_num, HH4.out.mono (by omega)⟩, ?_⟩
            simp [intOf]
            omega
        · have hbig2 : (40 : Int) < (S.size : Int) := by omega
          have HFIN := Lib.hid hh.fin
          clear hh hcell0
          go_wp2_with fail
          go_ret
          exact ⟨rfl, HFIN.out⟩
      · obtain rfl : k = len := by omega
        have hlc := str_len cs
        obtain ⟨A, hA, hAe⟩ : ∃ A : Nat, A ≤ cs.size ∧ (off : Int) % ((cs.size : Int) + 1) = (A : Int) :=
          ⟨off % (cs.size + 1), by have := Nat.mod_lt off (show 0 < cs.size + 1 by omega); omega, by rw [Int.natCast_emod]; rfl⟩
        obtain ⟨K, hK, hKe⟩ : ∃ K : Nat, K ≤ cs.size - A ∧ (n : Int) % ((cs.size : Int) - (A : Int) + 1) = (K : Int) :=
          ⟨n % (cs.size - A + 1), by have := Nat.mod_lt n (show 0 < cs.size - A + 1 by omega); omega, by rw [Int.natCast_emod, show ((cs.size - A + 1 : Nat) : Int) = (cs.size : Int) - (A : Int) + 1 from by omega]⟩
        have hdel := hDelete hh A K (by omega) (by omega)
        obtain ⟨c2, hadd, hc2, hc2s⟩ := cut_str cs A K (by omega) (by omega)
        rw [← hc2] at hdel
        have HDEL := Lib.hid hdel
        have HADD := Lib.hid hadd
        have hKs : (A : Int) + (K : Int) ≤ (cs.size : Int) := by omega
        have hAi : (A : Int) ≤ (cs.size : Int) := by omega
        have hAK0 : (0 : Int) ≤ (A : Int) + (K : Int) := by omega
        have hAKn : ((A : Int) + (K : Int)).toNat = A + K := by omega
        have hwk : IntKind.i64.wrap ((A : Int) + (K : Int)) = (A : Int) + (K : Int) := by rw [IntKind.wrap_i64]; omega
        have mixed : Try.prog.follows .mixedOrders = true := by kernel_rfl
        clear hdel hadd hc2 hc2s hh
        go_wp2_with fail
        try rw [hAe]
        try rw [hKe]
        refine HDEL.out.mono ?_
        rintro e w3 ⟨rfl, hh3⟩
        have hwh := fun nq => hWhole c2 (hh3.frm ((Frm.refl [] w3).drewN nq)) (by omega)
        by_cases hK0 : K = 0
        · rw [if_pos hK0, Nat.add_zero] at hwh
          have hK1 : ¬ (0 : Int) < (K : Int) := by omega
          have HWH := Lib.hid hwh
          have hadd := HADD.out
          clear hh3 hwh hAe hKe hK0
          go_wp2_with fail
          refine wp_region_tail 11 mixed (by kernel_rfl) ?_
          simp only [List.take_succ_cons, List.take_zero, List.drop_succ_cons, List.drop_zero]
          repeat still_step
          refine wpStill_nil ?_
          clear hadd
          go_wp2_with fail
          refine (HWH.out 1).mono ?_
          rintro e w4 ⟨rfl, hh4⟩
          have HF4 := Lib.hid hh4.fin
          clear hh4
          go_wp2_with fail
          go_ret
          exact ⟨rfl, HF4.out⟩
        · rw [if_neg hK0] at hwh
          have hK1 : (0 : Int) < (K : Int) := by omega
          have HWH := Lib.hid hwh
          have hadd := HADD.out
          clear hh3 hwh hAe hKe hK0
          go_wp2_with fail
          refine wp_region_tail 11 mixed (by kernel_rfl) ?_
          simp only [List.take_succ_cons, List.take_zero, List.drop_succ_cons, List.drop_zero]
          repeat still_step
          refine wpStill_nil ?_
          clear hadd
          go_wp2_with fail
          refine (HWH.out 1).mono ?_
          rintro e w4 ⟨rfl, hh4⟩
          have HF4 := Lib.hid hh4.fin
          clear hh4
          go_wp2_with fail
          go_ret
          exact ⟨rfl, HF4.out⟩
  · have hgt : (15 : Int) < (len : Int) := by omega
    go_enter Try.func13, Try.ntmps13
    go_wp2_with fail
    refine hk.mono ?_
    rintro e w1 ⟨rfl, hf1⟩
    clear hk
    go_wp2_with fail
    go_ret
    exact ⟨rfl, hf1⟩

end Go.Proofs.Ytnajkjgjeiodmaa
