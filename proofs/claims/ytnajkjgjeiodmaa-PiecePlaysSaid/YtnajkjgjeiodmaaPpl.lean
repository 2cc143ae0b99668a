/-
  THE WALK OF foolscaplaw2.PiecePlays: it returns true at every arguments, and changes nothing that lay in memory.
-/
import Derived.Test.YtnajkjgjeiodmaaHk
import Derived.Test.YtnajkjgjeiodmaaPcu
namespace Go.Proofs.Ytnajkjgjeiodmaa
open Go.RowKit
open Go.Proofs (Try.prog)

theorem str_empty {S : ByteArray} (h : S.size = 0) : (!S.toList.isEmpty) = false := by
  rw [ByteArray.toList_eq, List.eq_nil_of_length_eq_zero (show S.data.toList.length = 0 from h)]
  rfl
theorem str_full {S : ByteArray} (h : S.size ≠ 0) : (!S.toList.isEmpty) = true := by
  rw [ByteArray.toList_eq]
  cases h2 : S.data.toList with
  | nil => exact absurd (by rw [← str_len, h2]; rfl) h
  | cons _ _ => rfl

set_option maxRecDepth 100000 in
set_option maxHeartbeats 16000000 in
theorem piecePlays (w : World) (s : ByteArray) (most : Int) (a : Option Addr) (len cap : Nat) (hs : s.size ≤ 140737488351232) (hm0 : -9223372036854775808 ≤ most) (hm1 : most ≤ 9223372036854775807) (hlm : len ≤ maxLen)
    (ha : ∀ i, i < len → ∃ (y : Addr) (v : Nat) (o n : Int) (S : ByteArray), a = some y ∧ v ≤ 255 ∧ S.size ≤ maxLen ∧ w.cell? (y.add (i * 4)) = some (.int .u8 v) ∧ w.cell? ⟨(y.add (i * 4)).block, (y.add (i * 4)).off + 1, none⟩ = some (.int .i64 o) ∧
      w.cell? ⟨(y.add (i * 4)).block, (y.add (i * 4)).off + 2, none⟩ = some (.int .i64 n) ∧ w.cell? ⟨(y.add (i * 4)).block, (y.add (i * 4)).off + 3, none⟩ = some (.string S)) :
    Calls Try.prog 11 #[.string s, .int .i64 most, .slice a len cap] w fun e w' => e = .returned (.bool true) ∧ Frm [] w w' := by
  have hk := known2 w
  unfold maxLen at hlm ha
  by_cases hs1 : s.size ≤ 200
  · by_cases hl1 : len ≤ 40
    · obtain ⟨r, hr⟩ : ∃ r, most.tmod 400 = r := ⟨_, rfl⟩
      have hr1 : -400 < r := by rw [← hr]; exact Int.lt_tmod_of_pos most (by decide)
      have hr2 : r < 400 := by rw [← hr]; exact Int.tmod_lt_of_pos most (by decide)
      have HA := Lib.hid ha
      clear ha
      go_enter Try.func11, Try.ntmps11
      go_wp2_with fail
      refine hk.mono ?_
      rintro e w1 ⟨rfl, hf1⟩
      have HF1 := Lib.hid hf1
      clear hk hf1
      go_wp2_with fail
      clear hr
      by_cases hno : r < (s.size : Int)
      · refine (tNew_no w1 s r (by omega) hno).mono ?_
        rintro e w' ⟨rfl, rfl⟩
        go_wp2_with fail
        go_ret
        exact ⟨rfl, HF1.out⟩
      · refine (tNew w1 s r 1000 (by omega) (by omega) (by omega) (by omega)).mono ?_
        rintro e w2 ⟨x, fp, np, rfl, ht, hf2, hb2⟩
        have HH := Lib.hid (HeldT.made HF1.out ht hf2 hb2)
        clear ht hf2 hb2
        go_wp2_with fail
        go_loopw [9, 10, 11] (fun c e i wr => ∃ (cs : ByteArray) (k ed : Nat), k ≤ len ∧ c = .string cs ∧ e = .int .i64 ed ∧ i = .int .i64 k ∧ HeldT w x cs.data.toList r ed (1000 + 100 * k) wr) (fun _ _ i _ => len - (intOf i).toNat)
        case atStart => exact ⟨s, 0, 0, Nat.zero_le _, rfl, rfl, rfl, HH.out⟩
        case round =>
          obtain ⟨cs, k, ed, hkl, rfl, rfl, rfl, hh⟩ := hrel
          obtain ⟨hfw1, hfw2, hed, -⟩ := hh.few
          have hcl := str_len cs
          have hcs : (cs.size : Int) ≤ r := by omega
          have hcs2 : cs.size ≤ 1000 := by omega
          clear hfw1 hfw2 hcl
          have HH := Lib.hid hh
          by_cases hlt : k < len
          · obtain ⟨y, v, o, n, S, rfl, hv, hS, c0, c1, c2, c3⟩ := HA.out k hlt
            have d0 := hh.fin.cell c0 (by simp)
            have d1 := hh.fin.cell c1 (by simp)
            have d2 := hh.fin.cell c2 (by simp)
            have d3 := hh.fin.cell c3 (by simp)
            have hkk := hh.alloc (.cells #[.int .u8 v, .int .i64 o, .int .i64 n, .string S] 63)
            have hbx := heap_alloc_at wr (.cells #[.int .u8 v, .int .i64 o, .int .i64 n, .string S] 63)
            have HKK := Lib.hid hkk
            have HBX := Lib.hid hbx
            clear c0 c1 c2 c3 hh hkk hbx
            by_cases hS1 : S.size ≤ 60
            · by_cases hT : v % 3 < 2
              · have hT1 : ((v : Int) % 3) < 2 := by omega
                by_cases hin : 0 ≤ o ∧ o ≤ (cs.size : Int)
                · obtain ⟨m, rfl⟩ := Int.eq_ofNat_of_zero_le hin.1
                  have hm : m ≤ cs.size := by omega
                  have hmi : (m : Int) ≤ (cs.size : Int) := by omega
                  by_cases hfit : (cs.size : Int) + (S.size : Int) ≤ r
                  · have hop := kInsert HKK.out m S (by omega) (by rw [str_len]; exact hm) (by rw [str_len]; exact hfit)
                    have hfit2 : ¬ r < (cs.size : Int) + (S.size : Int) := by omega
                    obtain ⟨c1, c2, hadd1, hadd2, hc2, hc2s⟩ := put_str cs S m hm (by omega) (by omega)
                    rw [← hc2] at hop
                    have HOP := Lib.hid hop
                    have HADD1 := Lib.hid hadd1
                    have HADD2 := Lib.hid hadd2
                    have HC2 := Lib.hid hc2
                    clear hop hadd1 hadd2 hc2 hc2s hin
                    go_wp2_with fail
                    refine HOP.out.mono ?_
                    rintro e w3 ⟨rfl, hh3, hsm⟩
                    have hp3 := (hsm wr.heap.size (by simp)).trans HBX.out
                    have e1 : w3.cell? ⟨wr.heap.size, 1, none⟩ = some (.int .i64 m) := cell_of_heap (i := 1) hp3 rfl
                    have e3 : w3.cell? ⟨wr.heap.size, 3, none⟩ = some (.string S) := cell_of_heap (i := 3) hp3 rfl
                    by_cases hS0 : S.size = 0
                    · have hSe := str_empty hS0
                      have hceq : c2 = cs := by
                        exact str_ext (by rw [HC2.out, List.eq_nil_of_length_eq_zero (show S.data.toList.length = 0 from hS0), List.append_nil, List.take_append_drop])
                      rw [if_pos hS0, Nat.add_zero, hceq] at hh3
                      have hwh := hWhole cs hh3.held (by omega)
                      have HWH := Lib.hid hwh
                      clear hh3 hsm hp3 hwh hS0 hceq d0 d1 d2 d3 hfit
                      go_wp2_with fail
                      refine HWH.out.mono ?_
                      rintro e w4 ⟨rfl, hh4⟩
                      have HH4 := Lib.hid hh4
                      clear hh4
                      go_wp2_with fail
                      refine ⟨⟨cs, k + 1, ed, by omega, rfl, rfl, by go_num, HH4.out.mono (by omega)⟩, ?_⟩
                      simp [intOf]
                      omega
                    · have hSe := str_full hS0
                      rw [if_neg hS0] at hh3
                      have hwh := fun nq => hWhole c2 (hh3.held.frm ((Frm.refl [] w3).drewN nq)) (by omega)
                      have HWH := Lib.hid hwh
                      clear hh3 hsm hp3 hwh hS0 d0 d1 d2 d3 hfit
                      have hadd1 := HADD1.out
                      have hadd2 := HADD2.out
                      go_wp2_with fail
                      go_quiet (fail)
                      clear hadd1 hadd2
                      go_wp2_with fail
                      refine (HWH.out _).mono ?_
                      rintro e w4 ⟨rfl, hh4⟩
                      have HH4 := Lib.hid hh4
                      clear hh4
                      go_wp2_with fail
                      refine ⟨⟨c2, k + 1, ed + 1, by omega, rfl, by go_num, by go_num, HH4.out.mono (by omega)⟩, ?_⟩
                      simp [intOf]
                      omega
                  · have hfit2 : r < (cs.size : Int) + (S.size : Int) := by omega
                    have hop := kInsert_full HKK.out (by omega) m S (by rw [str_len]; exact hm) (by omega) (by rw [str_len]; omega)
                    have HOP := Lib.hid hop
                    clear hop
                    go_wp2_with fail
                    refine HOP.out.mono ?_
                    rintro e w3 ⟨rfl, hh3, hsm⟩
                    have hp3 := (hsm wr.heap.size (by simp)).trans HBX.out
                    have e1 : w3.cell? ⟨wr.heap.size, 1, none⟩ = some (.int .i64 m) := cell_of_heap (i := 1) hp3 rfl
                    have e2 : w3.cell? ⟨wr.heap.size, 2, none⟩ = some (.int .i64 n) := cell_of_heap (i := 2) hp3 rfl
                    have e3 : w3.cell? ⟨wr.heap.size, 3, none⟩ = some (.string S) := cell_of_heap (i := 3) hp3 rfl
                    have hwh := hWhole cs hh3.held (by omega)
                    have HWH := Lib.hid hwh
                    clear hh3 hsm hp3 hwh d0 d1 d2 d3
                    go_wp2_with fail
                    refine HWH.out.mono ?_
                    rintro e w4 ⟨rfl, hh4⟩
                    have HH4 := Lib.hid hh4
                    clear hh4
                    go_wp2_with fail
                    refine ⟨⟨cs, k + 1, ed, by omega, rfl, rfl, by go_num, HH4.out.mono (by omega)⟩, ?_⟩
                    simp [intOf]
                    omega
                · rcases (by omega : o < 0 ∨ (0 ≤ o ∧ (cs.size : Int) < o)) with g | ⟨g, g2⟩
                  all_goals
                    clear hin
                    have hop := kInsert_place HKK.out (by omega) o S (by rw [str_len]; omega)
                    have HOP := Lib.hid hop
                    clear hop
                    go_wp2_with fail
                    refine HOP.out.mono ?_
                    rintro e w3 ⟨rfl, hh3, hsm⟩
                    have hp3 := (hsm wr.heap.size (by simp)).trans HBX.out
                    have e1 : w3.cell? ⟨wr.heap.size, 1, none⟩ = some (.int .i64 o) := cell_of_heap (i := 1) hp3 rfl
                    have e2 : w3.cell? ⟨wr.heap.size, 2, none⟩ = some (.int .i64 n) := cell_of_heap (i := 2) hp3 rfl
                    have e3 : w3.cell? ⟨wr.heap.size, 3, none⟩ = some (.string S) := cell_of_heap (i := 3) hp3 rfl
                    have hwh := hWhole cs hh3.held (by omega)
                    have HWH := Lib.hid hwh
                    clear hh3 hsm hp3 hwh d0 d1 d2 d3
                    go_wp2_with fail
                    refine HWH.out.mono ?_
                    rintro e w4 ⟨rfl, hh4⟩
                    have HH4 := Lib.hid hh4
                    clear hh4
                    go_wp2_with fail
                    refine ⟨⟨cs, k + 1, ed, by omega, rfl, rfl, by go_num, HH4.out.mono (by omega)⟩, ?_⟩
                    simp [intOf]
                    omega
              · have hT1 : ¬ ((v : Int) % 3) < 2 := by omega
                by_cases hin : 0 ≤ o ∧ 0 ≤ n ∧ o ≤ (cs.size : Int) ∧ n ≤ (cs.size : Int) - o
                · obtain ⟨g1, g2, g3, g4⟩ := hin
                  obtain ⟨m, rfl⟩ := Int.eq_ofNat_of_zero_le g1
                  obtain ⟨j, rfl⟩ := Int.eq_ofNat_of_zero_le g2
                  have hmj : m + j ≤ cs.size := by omega
                  have hop := kDelete HKK.out m j (by omega) (by rw [str_len]; exact hmj)
                  obtain ⟨c2, hadd, hc2, hc2s⟩ := cut_str cs m j hmj (by omega)
                  rw [← hc2] at hop
                  have HOP := Lib.hid hop
                  have HADD := Lib.hid hadd
                  have HC2 := Lib.hid hc2
                  clear hop hadd hc2 hc2s
                  go_wp2_with fail
                  refine HOP.out.mono ?_
                  rintro e w3 ⟨rfl, hh3, hsm⟩
                  have hp3 := (hsm wr.heap.size (by simp)).trans HBX.out
                  have e1 : w3.cell? ⟨wr.heap.size, 1, none⟩ = some (.int .i64 m) := cell_of_heap (i := 1) hp3 rfl
                  have e2 : w3.cell? ⟨wr.heap.size, 2, none⟩ = some (.int .i64 j) := cell_of_heap (i := 2) hp3 rfl
                  by_cases hj0 : j = 0
                  · have hj1 : ¬ (0 : Int) < (j : Int) := by omega
                    have hceq : c2 = cs := str_ext (by rw [HC2.out, hj0, Nat.add_zero, List.take_append_drop])
                    rw [if_pos hj0, Nat.add_zero, hceq] at hh3
                    have hwh := hWhole cs hh3.held (by omega)
                    have HWH := Lib.hid hwh
                    clear hh3 hsm hp3 hwh hj0 hceq d0 d1 d2 d3
                    go_wp2_with fail
                    refine HWH.out.mono ?_
                    rintro e w4 ⟨rfl, hh4⟩
                    have HH4 := Lib.hid hh4
                    clear hh4
                    go_wp2_with fail
                    refine ⟨⟨cs, k + 1, ed, by omega, rfl, rfl, by go_num, HH4.out.mono (by omega)⟩, ?_⟩
                    simp [intOf]
                    omega
                  · have hj1 : (0 : Int) < (j : Int) := by omega
                    rw [if_neg hj0] at hh3
                    have hwh := fun nq => hWhole c2 (hh3.held.frm ((Frm.refl [] w3).drewN nq)) (by omega)
                    have HWH := Lib.hid hwh
                    have hw1 : IntKind.i64.wrap ((m : Int) + (j : Int)) = (m : Int) + (j : Int) := by rw [IntKind.wrap_i64]; omega
                    have hn2 : ((m : Int) + (j : Int)).toNat = m + j := by omega
                    have hn3 : (m : Int) + (j : Int) ≤ (cs.size : Int) := by omega
                    have hn4 : (0 : Int) ≤ (m : Int) + (j : Int) := by omega
                    clear hh3 hsm hp3 hwh hj0 d0 d1 d2 d3
                    have hadd := HADD.out
                    go_wp2_with fail
                    go_quiet (fail)
                    clear hadd
                    go_wp2_with fail
                    refine (HWH.out _).mono ?_
                    rintro e w4 ⟨rfl, hh4⟩
                    have HH4 := Lib.hid hh4
                    clear hh4
                    go_wp2_with fail
                    refine ⟨⟨c2, k + 1, ed + 1, by omega, rfl, by go_num, by go_num, HH4.out.mono (by omega)⟩, ?_⟩
                    simp [intOf]
                    omega
                · rcases (by omega : o < 0 ∨ (0 ≤ o ∧ n < 0) ∨ (0 ≤ o ∧ 0 ≤ n ∧ (cs.size : Int) < o) ∨ (0 ≤ o ∧ 0 ≤ n ∧ o ≤ (cs.size : Int) ∧ (cs.size : Int) - o < n)) with g | ⟨g, g'⟩ | ⟨g, g', g2⟩ | ⟨g, g', g2, g3⟩
                  all_goals
                    have hop := kDelete_place HKK.out (by omega) o n (by rw [str_len]; exact hin)
                    clear hin
                    have HOP := Lib.hid hop
                    clear hop
                    go_wp2_with fail
                    refine HOP.out.mono ?_
                    rintro e w3 ⟨rfl, hh3, hsm⟩
                    have hp3 := (hsm wr.heap.size (by simp)).trans HBX.out
                    have e1 : w3.cell? ⟨wr.heap.size, 1, none⟩ = some (.int .i64 o) := cell_of_heap (i := 1) hp3 rfl
                    have e2 : w3.cell? ⟨wr.heap.size, 2, none⟩ = some (.int .i64 n) := cell_of_heap (i := 2) hp3 rfl
                    have e3 : w3.cell? ⟨wr.heap.size, 3, none⟩ = some (.string S) := cell_of_heap (i := 3) hp3 rfl
                    have hwh := hWhole cs hh3.held (by omega)
                    have HWH := Lib.hid hwh
                    clear hh3 hsm hp3 hwh d0 d1 d2 d3
                    go_wp2_with fail
                    refine HWH.out.mono ?_
                    rintro e w4 ⟨rfl, hh4⟩
                    have HH4 := Lib.hid hh4
                    clear hh4
                    go_wp2_with fail
                    refine ⟨⟨cs, k + 1, ed, by omega, rfl, rfl, by go_num, HH4.out.mono (by omega)⟩, ?_⟩
                    simp [intOf]
                    omega
            · have hS2 : (60 : Int) < (S.size : Int) := by omega
              have HFIN := Lib.hid HH.out.fin
              go_wp2_with fail
              go_ret
              exact ⟨rfl, ((HFIN.out).alloc _)⟩
          · have hwh := hWhole cs hh (by omega)
            have HWH := Lib.hid hwh
            clear hwh hh
            go_wp2_with fail
            refine HWH.out.mono ?_
            rintro e w4 ⟨rfl, hh4⟩
            have HF4 := Lib.hid hh4.fin
            clear hh4
            go_wp2_with fail
            go_ret
            exact ⟨rfl, HF4.out⟩
    · have hgt : (40 : Int) < (len : Int) := by omega
      clear ha
      go_enter Try.func11, Try.ntmps11
      go_wp2_with fail
      refine hk.mono ?_
      rintro e w1 ⟨rfl, hf1⟩
      clear hk
      go_wp2_with fail
      go_ret
      exact ⟨rfl, hf1⟩
  · have hgt : (200 : Int) < (s.size : Int) := by omega
    clear ha
    go_enter Try.func11, Try.ntmps11
    go_wp2_with fail
    refine hk.mono ?_
    rintro e w1 ⟨rfl, hf1⟩
    clear hk
    go_wp2_with fail
    go_ret
    exact ⟨rfl, hf1⟩

end Go.Proofs.Ytnajkjgjeiodmaa
