/-
  THE WALK OF foolscaplaw2.PieceLimit: it returns true at every arguments, and changes nothing that lay in memory.
-/
import Derived.Test.YtnajkjgjeiodmaaWh2
namespace Go.Proofs.Ytnajkjgjeiodmaa
open Go.RowKit
open Go.Proofs (Try.prog)

set_option maxRecDepth 100000 in
set_option maxHeartbeats 4000000 in
theorem pieceLimit (w : World) (s m : ByteArray) (v : Int) (hs : s.size ≤ 140737488351232) (hm : m.size ≤ 140737488351232) (hv0 : -128 ≤ v) (hv1 : v ≤ 127) :
    Calls Try.prog 7 #[.string s, .string m, .int .i8 v] w fun e w' => e = .returned (.bool true) ∧ Frm [] w w' := by
  have hk := known2 w
  by_cases hsz : s.size + m.size ≤ 300
  · obtain ⟨r, hr⟩ : ∃ r, v.tmod 3 = r := ⟨_, rfl⟩
    have hr1 : -3 < r := by rw [← hr]; exact Int.lt_tmod_of_pos v (by decide)
    have hr2 : r < 3 := by rw [← hr]; exact Int.tmod_lt_of_pos v (by decide)
    go_enter Try.func7, Try.ntmps7
    go_wp2_with fail
    refine hk.mono ?_
    rintro e w1 ⟨rfl, hf1⟩
    have HF1 := Lib.hid hf1
    clear hk hf1
    go_wp2_with fail
    by_cases hno : (m.size : Int) + r < 0
    · refine (tNew_no w1 s _ (by omega) (by omega)).mono ?_
      rintro e w' ⟨rfl, rfl⟩
      have h2 : ¬ (s.size : Int) ≤ (s.size : Int) + (m.size : Int) + r := by omega
      go_wp2_with fail
      go_ret
      exact ⟨rfl, HF1.out⟩
    · refine (tNew w1 s ((s.size : Int) + (m.size : Int) + r) 1000 (by omega) (by omega) (by omega) (by omega)).mono ?_
      rintro e w2 ⟨x, fp, np, rfl, ht, hf2, hb2⟩
      have h2 : (s.size : Int) ≤ (s.size : Int) + (m.size : Int) + r := by omega
      have hl : s.data.toList.length = s.size := rfl
      have hz1 := HF1.out.size
      have hdiv : (s.size : Int) / 2 = ((s.size / 2 : Nat) : Int) := by omega
      have HF2 := Lib.hid (HF1.out.trans hf2 (by simp))
      have HB2 := Lib.hid hb2
      have HT := Lib.hid ht
      have HD := Lib.hid hdiv
      clear hf2 hb2 ht hdiv hl
      go_wp2_with fail
      rw [HD.out]
      have hl : s.data.toList.length = s.size := rfl
      by_cases hneg : r < 0
      · refine (tInsert_full HT.out (by omega) (s.size / 2) m (by omega) (by omega) (by omega)).mono ?_
        rintro e w3 ⟨rfl, hf3⟩
        have hwh := whole2 w3 x fp s _ 0 np 1000 (HT.out.frm hf3 (by simp)) (by omega)
        have HF3 := Lib.hid (HF2.out.trans hf3 (by simp))
        clear hf3 hl
        go_wp2_with fail
        refine hwh.mono ?_
        rintro e w4 ⟨rfl, hf4⟩
        clear hwh
        have HF4 := Lib.hid (HF3.out.trans hf4 (by simp))
        clear hf4
        go_wp2_with fail
        go_ret
        exact ⟨rfl, HF4.out⟩
      · by_cases hm0 : m.size = 0
        · refine (tInsert_none HT.out (by omega) (s.size / 2) m (by omega) hm0).mono ?_
          rintro e w3 ⟨rfl, hf3⟩
          have hln := tLen (HT.out.frm hf3 (by simp))
          rw [hl] at hln
          have HF3 := Lib.hid (HF2.out.trans hf3 (by simp))
          have HM0 := Lib.hid hm0
          have heq : ((s.size : Int) == (s.size : Int) + (m.size : Int)) = true := by rw [beq_iff_eq]; omega
          clear hf3 hl hm0
          go_wp2_with fail
          refine hln.mono ?_
          rintro e w' ⟨rfl, rfl⟩
          clear hln
          go_wp2_with fail
          go_ret
          exact ⟨rfl, HF3.out⟩
        · refine (tInsert_some HT.out (s.size / 2) m (by omega) (by omega) hm0 (by omega)).mono ?_
          rintro e w3 ⟨rfl, fp3, np3, ht3, hf3, _⟩
          have hln := tLen ht3
          have hl3 : (s.data.toList.take (s.size / 2) ++ m.data.toList ++ s.data.toList.drop (s.size / 2)).length = s.size + m.size := by
            have : m.data.toList.length = m.size := rfl
            simp only [List.length_append, List.length_take, List.length_drop]
            omega
          rw [hl3] at hln
          have HF3 := Lib.hid (HF2.out.trans hf3 (fun b hb => .inr (by have := HB2.out b hb; omega)))
          clear hf3 hl hm0 ht3 hl3
          go_wp2_with fail
          refine hln.mono ?_
          rintro e w' ⟨rfl, rfl⟩
          clear hln
          go_wp2_with fail
          go_ret
          exact ⟨by simp, HF3.out⟩
  · have hgt : (300 : Int) < (s.size : Int) + (m.size : Int) := by omega
    go_enter Try.func7, Try.ntmps7
    go_wp2_with fail
    refine hk.mono ?_
    rintro e w1 ⟨rfl, hf1⟩
    clear hk
    go_wp2_with fail
    go_ret
    exact ⟨rfl, hf1⟩

end Go.Proofs.Ytnajkjgjeiodmaa
