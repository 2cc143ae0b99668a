/-
  THE EXAMPLE OF THE CHAPTER ON LINES: known() returns true.
-/
import Derived.Test.YtnajkjgjeiodmaaIdx6
import Derived.Laws.StructEq
namespace Go.Proofs.Ytnajkjgjeiodmaa
open Go.RowKit
open Go.Proofs (Try.prog)

theorem posEq (a b c d : Int) (w : World) : (binOp .eql 23 (.agg #[.int .i64 a, .int .i64 b]) (.agg #[.int .i64 c, .int .i64 d])).run Try.prog w = .ok (.bool (decide (a = c ∧ b = d))) w := by
  simp [go_sem]
  by_cases h : a = c <;> by_cases h2 : b = d <;> simp [h, h2]

set_option maxRecDepth 100000 in
set_option maxHeartbeats 2000000 in
theorem known3 (w : World) : Calls Try.prog 14 #[] w fun e w' => e = .returned (.bool true) ∧ Frm [] w w' := by
  have hnew := idxNew w ⟨#[97, 10, 98]⟩ (by decide)
  go_enter Try.func14, Try.ntmps14
  go_wp2_with fail
  refine hnew.mono ?_
  rintro e w1 ⟨x, fp, rfl, hi, hf, hb⟩
  have hx : x ∈ fp := by obtain ⟨_, _, _, _, rfl⟩ := hi; simp
  have h1 : Calls Try.prog 20 #[.pointer (some ⟨x, 0, none⟩)] w1 fun e w' => e = .returned (.int .i64 2) ∧ w1 = w' := idxLines w1 x fp _ hi
  have h2 : Calls Try.prog 21 #[.pointer (some ⟨x, 0, none⟩)] w1 fun e w' => e = .returned (.int .i64 3) ∧ w1 = w' := idxLen w1 x fp _ hi
  have h3 : Calls Try.prog 16 #[.pointer (some ⟨x, 0, none⟩), .int .i64 1] w1 fun e w' => e = .returned (.tuple #[.int .i64 2, .bool true]) ∧ w1 = w' := idxStart_yes w1 x fp _ hi 1 2 rfl
  have h4 : Calls Try.prog 19 #[.pointer (some ⟨x, 0, none⟩), .int .i64 1] w1 fun e w' => e = .returned (.tuple #[.agg #[.int .i64 0, .int .i64 1], .bool true]) ∧ Frm [] w1 w' := idxAt_yes w1 x fp _ hi (by decide) 1 (by decide) 0 rfl
  have HI := Lib.hid hi
  have HF := Lib.hid hf
  have HB := Lib.hid hb
  clear hi hf hb hnew
  go_wp2_with fail
  refine h1.mono ?_
  rintro e w' ⟨rfl, rfl⟩
  clear h1
  go_wp2_with fail
  refine h2.mono ?_
  rintro e w' ⟨rfl, rfl⟩
  clear h2
  go_wp2_with fail
  refine h3.mono ?_
  rintro e w' ⟨rfl, rfl⟩
  clear h3
  go_wp2_with fail
  refine h4.mono ?_
  rintro e w2 ⟨rfl, hf2⟩
  have hi2 := HI.out.frm hf2 (by simp)
  have hi3 := hi2.frm ((Frm.refl [] w2).alloc (.cells #[.int .i64 0, .int .i64 1] 23)) (by simp)
  have h5 : Calls Try.prog 18 #[.pointer (some ⟨x, 0, none⟩), .agg #[.int .i64 1, .int .i64 1]] (w2.alloc (.cells #[.int .i64 0, .int .i64 1] 23)) fun e w' => e = .returned (.tuple #[.int .i64 3, .bool true]) ∧ Frm [] (w2.alloc (.cells #[.int .i64 0, .int .i64 1] 23)) w' :=
    idxOff_yes _ x fp _ hi3 (by decide) 1 2 4 1 (by decide) rfl rfl (by decide) (by decide)
  have HI3 := Lib.hid hi3
  have HF2 := Lib.hid (HF.out.trans hf2 (by simp))
  clear h4 hi2 hi3 hf2
  go_wp2_with fail
  refine h5.mono ?_
  rintro e w3 ⟨rfl, hf3⟩
  have hp3 : w3.heap[w2.heap.size]? = some (.cells #[.int .i64 0, .int .i64 1] 23 (0, 0)) := hf3.heap (heap_alloc_at w2 _) (by simp)
  have hi4 := HI3.out.frm hf3 (by simp)
  have h6 : Calls Try.prog 18 #[.pointer (some ⟨x, 0, none⟩), .agg #[.int .i64 0, .int .i64 2]] w3 fun e w' => e = .returned (.tuple #[.int .i64 0, .bool false]) ∧ Frm [] w3 w' :=
    idxOff_no2 _ x fp _ hi4 (by decide) 0 0 2 2 (by decide) rfl rfl (by decide)
  have HP3 := Lib.hid hp3
  have HI4 := Lib.hid hi4
  have HF3 := Lib.hid ((HF2.out.alloc (.cells #[.int .i64 0, .int .i64 1] 23)).trans hf3 (by simp))
  clear h5 hp3 hi4 hf3
  go_wp2_with fail
  refine h6.mono ?_
  rintro e w4 ⟨rfl, hf4⟩
  have hp4 := hf4.heap HP3.out (by simp)
  have hc0 := cell_of_heap (i := 0) hp4 rfl
  have hc1 := cell_of_heap (i := 1) hp4 rfl
  have hi5 := HI4.out.frm hf4 (by simp)
  have h7 : Calls Try.prog 22 #[.pointer (some ⟨x, 0, none⟩), .int .i64 1, .string ⟨#[10]⟩] w4 fun e w' => e = .returned (.bool true) ∧ ∃ fp', Idx w' x fp' [97, 10, 10, 98] ∧ Frm fp w4 w' ∧ ∀ b ∈ fp', b ∈ fp ∨ w4.heap.size ≤ b :=
    idxInsert _ x fp _ 1 ⟨#[10]⟩ hi5 (by decide) (by decide)
  have HF4 := Lib.hid (HF3.out.trans hf4 (by simp))
  clear h6 hp4 hi5 hf4
  go_wp2_with fail
  refine h7.mono ?_
  rintro e w5 ⟨rfl, fp', hi6, hf5, _⟩
  have h8 : Calls Try.prog 20 #[.pointer (some ⟨x, 0, none⟩)] w5 fun e w' => e = .returned (.int .i64 3) ∧ w5 = w' := idxLines w5 x fp' _ hi6
  have HF5 := Lib.hid (HF4.out.trans hf5 (fun b hb => .inr (HB.out b hb)))
  clear h7 hi6 hf5 hc0 hc1
  go_wp2_with fail
  refine h8.mono ?_
  rintro e w' ⟨rfl, rfl⟩
  clear h8
  go_wp2_with fail
  go_ret
  exact ⟨rfl, HF5.out⟩

end Go.Proofs.Ytnajkjgjeiodmaa
