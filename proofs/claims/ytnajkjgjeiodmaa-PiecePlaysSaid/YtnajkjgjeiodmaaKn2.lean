/-
  THE EXAMPLE OF THE CHAPTER ON PIECES: known() returns true.
-/
import Derived.Test.YtnajkjgjeiodmaaTbc
namespace Go.Proofs.Ytnajkjgjeiodmaa
open Go.RowKit
open Go.Proofs (Try.prog)

set_option maxRecDepth 100000 in
set_option maxHeartbeats 2000000 in
theorem known2 (w : World) : Calls Try.prog 24 #[] w fun e w' => e = .returned (.bool true) ∧ Frm [] w w' := by
  have hnew := tNew w ⟨#[97, 98]⟩ 9 2 (by decide) (by decide) (by decide) (by decide)
  go_enter Try.func24, Try.ntmps24
  go_wp2_with fail
  refine hnew.mono ?_
  rintro e w1 ⟨x, fp, np, rfl, ht, hf, hb⟩
  have h1 := tInsert_some ht 1 ⟨#[120]⟩ (by decide) (by decide) (by decide) (by decide)
  have HF := Lib.hid hf
  have HB := Lib.hid hb
  clear ht hf hb hnew
  go_wp2_with fail
  refine h1.mono ?_
  rintro e w2 ⟨rfl, fp2, np2, ht2, hf2, hb2⟩
  have hfw := ht2.few
  have h2 : Calls Try.prog 27 #[.pointer (some ⟨x, 0, none⟩), .int .i64 0, .int .i64 3] w2 fun e w' => e = .returned (.tuple #[.string ⟨#[97, 120, 98]⟩, .int .i64 0]) ∧ Frm [] w2 w' := tSlice ht2 0 3 (by decide) (by decide)
  have HF2 := Lib.hid (HF.out.trans hf2 (fun b hb => .inr (HB.out b hb)))
  have HT2 := Lib.hid ht2
  clear h1 ht2 hf2 hb2
  have hnp : np2 ≤ 3 := hfw.1
  clear hfw
  go_wp2_with fail
  refine h2.mono ?_
  rintro e w3 ⟨rfl, hf3⟩
  have ht3 := HT2.out.frm hf3 (by simp)
  have h3 : Calls Try.prog 26 #[.pointer (some ⟨x, 0, none⟩), .int .i64 0, .string ⟨#[48, 49, 50, 51, 52, 53, 54, 55, 56, 57]⟩] w3 fun e w' => e = .returned (.int .i64 21) ∧ Frm [] w3 w' := tInsert_full ht3 (by decide) 0 _ (by decide) (by decide) (by decide)
  have HF3 := Lib.hid (HF2.out.trans hf3 (by simp))
  have HT3 := Lib.hid ht3
  clear h2 hf3 ht3
  go_wp2_with fail
  refine h3.mono ?_
  rintro e w4 ⟨rfl, hf4⟩
  have ht4 := HT3.out.frm hf4 (by simp)
  have h4 : Calls Try.prog 27 #[.pointer (some ⟨x, 0, none⟩), .int .i64 2, .int .i64 2] w4 fun e w' => e = .returned (.tuple #[.string ⟨#[]⟩, .int .i64 20]) ∧ Frm [] w4 w' := tSlice_place ht4 (by decide) 2 2 (by decide)
  have HF4 := Lib.hid (HF3.out.trans hf4 (by simp))
  have HT4 := Lib.hid ht4
  clear h3 hf4 ht4
  go_wp2_with fail
  refine h4.mono ?_
  rintro e w5 ⟨rfl, hf5⟩
  have ht5 := HT4.out.frm hf5 (by simp)
  have h5 : Calls Try.prog 29 #[.pointer (some ⟨x, 0, none⟩)] w5 fun e w' => e = .returned (.int .i64 3) ∧ w5 = w' := tLen ht5
  have h6 : Calls Try.prog 32 #[.pointer (some ⟨x, 0, none⟩)] w5 fun e w' => e = .returned (.int .i64 1) ∧ w5 = w' := tEdits ht5
  have h7 := tPieces ht5
  have HF5 := Lib.hid (HF4.out.trans hf5 (by simp))
  clear h4 hf5 ht5
  go_wp2_with fail
  refine h5.mono ?_
  rintro e w' ⟨rfl, rfl⟩
  clear h5
  go_wp2_with fail
  refine h6.mono ?_
  rintro e w' ⟨rfl, rfl⟩
  clear h6
  go_wp2_with fail
  refine h7.mono ?_
  rintro e w' ⟨rfl, rfl⟩
  clear h7
  go_wp2_with fail
  go_ret
  exact ⟨by simp; omega, HF5.out⟩

end Go.Proofs.Ytnajkjgjeiodmaa
