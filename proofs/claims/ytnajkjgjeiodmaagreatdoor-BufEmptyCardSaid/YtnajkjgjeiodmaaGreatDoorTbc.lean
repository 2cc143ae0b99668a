/-
  CONTRACTS OF piece.Table, OVER ITS TEXT ALONE. Conditions: a bound cap of all sizes, at most 2^29.
-/
import Derived.Test.YtnajkjgjeiodmaaGreatDoorSlc
namespace Go.Proofs.YtnajkjgjeiodmaaGreatDoor.Pp
open Go.RowKit
open Go.Proofs (Tryz.prog)

theorem tNew (w : World) (s : ByteArray) (most : Int) (cap : Nat) (hm : (s.size : Int) ≤ most) (hm2 : most ≤ 4611686018427387904) (hc : s.size ≤ cap) (hc2 : cap ≤ 536870912) :
    Calls Tryz.prog 28 #[.string s, .int .i64 most] w fun e w' => ∃ x fp np, e = .returned (.tuple #[.pointer (some ⟨x, 0, none⟩), .int .i64 0]) ∧ Tbl w' x fp s.data.toList most 0 np cap ∧ Frm [] w w' ∧ ∀ b ∈ fp, w.heap.size ≤ b := by
  by_cases h : s.size = 0
  · refine (tblNew_empty w s most h hm hm2 cap).mono ?_
    rintro e w' ⟨x, fp, h1, h2, h3⟩
    exact ⟨x, fp, 0, h1, h2, h3⟩
  · refine (tblNew_full w s most h hm hm2 cap hc (by omega)).mono ?_
    rintro e w' ⟨x, fp, h1, h2, h3⟩
    exact ⟨x, fp, 1, h1, h2, h3⟩
theorem tNew_no (w : World) (s : ByteArray) (most : Int) (hs : s.size ≤ 536870912) (hm : most < (s.size : Int)) :
    Calls Tryz.prog 28 #[.string s, .int .i64 most] w fun e w' => e = .returned (.tuple #[.pointer none, .int .i64 21]) ∧ w = w' := tblNew_no w s most (by omega) hm

section
variable {w : World} {x : Nat} {fp : List Nat} {T : List UInt8} {most : Int} {edits np cap : Nat}

theorem tLen (h : Tbl w x fp T most edits np cap) : Calls Tryz.prog 52 #[.pointer (some ⟨x, 0, none⟩)] w fun e w' => e = .returned (.int .i64 T.length) ∧ w = w' := by
  obtain ⟨f, a, ps, hr, h⟩ := h
  exact tblLen w x fp f a ps _ _ _ hr
theorem tEdits (h : Tbl w x fp T most edits np cap) : Calls Tryz.prog 41 #[.pointer (some ⟨x, 0, none⟩)] w fun e w' => e = .returned (.int .i64 edits) ∧ w = w' := by
  obtain ⟨f, a, ps, hr, h⟩ := h
  exact tblEdits w x fp f a ps _ _ _ hr
theorem tPieces (h : Tbl w x fp T most edits np cap) : Calls Tryz.prog 40 #[.pointer (some ⟨x, 0, none⟩)] w fun e w' => e = .returned (.int .i64 np) ∧ w = w' := by
  obtain ⟨f, a, ps, hr, -, -, rfl, -⟩ := h
  exact tblPieces w x fp f a ps _ _ _ hr
theorem tInsert_place (h : Tbl w x fp T most edits np cap) (hc : cap ≤ 536870912) (off : Int) (s : ByteArray) (hno : off < 0 ∨ (T.length : Int) < off) :
    Calls Tryz.prog 56 #[.pointer (some ⟨x, 0, none⟩), .int .i64 off, .string s] w fun e w' => e = .returned (.int .i64 20) ∧ w = w' := by
  have hf := h.few
  obtain ⟨f, a, ps, hr, h⟩ := h
  exact tblInsert_place w x fp f a ps T.length _ _ hr off s hno (by omega)
theorem tInsert_full (h : Tbl w x fp T most edits np cap) (hc : cap ≤ 536870912) (off : Nat) (s : ByteArray) (hin : off ≤ T.length) (hs : s.size ≤ 140737488355328) (hfull : most < (T.length : Int) + (s.size : Int)) :
    Calls Tryz.prog 56 #[.pointer (some ⟨x, 0, none⟩), .int .i64 off, .string s] w fun e w' => e = .returned (.int .i64 21) ∧ Frm [] w w' := by
  have hf := h.few
  obtain ⟨f, a, ps, hr, h⟩ := h
  exact tblInsert_full w x fp f a ps T.length _ _ hr off s hin (by omega) (by omega) (by omega) hs (by omega)
theorem tInsert_none (h : Tbl w x fp T most edits np cap) (hc : cap ≤ 536870912) (off : Nat) (s : ByteArray) (hin : off ≤ T.length) (hs : s.size = 0) :
    Calls Tryz.prog 56 #[.pointer (some ⟨x, 0, none⟩), .int .i64 off, .string s] w fun e w' => e = .returned (.int .i64 0) ∧ Frm [] w w' := by
  have hf := h.few
  obtain ⟨f, a, ps, hr, h⟩ := h
  exact tblInsert_none w x fp f a ps T.length _ _ hr off s hin (by omega) (by omega) (by omega) hs
theorem tInsert_some (h : Tbl w x fp T most edits np cap) (off : Nat) (s : ByteArray) (hc : cap + s.size + 1 ≤ 536870912) (hin : off ≤ T.length) (hs : s.size ≠ 0) (hm : (T.length : Int) + (s.size : Int) ≤ most) :
    Calls Tryz.prog 56 #[.pointer (some ⟨x, 0, none⟩), .int .i64 off, .string s] w fun e w' => e = .returned (.int .i64 0) ∧
      ∃ fp' np', Tbl w' x fp' (T.take off ++ s.data.toList ++ T.drop off) most (edits + 1) np' (cap + s.size + 1) ∧ Frm fp w w' ∧ ∀ b ∈ fp', b ∈ fp ∨ w.heap.size ≤ b := by
  obtain ⟨f, a, ps, hr, h1, h2, h3, h4, h5, h6, h7, h8, h9, h10⟩ := h
  refine (tblInsert_some w x fp f a ps T.length _ _ hr off s hin h1 (by rw [← h2]) (by omega) (by omega) (by omega) (by omega) (by omega) (by omega) (by omega) h10 hs).mono ?_
  rintro e w' ⟨rfl, ps', fp', ⟨k1, k2, k3⟩, hr', hf', hb'⟩
  have hl : (T.take off ++ s.data.toList ++ T.drop off).length = T.length + s.size := by
    have : s.data.toList.length = s.size := rfl
    simp only [List.length_append, List.length_take, List.length_drop]
    omega
  refine ⟨rfl, fp', ps'.length, ⟨f, a ++ s.data.toList, ps', ?_, k2, ?_, rfl, by omega, by omega, ?_, by omega, by omega, by omega, h10⟩, hf', hb'⟩
  · rw [hl]
    simpa using hr'
  · rw [k1, ← h2]
  · have : s.data.toList.length = s.size := rfl
    rw [List.length_append]
    omega
theorem tDelete_place (h : Tbl w x fp T most edits np cap) (hc : cap ≤ 536870912) (off n : Int) (hno : ¬ (0 ≤ off ∧ 0 ≤ n ∧ off ≤ T.length ∧ n ≤ T.length - off)) :
    Calls Tryz.prog 54 #[.pointer (some ⟨x, 0, none⟩), .int .i64 off, .int .i64 n] w fun e w' => e = .returned (.int .i64 20) ∧ w = w' := by
  have hf := h.few
  obtain ⟨f, a, ps, hr, h⟩ := h
  exact tblDelete_place w x fp f a ps T.length _ _ hr off n hno (by omega)
theorem tDelete_none (h : Tbl w x fp T most edits np cap) (hc : cap ≤ 536870912) (off : Nat) (hin : off ≤ T.length) :
    Calls Tryz.prog 54 #[.pointer (some ⟨x, 0, none⟩), .int .i64 off, .int .i64 0] w fun e w' => e = .returned (.int .i64 0) ∧ w = w' := by
  have hf := h.few
  obtain ⟨f, a, ps, hr, h⟩ := h
  exact tblDelete_none w x fp f a ps T.length _ _ hr off hin (by omega)
theorem tDelete_some (h : Tbl w x fp T most edits np cap) (off n : Nat) (hc : cap + 1 ≤ 536870912) (hin : off + n ≤ T.length) (hn : 0 < n) :
    Calls Tryz.prog 54 #[.pointer (some ⟨x, 0, none⟩), .int .i64 off, .int .i64 n] w fun e w' => e = .returned (.int .i64 0) ∧
      ∃ fp' np', Tbl w' x fp' (T.take off ++ T.drop (off + n)) most (edits + 1) np' (cap + 1) ∧ Frm fp w w' ∧ ∀ b ∈ fp', b ∈ fp ∨ w.heap.size ≤ b := by
  obtain ⟨f, a, ps, hr, h1, h2, h3, h4, h5, h6, h7, h8, h9, h10⟩ := h
  refine (tblDelete_some w x fp f a ps T.length _ _ hr off n hn hin h1 (by rw [← h2]) (by omega) (by omega) (by omega) (by omega) (by omega)).mono ?_
  rintro e w' ⟨rfl, ps', fp', ⟨k1, k2, k3⟩, hr', hf', hb'⟩
  have hl : (T.take off ++ T.drop (off + n)).length = T.length - n := by
    simp only [List.length_append, List.length_take, List.length_drop]
    omega
  refine ⟨rfl, fp', ps'.length, ⟨f, a, ps', ?_, k2, ?_, rfl, by omega, by omega, by omega, by omega, by omega, by omega, h10⟩, hf', hb'⟩
  · rw [hl]
    simpa using hr'
  · rw [k1, ← h2]
theorem tSlice_place (h : Tbl w x fp T most edits np cap) (hc : cap ≤ 536870912) (off n : Int) (hno : ¬ (0 ≤ off ∧ 0 ≤ n ∧ off ≤ T.length ∧ n ≤ T.length - off)) :
    Calls Tryz.prog 38 #[.pointer (some ⟨x, 0, none⟩), .int .i64 off, .int .i64 n] w fun e w' => e = .returned (.tuple #[.string ⟨#[]⟩, .int .i64 20]) ∧ Frm [] w w' := by
  have hf := h.few
  obtain ⟨f, a, ps, hr, h⟩ := h
  exact tblSlice_place w x fp f a ps T.length _ _ hr off n hno (by omega)
theorem tSlice (h : Tbl w x fp T most edits np cap) (off n : Nat) (hc : cap ≤ 268435456) (hin : off + n ≤ T.length) :
    Calls Tryz.prog 38 #[.pointer (some ⟨x, 0, none⟩), .int .i64 off, .int .i64 n] w fun e w' => e = .returned (.tuple #[.string ⟨((T.drop off).take n).toArray⟩, .int .i64 0]) ∧ Frm [] w w' := by
  obtain ⟨f, a, ps, hr, h1, h2, h3, h4, h5, h6, h7, h8, h9, h10⟩ := h
  refine (tblSlice w x fp f a ps T.length _ _ off n hr h1 (by rw [← h2]) hin (by omega) (by omega) (by omega) (by omega)).mono ?_
  rintro e w' ⟨rfl, hf⟩
  rw [← h2, colO_all]
  exact ⟨rfl, hf⟩
end

end Go.Proofs.YtnajkjgjeiodmaaGreatDoor.Pp
