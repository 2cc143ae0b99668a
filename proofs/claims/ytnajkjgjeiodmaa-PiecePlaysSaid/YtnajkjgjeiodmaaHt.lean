/-
  A TABLE OF PIECES THAT A LAW HOLDS: made by its call, changed by its operations alone. Conditions: a bound cap of all sizes.
-/
import Derived.Test.YtnajkjgjeiodmaaWh2
import Derived.Laws.Concat
namespace Go.Proofs.Ytnajkjgjeiodmaa
open Go.RowKit
open Go.Proofs (Try.prog)

/-- Since the world w a table of this text was made at x; all else is as it was. -/
def HeldT (w : World) (x : Nat) (T : List UInt8) (most : Int) (edits cap : Nat) (wr : World) : Prop :=
  ∃ fp np, Tbl wr x fp T most edits np cap ∧ (∀ b ∈ fp, w.heap.size ≤ b) ∧ Frm [] w wr

section
variable {w wr : World} {x : Nat} {T : List UInt8} {most : Int} {edits cap : Nat}

theorem HeldT.made {w1 : World} {fp : List Nat} {np : Nat} (h0 : Frm [] w w1) (h : Tbl wr x fp T most edits np cap) (hf : Frm [] w1 wr) (hb : ∀ b ∈ fp, w1.heap.size ≤ b) : HeldT w x T most edits cap wr :=
  ⟨fp, np, h, fun b hm => Nat.le_trans h0.size (hb b hm), h0.trans hf (by simp)⟩
theorem HeldT.frm {w' : World} (h : HeldT w x T most edits cap wr) (hf : Frm [] wr w') : HeldT w x T most edits cap w' := by
  obtain ⟨fp, np, h1, h2, h3⟩ := h
  exact ⟨fp, np, h1.frm hf (by simp), h2, h3.trans hf (by simp)⟩
theorem HeldT.mono {cap' : Nat} (h : HeldT w x T most edits cap wr) (hc : cap ≤ cap') : HeldT w x T most edits cap' wr := by
  obtain ⟨fp, np, h1, h2, h3⟩ := h
  exact ⟨fp, np, h1.mono hc, h2, h3⟩
theorem HeldT.few (h : HeldT w x T most edits cap wr) : (T.length : Int) ≤ most ∧ T.length ≤ cap ∧ edits ≤ cap ∧ most ≤ 4611686018427387904 := by
  obtain ⟨fp, np, h1, h2, h3⟩ := h
  exact h1.few.2
theorem HeldT.fin (h : HeldT w x T most edits cap wr) : Frm [] w wr := by
  obtain ⟨fp, np, h1, h2, h3⟩ := h
  exact h3

theorem hInsert (h : HeldT w x T most edits cap wr) (off : Nat) (s : ByteArray) (hc : cap + s.size + 1 ≤ 268435456) (hin : off ≤ T.length) (hm : (T.length : Int) + (s.size : Int) ≤ most) :
    Calls Try.prog 26 #[.pointer (some ⟨x, 0, none⟩), .int .i64 off, .string s] wr fun e w' => e = .returned (.int .i64 0) ∧ HeldT w x (T.take off ++ s.data.toList ++ T.drop off) most (edits + if s.size = 0 then 0 else 1) (cap + s.size + 1) w' := by
  obtain ⟨fp, np, h1, h2, h3⟩ := h
  by_cases hs : s.size = 0
  · refine (tInsert_none h1 (by omega) off s hin hs).mono ?_
    rintro e w' ⟨rfl, hf⟩
    have hn : s.data.toList = [] := List.eq_nil_of_length_eq_zero hs
    rw [hn, if_pos hs, List.append_nil, List.take_append_drop]
    exact ⟨rfl, fp, np, (h1.frm hf (by simp)).mono (by omega), h2, h3.trans hf (by simp)⟩
  · refine (tInsert_some h1 off s (by omega) hin hs hm).mono ?_
    rintro e w' ⟨rfl, fp', np', k1, k2, k3⟩
    rw [if_neg hs]
    exact ⟨rfl, fp', np', k1, fun b hb => (k3 b hb).elim (h2 b) (fun h => Nat.le_trans h3.size h), h3.trans k2 (fun b hb => .inr (h2 b hb))⟩
theorem hInsert_place (h : HeldT w x T most edits cap wr) (hc : cap ≤ 268435456) (off : Int) (s : ByteArray) (hno : off < 0 ∨ (T.length : Int) < off) :
    Calls Try.prog 26 #[.pointer (some ⟨x, 0, none⟩), .int .i64 off, .string s] wr fun e w' => e = .returned (.int .i64 20) ∧ HeldT w x T most edits cap w' := by
  have h0 := h
  obtain ⟨fp, np, h1, h2, h3⟩ := h
  refine (tInsert_place h1 (by omega) off s hno).mono ?_
  rintro e w' ⟨rfl, rfl⟩
  exact ⟨rfl, h0⟩
theorem hInsert_full (h : HeldT w x T most edits cap wr) (hc : cap ≤ 268435456) (off : Nat) (s : ByteArray) (hin : off ≤ T.length) (hs : s.size ≤ 140737488355328) (hfull : most < (T.length : Int) + (s.size : Int)) :
    Calls Try.prog 26 #[.pointer (some ⟨x, 0, none⟩), .int .i64 off, .string s] wr fun e w' => e = .returned (.int .i64 21) ∧ HeldT w x T most edits cap w' := by
  obtain ⟨fp, np, h1, h2, h3⟩ := h
  refine (tInsert_full h1 (by omega) off s hin hs hfull).mono ?_
  rintro e w' ⟨rfl, hf⟩
  exact ⟨rfl, fp, np, h1.frm hf (by simp), h2, h3.trans hf (by simp)⟩
theorem hDelete (h : HeldT w x T most edits cap wr) (off n : Nat) (hc : cap + 1 ≤ 268435456) (hin : off + n ≤ T.length) :
    Calls Try.prog 34 #[.pointer (some ⟨x, 0, none⟩), .int .i64 off, .int .i64 n] wr fun e w' => e = .returned (.int .i64 0) ∧ HeldT w x (T.take off ++ T.drop (off + n)) most (edits + if n = 0 then 0 else 1) (cap + 1) w' := by
  have h0 := h
  obtain ⟨fp, np, h1, h2, h3⟩ := h
  by_cases hn : n = 0
  · subst hn
    refine (tDelete_none h1 (by omega) off (by omega)).mono ?_
    rintro e w' ⟨rfl, rfl⟩
    rw [if_pos rfl, Nat.add_zero, List.take_append_drop]
    exact ⟨rfl, h0.mono (by omega)⟩
  · refine (tDelete_some h1 off n (by omega) hin (by omega)).mono ?_
    rintro e w' ⟨rfl, fp', np', k1, k2, k3⟩
    rw [if_neg hn]
    exact ⟨rfl, fp', np', k1, fun b hb => (k3 b hb).elim (h2 b) (fun h => Nat.le_trans h3.size h), h3.trans k2 (fun b hb => .inr (h2 b hb))⟩
theorem hDelete_place (h : HeldT w x T most edits cap wr) (hc : cap ≤ 268435456) (off n : Int) (hno : ¬ (0 ≤ off ∧ 0 ≤ n ∧ off ≤ T.length ∧ n ≤ T.length - off)) :
    Calls Try.prog 34 #[.pointer (some ⟨x, 0, none⟩), .int .i64 off, .int .i64 n] wr fun e w' => e = .returned (.int .i64 20) ∧ HeldT w x T most edits cap w' := by
  have h0 := h
  obtain ⟨fp, np, h1, h2, h3⟩ := h
  refine (tDelete_place h1 (by omega) off n hno).mono ?_
  rintro e w' ⟨rfl, rfl⟩
  exact ⟨rfl, h0⟩
theorem hSlice (h : HeldT w x T most edits cap wr) (off n : Nat) (hc : cap ≤ 268435456) (hin : off + n ≤ T.length) :
    Calls Try.prog 27 #[.pointer (some ⟨x, 0, none⟩), .int .i64 off, .int .i64 n] wr fun e w' => e = .returned (.tuple #[.string ⟨((T.drop off).take n).toArray⟩, .int .i64 0]) ∧ HeldT w x T most edits cap w' := by
  obtain ⟨fp, np, h1, h2, h3⟩ := h
  refine (tSlice h1 off n hc hin).mono ?_
  rintro e w' ⟨rfl, hf⟩
  exact ⟨rfl, fp, np, h1.frm hf (by simp), h2, h3.trans hf (by simp)⟩
theorem hWhole (want : ByteArray) (h : HeldT w x want.data.toList most edits cap wr) (hc : cap ≤ 268435456) :
    Calls Try.prog 28 #[.pointer (some ⟨x, 0, none⟩), .string want, .int .i64 edits] wr fun e w' => e = .returned (.bool true) ∧ HeldT w x want.data.toList most edits cap w' := by
  obtain ⟨fp, np, h1, h2, h3⟩ := h
  refine (whole2 wr x fp want most edits np cap h1 hc).mono ?_
  rintro e w' ⟨rfl, hf⟩
  exact ⟨rfl, fp, np, h1.frm hf (by simp), h2, h3.trans hf (by simp)⟩
end

theorem str_ext {a b : ByteArray} (h : a.data.toList = b.data.toList) : a = b := by
  have := Array.toList_inj.1 h
  cases a
  cases b
  simp_all
theorem str_len (s : ByteArray) : s.data.toList.length = s.size := rfl
theorem str_one (s : ByteArray) (k : Nat) (h : k < s.size) : (s.extract k (k + 1)).data.toList = [s[k]] := by
  rw [Lib.extract_data, show k + 1 - k = 1 by omega, List.drop_eq_getElem_cons (by simpa using h)]
  rfl
theorem str_next (s : ByteArray) (k : Nat) (h : k < s.size) : s.data.toList.take (k + 1) = s.data.toList.take k ++ [s[k]] := by
  rw [List.take_add_one, List.getElem?_eq_getElem (by simpa using h)]
  rfl

/-- A string put into another one: what it reads as, and that Go's two sums come to it. -/
theorem put_str (cs S : ByteArray) (m : Nat) (hm : m ≤ cs.size) (hs : cs.size ≤ 1000000000) (hS : S.size ≤ 1000000000) : ∃ c1 c2 : ByteArray, (∀ W, (Op.stringOp .add (cs.extract 0 m) S).run Try.prog W = .ok (.string c1) W) ∧ (∀ W, (Op.stringOp .add c1 (cs.extract m cs.size)).run Try.prog W = .ok (.string c2) W) ∧
    c2.data.toList = cs.data.toList.take m ++ S.data.toList ++ cs.data.toList.drop m ∧ c2.size = cs.size + S.size := by
  have hl : cs.data.toList.length = cs.size := rfl
  have hl2 : S.data.toList.length = S.size := rfl
  have h1 : (cs.extract 0 m).data.toList = cs.data.toList.take m := by rw [Lib.extract_eq]; simp
  have h2 : (cs.extract m cs.size).data.toList = cs.data.toList.drop m := by
    rw [Lib.extract_eq]
    show (cs.data.toList.drop m).take (cs.size - m) = _
    rw [List.take_of_length_le (by rw [List.length_drop]; omega)]
  have z1 : (cs.extract 0 m).size = m := by
    have : (cs.extract 0 m).data.toList.length = (cs.extract 0 m).size := rfl
    rw [← this, h1, List.length_take]
    omega
  have z2 : (cs.extract m cs.size).size = cs.size - m := by
    have : (cs.extract m cs.size).data.toList.length = (cs.extract m cs.size).size := rfl
    rw [← this, h2, List.length_drop]
    omega
  have hL : (cs.extract 0 m ++ S ++ cs.extract m cs.size).data.toList = cs.data.toList.take m ++ S.data.toList ++ cs.data.toList.drop m := by
    rw [← h1, ← h2]
    simp
  have e1 : (cs.extract 0 m ++ S).size = m + S.size := by rw [ByteArray.size_append, z1]
  refine ⟨cs.extract 0 m ++ S, cs.extract 0 m ++ S ++ cs.extract m cs.size, fun W => run_string_add_sum W _ _ (by omega), fun W => run_string_add_sum W _ _ (by omega), hL, ?_⟩
  rw [ByteArray.size_append, e1, z2]
  omega

end Go.Proofs.Ytnajkjgjeiodmaa
