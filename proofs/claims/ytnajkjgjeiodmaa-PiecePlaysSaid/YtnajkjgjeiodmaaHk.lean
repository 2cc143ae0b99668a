/-
  A TABLE OF PIECES THAT A LAW HOLDS, BESIDE BLOCKS OF ITS OWN THAT STAY AS THEY ARE. Conditions: a bound cap of all sizes.
-/
import Derived.Test.YtnajkjgjeiodmaaHt
namespace Go.Proofs.Ytnajkjgjeiodmaa
open Go.RowKit
open Go.Proofs (Try.prog)

def HeldK (w : World) (B : List Nat) (x : Nat) (T : List UInt8) (most : Int) (edits cap : Nat) (wr : World) : Prop :=
  ∃ fp np, Tbl wr x fp T most edits np cap ∧ (∀ b ∈ fp, w.heap.size ≤ b) ∧ (∀ b ∈ B, b ∉ fp ∧ b < wr.heap.size) ∧ Frm [] w wr
def Same (B : List Nat) (X Y : World) : Prop := ∀ b ∈ B, Y.heap[b]? = X.heap[b]?

section
variable {w wr : World} {B : List Nat} {x : Nat} {T : List UInt8} {most : Int} {edits cap : Nat}

theorem HeldK.held (h : HeldK w B x T most edits cap wr) : HeldT w x T most edits cap wr := by
  obtain ⟨fp, np, h1, h2, h3, h4⟩ := h
  exact ⟨fp, np, h1, h2, h4⟩
theorem HeldT.alloc (h : HeldT w x T most edits cap wr) (o : Obj) : HeldK w [wr.heap.size] x T most edits cap (wr.alloc o) := by
  obtain ⟨fp, np, h1, h2, h3⟩ := h
  have hf : Frm [] wr (wr.alloc o) := (Frm.refl _ wr).alloc o
  refine ⟨fp, np, h1.frm hf (by simp), h2, fun b hb => ?_, h3.alloc o⟩
  obtain rfl : b = wr.heap.size := by simpa using hb
  exact ⟨fun hm => by have := h1.lt _ hm; omega, by simp⟩
theorem HeldK.few (h : HeldK w B x T most edits cap wr) : (T.length : Int) ≤ most ∧ T.length ≤ cap ∧ edits ≤ cap ∧ most ≤ 4611686018427387904 := h.held.few
theorem HeldK.frm {w' : World} (h : HeldK w B x T most edits cap wr) (hf : Frm [] wr w') : HeldK w B x T most edits cap w' := by
  obtain ⟨fp, np, h1, h2, h3, h4⟩ := h
  exact ⟨fp, np, h1.frm hf (by simp), h2, fun b hb => ⟨(h3 b hb).1, Nat.lt_of_lt_of_le (h3 b hb).2 hf.size⟩, h4.trans hf (by simp)⟩
theorem HeldK.same {w' : World} (h : HeldK w B x T most edits cap wr) (hf : Frm [] wr w') : Same B wr w' := by
  obtain ⟨fp, np, h1, h2, h3, h4⟩ := h
  exact fun b hb => hf.same b (h3 b hb).2 (by simp)
theorem HeldK.mono {cap' : Nat} (h : HeldK w B x T most edits cap wr) (hc : cap ≤ cap') : HeldK w B x T most edits cap' wr := by
  obtain ⟨fp, np, h1, h2⟩ := h
  exact ⟨fp, np, h1.mono hc, h2⟩

theorem kInsert (h : HeldK w B x T most edits cap wr) (off : Nat) (s : ByteArray) (hc : cap + s.size + 1 ≤ 268435456) (hin : off ≤ T.length) (hm : (T.length : Int) + (s.size : Int) ≤ most) :
    Calls Try.prog 26 #[.pointer (some ⟨x, 0, none⟩), .int .i64 off, .string s] wr fun e w' => e = .returned (.int .i64 0) ∧ HeldK w B x (T.take off ++ s.data.toList ++ T.drop off) most (edits + if s.size = 0 then 0 else 1) (cap + s.size + 1) w' ∧ Same B wr w' := by
  have h0 := h
  obtain ⟨fp, np, h1, h2, h3, h4⟩ := h
  by_cases hs : s.size = 0
  · refine (tInsert_none h1 (by omega) off s hin hs).mono ?_
    rintro e w' ⟨rfl, hf⟩
    have hn : s.data.toList = [] := List.eq_nil_of_length_eq_zero hs
    rw [hn, if_pos hs, List.append_nil, List.take_append_drop]
    exact ⟨rfl, (h0.frm hf).mono (by omega), h0.same hf⟩
  · refine (tInsert_some h1 off s (by omega) hin hs hm).mono ?_
    rintro e w' ⟨rfl, fp', np', k1, k2, k3⟩
    rw [if_neg hs]
    refine ⟨rfl, ⟨fp', np', k1, fun b hb => (k3 b hb).elim (h2 b) (fun h => Nat.le_trans h4.size h), fun b hb => ⟨fun hm => ?_, Nat.lt_of_lt_of_le (h3 b hb).2 k2.size⟩, h4.trans k2 (fun b hb => .inr (h2 b hb))⟩, fun b hb => k2.same b (h3 b hb).2 (h3 b hb).1⟩
    rcases k3 b hm with h | h
    · exact (h3 b hb).1 h
    · have := (h3 b hb).2
      omega
theorem kInsert_place (h : HeldK w B x T most edits cap wr) (hc : cap ≤ 268435456) (off : Int) (s : ByteArray) (hno : off < 0 ∨ (T.length : Int) < off) :
    Calls Try.prog 26 #[.pointer (some ⟨x, 0, none⟩), .int .i64 off, .string s] wr fun e w' => e = .returned (.int .i64 20) ∧ HeldK w B x T most edits cap w' ∧ Same B wr w' := by
  have h0 := h
  obtain ⟨fp, np, h1, h2, h3⟩ := h
  refine (tInsert_place h1 (by omega) off s hno).mono ?_
  rintro e w' ⟨rfl, rfl⟩
  exact ⟨rfl, h0, fun _ _ => rfl⟩
theorem kInsert_full (h : HeldK w B x T most edits cap wr) (hc : cap ≤ 268435456) (off : Nat) (s : ByteArray) (hin : off ≤ T.length) (hs : s.size ≤ 140737488355328) (hfull : most < (T.length : Int) + (s.size : Int)) :
    Calls Try.prog 26 #[.pointer (some ⟨x, 0, none⟩), .int .i64 off, .string s] wr fun e w' => e = .returned (.int .i64 21) ∧ HeldK w B x T most edits cap w' ∧ Same B wr w' := by
  have h0 := h
  obtain ⟨fp, np, h1, h2, h3⟩ := h
  refine (tInsert_full h1 (by omega) off s hin hs hfull).mono ?_
  rintro e w' ⟨rfl, hf⟩
  exact ⟨rfl, h0.frm hf, h0.same hf⟩
theorem kDelete (h : HeldK w B x T most edits cap wr) (off n : Nat) (hc : cap + 1 ≤ 268435456) (hin : off + n ≤ T.length) :
    Calls Try.prog 34 #[.pointer (some ⟨x, 0, none⟩), .int .i64 off, .int .i64 n] wr fun e w' => e = .returned (.int .i64 0) ∧ HeldK w B x (T.take off ++ T.drop (off + n)) most (edits + if n = 0 then 0 else 1) (cap + 1) w' ∧ Same B wr w' := by
  have h0 := h
  obtain ⟨fp, np, h1, h2, h3, h4⟩ := h
  by_cases hn : n = 0
  · subst hn
    refine (tDelete_none h1 (by omega) off (by omega)).mono ?_
    rintro e w' ⟨rfl, rfl⟩
    rw [if_pos rfl, Nat.add_zero, List.take_append_drop]
    exact ⟨rfl, h0.mono (by omega), fun _ _ => rfl⟩
  · refine (tDelete_some h1 off n (by omega) hin (by omega)).mono ?_
    rintro e w' ⟨rfl, fp', np', k1, k2, k3⟩
    rw [if_neg hn]
    refine ⟨rfl, ⟨fp', np', k1, fun b hb => (k3 b hb).elim (h2 b) (fun h => Nat.le_trans h4.size h), fun b hb => ⟨fun hm => ?_, Nat.lt_of_lt_of_le (h3 b hb).2 k2.size⟩, h4.trans k2 (fun b hb => .inr (h2 b hb))⟩, fun b hb => k2.same b (h3 b hb).2 (h3 b hb).1⟩
    rcases k3 b hm with h | h
    · exact (h3 b hb).1 h
    · have := (h3 b hb).2
      omega
theorem kDelete_place (h : HeldK w B x T most edits cap wr) (hc : cap ≤ 268435456) (off n : Int) (hno : ¬ (0 ≤ off ∧ 0 ≤ n ∧ off ≤ T.length ∧ n ≤ T.length - off)) :
    Calls Try.prog 34 #[.pointer (some ⟨x, 0, none⟩), .int .i64 off, .int .i64 n] wr fun e w' => e = .returned (.int .i64 20) ∧ HeldK w B x T most edits cap w' ∧ Same B wr w' := by
  have h0 := h
  obtain ⟨fp, np, h1, h2, h3⟩ := h
  refine (tDelete_place h1 (by omega) off n hno).mono ?_
  rintro e w' ⟨rfl, rfl⟩
  exact ⟨rfl, h0, fun _ _ => rfl⟩
end

end Go.Proofs.Ytnajkjgjeiodmaa
