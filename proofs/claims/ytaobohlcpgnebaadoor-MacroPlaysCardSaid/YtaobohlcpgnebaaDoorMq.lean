/-
  macro.Stack: Push that lays nothing, Push that is refused, Dry, Refuel. Conditions: none.
-/
import Derived.Test.YtaobohlcpgnebaaDoorMp
namespace Go.Proofs.YtaobohlcpgnebaaDoor
open Go.RowKit
open Go.Proofs (Tryd.prog)

theorem Mac.form {w : World} {x : Nat} {fp : List Nat} {fs : List Fr} {fuel left depth : Nat} (h : Mac w x fp fs fuel left depth) : ∃ la lc, w.heap[x]? = some (.cells #[.slice la fs.length lc, .int .i64 (fuel : Int), .int .i64 (left : Int), .int .i64 (depth : Int)] 73 (0, 0)) := by
  obtain ⟨lv, h1, h2, -⟩ := h
  rcases h2.2 with ⟨rfl, h0⟩ | ⟨g, c, cur, rfl, _⟩
  · exact ⟨none, 0, by rw [h0]; exact h1⟩
  · exact ⟨_, _, h1⟩

set_option maxRecDepth 100000 in
theorem macPush_none (w : World) (x : Nat) (v : Value) (K : List UInt8) (n : Int) (hv : RdB w v K) (hn : n < 1 ∨ K = []) :
    Calls Tryd.prog 23 #[.pointer (some ⟨x, 0, none⟩), v, .int .i64 n] w fun e w' => e = .returned (.bool true) ∧ w' = w := by
  obtain ⟨a, c, rfl⟩ := hv.form
  by_cases h1 : n < 1
  · have hd : decide (n < 1) = true := decide_eq_true h1
    go_enter Tryd.func23, Tryd.ntmps23
    go_wp2_with fail
    go_ret
    exact ⟨rfl, rfl⟩
  · obtain rfl : K = [] := by rcases hn with h | h; exact absurd h h1; exact h
    have hd : decide (n < 1) = false := decide_eq_false h1
    go_enter Tryd.func23, Tryd.ntmps23
    go_wp2_with fail
    go_ret
    exact ⟨rfl, rfl⟩

set_option maxRecDepth 100000 in
theorem macPush_full (w : World) (x : Nat) (fp : List Nat) (fs : List Fr) (fuel left depth : Nat) (h : Mac w x fp fs fuel left depth) (v : Value) (K : List UInt8) (n : Nat) (hn : 1 ≤ n) (hK : K ≠ []) (hv : RdB w v K) (hlt : depth ≤ fs.length) :
    Calls Tryd.prog 23 #[.pointer (some ⟨x, 0, none⟩), v, .int .i64 (n : Int)] w fun e w' => e = .returned (.bool false) ∧ Frm [] w w' := by
  obtain ⟨a, c, rfl⟩ := hv.form
  obtain ⟨la, lc, h1⟩ := h.form
  have hK1 : 0 < K.length := List.length_pos_iff.2 hK
  have hc0 := cell_of_heap (i := 0) h1 rfl
  have hc3 := cell_of_heap (i := 3) h1 rfl
  have hlt1 : decide ((n : Int) < 1) = false := decide_eq_false (by omega)
  have hk0 : ((K.length : Int) == 0) = false := beq_eq_false_iff_ne.2 (by omega)
  clear h1 hv h
  go_enter Tryd.func23, Tryd.ntmps23
  go_wp2_with fail
  go_quiet (fail)
  go_wp2_with fail
  go_ret
  exact ⟨rfl, (Frm.refl _ _).drewN _⟩

set_option maxRecDepth 100000 in
theorem macDry (w : World) (x : Nat) (fp : List Nat) (fs : List Fr) (fuel left depth : Nat) (h : Mac w x fp fs fuel left depth) :
    Calls Tryd.prog 26 #[.pointer (some ⟨x, 0, none⟩)] w fun e w' => e = .returned (.bool (decide (0 < fs.length) && decide (left = 0))) ∧ w' = w := by
  obtain ⟨la, lc, h1⟩ := h.form
  have hc0 := cell_of_heap (i := 0) h1 rfl
  have hc2 := cell_of_heap (i := 2) h1 rfl
  clear h1 h
  by_cases hpos : 0 < fs.length
  · have hd : decide (0 < (fs.length : Int)) = true := decide_eq_true (by omega)
    go_enter Tryd.func26, Tryd.ntmps26
    go_wp2_with fail
    go_ret
    refine ⟨?_, rfl⟩
    have : ((left : Int) == 0) = decide (left = 0) := by
      rw [Bool.eq_iff_iff, beq_iff_eq, decide_eq_true_iff]
      omega
    simp [hpos, this]
  · have hd : decide (0 < (fs.length : Int)) = false := decide_eq_false (by omega)
    go_enter Tryd.func26, Tryd.ntmps26
    go_wp2_with fail
    go_ret
    refine ⟨?_, rfl⟩
    simp [hpos]

set_option maxRecDepth 100000 in
theorem macRefuel (w : World) (x : Nat) (fp : List Nat) (fs : List Fr) (fuel left depth : Nat) (h : Mac w x fp fs fuel left depth) :
    Calls Tryd.prog 37 #[.pointer (some ⟨x, 0, none⟩)] w fun e w' => e = .returned (.tuple #[]) ∧ Mac w' x fp fs fuel fuel depth ∧ Frm [x] w w' := by
  obtain ⟨lv, h1, h2, h3, h4, h5, h6⟩ := h
  have hc1 := cell_of_heap (i := 1) h1 rfl
  have hc2 := cell_of_heap (i := 2) h1 rfl
  have hz := frozen_of_heap 2 h1
  have hs := heap_set_at (i := 2) (.int .i64 (fuel : Int)) h1
  have hf := (Frm.refl [x] w).setCell (p := ⟨x, 2, none⟩) (.inl (by simp)) (.int .i64 (fuel : Int))
  have HS := Lib.hid hs
  have HF := Lib.hid hf
  have H2 := Lib.hid h2
  have H4 := Lib.hid h4
  have H6 := Lib.hid h6
  clear h1 h2 h4 h6 hs hf
  go_enter Tryd.func37, Tryd.ntmps37
  go_wp2_with fail
  go_end0
  exact ⟨rfl, ⟨lv, HS.out, ownsRow_frm H2.out HF.out (fun b hb e => (H4.out b e).2 (by simpa using hb)), h3, H4.out, fun b hb => Nat.lt_of_lt_of_le (h5 b hb) HF.out.size, fun f hm => ⟨Rd.frm (H6.out f hm).1 HF.out (fun b hb e => ((H6.out f hm).2 b e).2.1 (by simpa using hb)), (H6.out f hm).2⟩⟩, HF.out⟩

end Go.Proofs.YtaobohlcpgnebaaDoor
