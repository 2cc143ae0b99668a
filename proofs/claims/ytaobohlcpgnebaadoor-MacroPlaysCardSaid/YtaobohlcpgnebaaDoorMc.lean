/-
  macro.Stack: what it is in memory; New, Left, Deep, Dry, Drop, Refuel. Conditions: none.
-/
import Derived.Test.YtaobohlcpgnebaaDoorKg
namespace Go.Proofs.YtaobohlcpgnebaaDoor
open Go.RowKit
open Go.Proofs (Tryd.prog)

/-- A frame: its slice of keys, these keys, how often, how far. -/
abbrev Fr := Value × List UInt8 × Nat × Nat
def fcells (f : Fr) : List Value := [f.1, .int .i64 (f.2.2.1 : Int), .int .i64 (f.2.2.2 : Int)]
/-- The stack at block x, in the blocks of fp, has these frames, fuel, rest, depth. -/
def Mac (w : World) (x : Nat) (fp : List Nat) (fs : List Fr) (fuel left depth : Nat) : Prop :=
  ∃ lv, w.heap[x]? = some (.cells #[lv, .int .i64 (fuel : Int), .int .i64 (left : Int), .int .i64 (depth : Int)] 73 (0, 0)) ∧ w.ownsRow 0 76 3 lv fs.length (fs.flatMap fcells) ∧ x ∈ fp ∧ (∀ b, lv.ownBlock = some b → b ∈ fp ∧ b ≠ x) ∧
    (∀ b ∈ fp, b < w.heap.size) ∧ ∀ f ∈ fs, RdB w f.1 f.2.1 ∧ ∀ b, f.1.ownBlock = some b → b ∈ fp ∧ b ≠ x ∧ lv.ownBlock ≠ some b
theorem Mac.frm {w w' : World} {x : Nat} {fp S : List Nat} {fs : List Fr} {fuel left depth : Nat} (h : Mac w x fp fs fuel left depth) (hf : Frm S w w') (hd : ∀ b ∈ fp, b ∉ S) : Mac w' x fp fs fuel left depth := by
  obtain ⟨lv, h1, h2, h3, h4, h5, h6⟩ := h
  refine ⟨lv, hf.heap h1 (hd x h3), ownsRow_frm h2 hf (fun b hb e => hd b (h4 b e).1 hb), h3, h4, fun b hb => Nat.lt_of_lt_of_le (h5 b hb) hf.size, fun f hm => ⟨Rd.frm (h6 f hm).1 hf (fun b hb e => hd b ((h6 f hm).2 b e).1 hb), (h6 f hm).2⟩⟩

set_option maxRecDepth 100000 in
theorem macNew (w : World) (a d : Int) (ha0 : -9223372036854775808 ≤ a) (ha : a ≤ 9223372036854775807) (hd0 : -9223372036854775808 ≤ d) (hd : d ≤ 9223372036854775807) :
    Calls Tryd.prog 22 #[.int .i64 a, .int .i64 d] w fun e w' => ∃ x fp, e = .returned (.pointer (some ⟨x, 0, none⟩)) ∧ Mac w' x fp [] a.toNat a.toNat d.toNat ∧ Frm [] w w' ∧ ∀ b ∈ fp, w.heap.size ≤ b := by
  have e1 : max a 0 = (a.toNat : Int) := by omega
  have e2 : max d 0 = (d.toNat : Int) := by omega
  have E1 := Lib.hid e1
  have E2 := Lib.hid e2
  clear e1 e2
  go_enter Tryd.func22, Tryd.ntmps22
  go_wp2_with fail
  go_ret
  rw [E1.out, E2.out]
  refine ⟨w.heap.size, [w.heap.size], rfl, ⟨.slice none 0 0, heap_alloc_at _ _, ⟨rfl, .inl ⟨rfl, rfl⟩⟩, by simp, by simp [Value.ownBlock], by simp, by simp⟩, (Frm.refl _ _).alloc _, by simp⟩

set_option maxRecDepth 100000 in
theorem macLeft (w : World) (x : Nat) (fp : List Nat) (fs : List Fr) (fuel left depth : Nat) (h : Mac w x fp fs fuel left depth) :
    Calls Tryd.prog 25 #[.pointer (some ⟨x, 0, none⟩)] w fun e w' => e = .returned (.int .i64 (left : Int)) ∧ w' = w := by
  obtain ⟨lv, h1, -⟩ := h
  have hc := cell_of_heap (i := 2) h1 rfl
  clear h1
  go_enter Tryd.func25, Tryd.ntmps25
  go_wp2_with fail
  go_ret
  exact ⟨rfl, rfl⟩

set_option maxRecDepth 100000 in
theorem macDeep (w : World) (x : Nat) (fp : List Nat) (fs : List Fr) (fuel left depth : Nat) (h : Mac w x fp fs fuel left depth) :
    Calls Tryd.prog 33 #[.pointer (some ⟨x, 0, none⟩)] w fun e w' => e = .returned (.int .i64 (fs.length : Int)) ∧ w' = w := by
  obtain ⟨lv, h1, h2, -⟩ := h
  obtain ⟨a, n, c, rfl⟩ : ∃ a n c, lv = .slice a n c := by
    rcases h2.2 with ⟨rfl, _⟩ | ⟨g, c, cur, rfl, _⟩
    · exact ⟨_, _, _, rfl⟩
    · exact ⟨_, _, _, rfl⟩
  obtain rfl : n = fs.length := by
    rcases h2.2 with ⟨h3, h0⟩ | ⟨g, c, cur, h3, _⟩
    · cases h3; exact h0.symm
    · cases h3; rfl
  have hc := cell_of_heap (i := 0) h1 rfl
  clear h1 h2
  go_enter Tryd.func33, Tryd.ntmps33
  go_wp2_with fail
  go_ret
  exact ⟨rfl, rfl⟩

set_option maxRecDepth 100000 in
theorem macDrop (w : World) (x : Nat) (fp : List Nat) (fs : List Fr) (fuel left depth : Nat) (h : Mac w x fp fs fuel left depth) :
    Calls Tryd.prog 36 #[.pointer (some ⟨x, 0, none⟩)] w fun e w' => e = .returned (.tuple #[]) ∧ Mac w' x fp [] fuel left depth ∧ Frm fp w w' := by
  obtain ⟨lv, h1, h2, h3, h4, h5, h6⟩ := h
  have hc := cell_of_heap (i := 0) h1 rfl
  have hz := frozen_of_heap 0 h1
  have hs := heap_set_at (i := 0) (.slice none 0 0) h1
  have hf := (Frm.refl fp w).setCell (p := ⟨x, 0, none⟩) (.inl h3) (.slice none 0 0)
  have HS := Lib.hid hs
  have HF := Lib.hid hf
  clear h1 h2 h4 h6 hs hf
  go_enter Tryd.func36, Tryd.ntmps36
  go_wp2_with fail
  go_end0
  exact ⟨rfl, ⟨.slice none 0 0, HS.out, ⟨rfl, .inl ⟨rfl, rfl⟩⟩, h3, by simp [Value.ownBlock], fun b hb => Nat.lt_of_lt_of_le (h5 b hb) HF.out.size, by simp⟩, HF.out⟩

end Go.Proofs.YtaobohlcpgnebaaDoor
