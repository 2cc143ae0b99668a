/-
  CONTRACTS OF vec.Vec[int], AGAIN: At, Set, Delete, All, and the iterator that All hands back. Conditions: fewer than 2^40 elements.
-/
import Derived.Test.YtnajkjgjeiodmaaGreatDoorVecI
namespace Go.Proofs.YtnajkjgjeiodmaaGreatDoor
open Go.RowKit
open Go.Proofs (Tryz.prog)

theorem VecI.cellAt {w : World} {p : Nat} {fp : List Nat} {xs : List Int} (h : VecI w p fp xs) {i : Nat} {x : Int} (hx : xs[i]? = some x) :
    ∃ g c, w.cell? ⟨p, 0, none⟩ = some (.slice (some ⟨g, 0, none⟩) xs.length c) ∧ w.cell? ⟨g, i, none⟩ = some (.int .i64 x) ∧ g ∈ fp ∧ w.frozen? ⟨g, i, none⟩ = false := by
  obtain ⟨v, hp, hr, rfl⟩ := h
  have hi : i < xs.length := (List.getElem?_eq_some_iff.1 hx).1
  rcases hr.2 with ⟨rfl, h0⟩ | ⟨g, c, cur, rfl, _, hg, h1, h2, h3, h4⟩
  · omega
  refine ⟨g, c, cell_of_heap hp (by simp), ?_, by simp [Value.ownBlock], frozen_of_heap i hg⟩
  have := hr.cells (g := g) rfl i (.int .i64 x) (by
    have e : xs.flatMap encI = xs.map (Value.int .i64) := by
      clear hr hp hi hx h1 h4
      induction xs with
      | nil => rfl
      | cons y ys ih => rw [List.flatMap_cons, ih]; rfl
    rw [e, List.getElem?_map, hx]; rfl)
  rw [Addr.add_lit] at this
  simpa using this

set_option maxHeartbeats 400000 in
theorem vecAtI_yes (w : World) (p : Nat) (fp : List Nat) (xs : List Int) (i : Nat) (x : Int) (h : VecI w p fp xs) (hx : xs[i]? = some x) :
    Calls Tryz.prog 53 #[.pointer (some ⟨p, 0, none⟩), .int .i64 i] w fun e w' => e = .returned (.tuple #[.int .i64 x, .bool true]) ∧ w = w' := by
  obtain ⟨g, c, hc, hg, _, _⟩ := h.cellAt hx
  have hi : i < xs.length := (List.getElem?_eq_some_iff.1 hx).1
  clear h hx
  generalize xs.length = n at *
  go_enter Tryz.func53, Tryz.ntmps53
  go_wp2_with (go_at_call 75; refine (vecHasI_yes _ _ _ _ _ _ hc (by omega) (by omega)).mono ?_; rintro e w' ⟨rfl, rfl⟩)
  go_ret2
  exact ⟨rfl, rfl⟩

set_option maxHeartbeats 400000 in
theorem vecAtI_no (w : World) (p : Nat) (fp : List Nat) (xs : List Int) (i : Int) (h : VecI w p fp xs) (hx : ¬ (0 ≤ i ∧ i < xs.length)) :
    Calls Tryz.prog 53 #[.pointer (some ⟨p, 0, none⟩), .int .i64 i] w fun e w' => e = .returned (.tuple #[.int .i64 0, .bool false]) ∧ w = w' := by
  obtain ⟨a, c, hc, _, _⟩ := h.len
  clear h
  generalize xs.length = n at *
  have hcc := vecHasI_no w p i a n c hc hx
  clear hx
  go_enter Tryz.func53, Tryz.ntmps53
  go_wp2_with (go_at_call 75; refine hcc.mono ?_; rintro e w' ⟨rfl, rfl⟩)
  go_ret2
  exact ⟨rfl, rfl⟩

set_option maxHeartbeats 800000 in
theorem vecSetI (w : World) (p : Nat) (fp : List Nat) (xs : List Int) (i : Nat) (x : Int) (h : VecI w p fp xs) (hi : i < xs.length) :
    Calls Tryz.prog 91 #[.pointer (some ⟨p, 0, none⟩), .int .i64 i, .int .i64 x] w fun e w' => e = .returned (.bool true) ∧ VecI w' p fp (xs.set i x) ∧ Frm fp w w' := by
  obtain ⟨y, hx⟩ : ∃ y, xs[i]? = some y := ⟨_, List.getElem?_eq_getElem hi⟩
  obtain ⟨g, c, hc, hg, hgf, hfz⟩ := h.cellAt hx
  have hfin : VecI (w.setCell ⟨g, i, none⟩ (.int .i64 x)) p fp (xs.set i x) := by
    obtain ⟨v, hp, hr, rfl⟩ := h
    have hv := (hc.symm.trans (cell_of_heap hp (i := 0) (v := v) (by simp)))
    cases hv
    have hgp : g ≠ p := by
      intro e; subst e
      exact ownsRow_type hr hp (by decide) rfl
    refine ⟨_, by rw [heap_set_other _ (Ne.symm hgp)]; exact hp, ?_, rfl⟩
    have e : ∀ ys : List Int, ys.flatMap encI = ys.map (Value.int .i64) := fun ys => by
      induction ys with
      | nil => rfl
      | cons y ys ih => rw [List.flatMap_cons, ih]; rfl
    have := (World.ownsRow.stored hr i (.int .i64 x)).1
    rw [List.length_set, e, List.map_set, ← e]
    exact this
  have hfr : Frm fp w (w.setCell ⟨g, i, none⟩ (.int .i64 x)) := (Frm.refl _ w).setCell (.inl hgf) _
  clear h hx
  generalize xs.length = n at *
  have HF := Lib.hid hfin
  have HR := Lib.hid hfr
  clear hfin hfr
  go_enter Tryz.func91, Tryz.ntmps91
  go_wp2_with (go_at_call 75; refine (vecHasI_yes _ _ _ _ _ _ hc (by omega) (by omega)).mono ?_; rintro e w' ⟨rfl, rfl⟩)
  go_ret
  exact ⟨rfl, HF.out, HR.out⟩

end Go.Proofs.YtnajkjgjeiodmaaGreatDoor
