/-
  CONTRACTS OF vec.Vec[piece], AGAIN: At, Set. Conditions: fewer than 2^40 elements.
-/
import Derived.Test.YtnajkjgjeiodmaaGreatDoorVecP
import Derived.Test.YtnajkjgjeiodmaaGreatDoorBase2
namespace Go.Proofs.YtnajkjgjeiodmaaGreatDoor.Pp
open Go.RowKit
open Go.Proofs (Tryz.prog)

theorem flatP_get (xs : List (Bool × Int × Int)) : ∀ (i : Nat) (x : Bool × Int × Int), xs[i]? = some x → (xs.flatMap encP)[i * 3]? = some (.bool x.1) ∧ (xs.flatMap encP)[i * 3 + 1]? = some (.int .i64 x.2.1) ∧ (xs.flatMap encP)[i * 3 + 2]? = some (.int .i64 x.2.2) := by
  induction xs with
  | nil => intro i x h; simp at h
  | cons y ys ih =>
    intro i x h
    cases i with
    | zero =>
      obtain rfl : y = x := by simpa using h
      exact ⟨rfl, rfl, rfl⟩
    | succ i =>
      have h1 := ih i x (by simpa using h)
      have e : (i + 1) * 3 = i * 3 + 3 := by omega
      rw [List.flatMap_cons, e]
      exact h1
theorem flatP_set (xs : List (Bool × Int × Int)) : ∀ (i : Nat) (x : Bool × Int × Int), (xs.set i x).flatMap encP = (((xs.flatMap encP).set (i * 3) (.bool x.1)).set (i * 3 + 1) (.int .i64 x.2.1)).set (i * 3 + 2) (.int .i64 x.2.2) ∨ xs.length ≤ i := by
  induction xs with
  | nil => intro i x; exact .inr (Nat.zero_le _)
  | cons y ys ih =>
    intro i x
    cases i with
    | zero => exact .inl rfl
    | succ i =>
      rcases ih i x with h | h
      · left
        have e : (i + 1) * 3 = i * 3 + 3 := by omega
        rw [List.set_cons_succ, List.flatMap_cons, List.flatMap_cons, h, e]
        rfl
      · right
        simp
        omega

theorem VecP.cellAt {w : World} {p : Nat} {fp : List Nat} {xs : List (Bool × Int × Int)} (h : VecP w p fp xs) {i : Nat} {b : Bool} {o n : Int} (hx : xs[i]? = some (b, o, n)) :
    ∃ g c, w.cell? ⟨p, 0, none⟩ = some (.slice (some ⟨g, 0, none⟩) xs.length c) ∧ w.cell? ⟨g, i * 3, none⟩ = some (.bool b) ∧ w.cell? ⟨g, i * 3 + 1, none⟩ = some (.int .i64 o) ∧ w.cell? ⟨g, i * 3 + 2, none⟩ = some (.int .i64 n) ∧ g ∈ fp ∧ g ≠ p ∧ (∀ j, w.frozen? ⟨g, j, none⟩ = false) ∧ p < w.heap.size ∧ g < w.heap.size := by
  obtain ⟨v, hp, hr, rfl⟩ := h
  have hi : i < xs.length := (List.getElem?_eq_some_iff.1 hx).1
  obtain ⟨h0, h1, h2⟩ := flatP_get xs i _ hx
  have hty := ownsRow_type hr hp (by decide)
  rcases hr.2 with ⟨rfl, h0⟩ | ⟨g, c, cur, rfl, _, hg, k1, k2, k3, k4⟩
  · omega
  have hcl := fun j u hj => hr.cells (g := g) rfl j u hj
  refine ⟨g, c, cell_of_heap hp (by simp), ?_, ?_, ?_, by simp [Value.ownBlock], fun e => hty (by rw [e]; rfl), fun j => frozen_of_heap j hg, lt_of_heap hp, lt_of_heap hg⟩
  · have := hcl _ _ h0
    rw [Addr.add_lit] at this
    simpa using this
  · have := hcl _ _ h1
    rw [Addr.add_lit] at this
    simpa using this
  · have := hcl _ _ h2
    rw [Addr.add_lit] at this
    simpa using this

set_option maxHeartbeats 800000 in
theorem vecAtP_yes (w : World) (p : Nat) (fp : List Nat) (xs : List (Bool × Int × Int)) (i : Nat) (b : Bool) (o n : Int) (h : VecP w p fp xs) (hx : xs[i]? = some (b, o, n)) :
    Calls Tryz.prog 79 #[.pointer (some ⟨p, 0, none⟩), .int .i64 i] w fun e w' => e = .returned (.tuple #[.agg #[.bool b, .int .i64 o, .int .i64 n], .bool true]) ∧ Frm [] w w' := by
  have h' : VecP (w.alloc (.cells #[.bool false, .int .i64 0, .int .i64 0] 87)) p fp xs := h.frm ((Frm.refl [] w).alloc _) (by simp)
  obtain ⟨g, c, hc, hg0, hg1, hg2, _, _, hfz, hpl, hgl⟩ := h'.cellAt hx
  have hi : i < xs.length := (List.getElem?_eq_some_iff.1 hx).1
  have hfr : Frm [] w (w.alloc (.cells #[.bool b, .int .i64 o, .int .i64 n] 87)) := (Frm.refl [] w).alloc _
  have hcc := vecHasP_yes _ p (i : Int) _ xs.length c hc (by omega) (by omega)
  have HF := Lib.hid hfr
  clear h h' hx hfr hfz
  generalize xs.length = m at *
  go_enter Tryz.func79, Tryz.ntmps79
  go_wp2_with fail
  refine hcc.mono ?_
  rintro e w' ⟨rfl, rfl⟩
  clear hcc
  go_wp2_with fail
  exact bodyPost_ret (v := .tuple #[.agg #[.bool b, .int .i64 o, .int .i64 n], .bool true]) (by simp [results, Tryz.results79, go_sem]) rfl ⟨rfl, HF.out⟩

set_option maxHeartbeats 800000 in
theorem vecAtP_no (w : World) (p : Nat) (fp : List Nat) (xs : List (Bool × Int × Int)) (i : Int) (h : VecP w p fp xs) (hx : ¬ (0 ≤ i ∧ i < xs.length)) :
    Calls Tryz.prog 79 #[.pointer (some ⟨p, 0, none⟩), .int .i64 i] w fun e w' => e = .returned (.tuple #[.agg #[.bool false, .int .i64 0, .int .i64 0], .bool false]) ∧ Frm [] w w' := by
  have h' : VecP (w.alloc (.cells #[.bool false, .int .i64 0, .int .i64 0] 87)) p fp xs := h.frm ((Frm.refl [] w).alloc _) (by simp)
  obtain ⟨a, c, hc, _, _⟩ := h'.len
  have hpl := h.lt p h.mem
  have hfr : Frm [] w ((w.alloc (.cells #[.bool false, .int .i64 0, .int .i64 0] 87)).alloc (.cells #[.bool false, .int .i64 0, .int .i64 0] 87)) := ((Frm.refl [] w).alloc _).alloc _
  have hcc := vecHasP_no _ p i a xs.length c hc hx
  have HF := Lib.hid hfr
  clear h h' hx hfr
  generalize xs.length = m at *
  go_enter Tryz.func79, Tryz.ntmps79
  go_wp2_with fail
  refine hcc.mono ?_
  rintro e w' ⟨rfl, rfl⟩
  clear hcc
  go_wp2_with fail
  exact bodyPost_ret (v := .tuple #[.agg #[.bool false, .int .i64 0, .int .i64 0], .bool false]) (by simp [results, Tryz.results79, go_sem]) rfl ⟨rfl, HF.out⟩

theorem VecP.store {w : World} {p : Nat} {fp : List Nat} {xs : List (Bool × Int × Int)} (h : VecP w p fp xs) {g c : Nat} (hc : w.cell? ⟨p, 0, none⟩ = some (.slice (some ⟨g, 0, none⟩) xs.length c)) (hgp : g ≠ p) {i : Nat} (hi : i < xs.length) (b : Bool) (o n : Int) :
    VecP (((w.setCell ⟨g, i * 3, none⟩ (.bool b)).setCell ⟨g, i * 3 + 1, none⟩ (.int .i64 o)).setCell ⟨g, i * 3 + 2, none⟩ (.int .i64 n)) p fp (xs.set i (b, o, n)) := by
  obtain ⟨v, hp, hr, rfl⟩ := h
  have hv := (hc.symm.trans (cell_of_heap hp (i := 0) (v := v) (by simp)))
  cases hv
  have h1 := (World.ownsRow.stored hr (i * 3) (.bool b)).1
  have h2 := (World.ownsRow.stored h1 (i * 3 + 1) (.int .i64 o)).1
  have h3 := (World.ownsRow.stored h2 (i * 3 + 2) (.int .i64 n)).1
  refine ⟨_, by rw [heap_set_other _ (Ne.symm hgp), heap_set_other _ (Ne.symm hgp), heap_set_other _ (Ne.symm hgp)]; exact hp, ?_, rfl⟩
  rcases flatP_set xs i (b, o, n) with e | e
  · rw [List.length_set, e]
    exact h3
  · omega

set_option maxRecDepth 100000 in
set_option maxHeartbeats 1600000 in
theorem vecSetP (w : World) (p : Nat) (fp : List Nat) (xs : List (Bool × Int × Int)) (i : Nat) (b : Bool) (o n : Int) (h : VecP w p fp xs) (hi : i < xs.length) :
    Calls Tryz.prog 80 #[.pointer (some ⟨p, 0, none⟩), .int .i64 i, .agg #[.bool b, .int .i64 o, .int .i64 n]] w fun e w' => e = .returned (.bool true) ∧ VecP w' p fp (xs.set i (b, o, n)) ∧ Frm fp w w' := by
  obtain ⟨⟨b0, o0, n0⟩, hx⟩ : ∃ y, xs[i]? = some y := ⟨_, List.getElem?_eq_getElem hi⟩
  obtain ⟨W1, hW1⟩ : ∃ W1, W1 = w.alloc (.cells #[.bool b, .int .i64 o, .int .i64 n] 87) := ⟨_, rfl⟩
  have hf1 : Frm [] w W1 := by rw [hW1]; exact (Frm.refl [] w).alloc _
  have hbx : W1.drew.heap[w.heap.size]? = some (.cells #[.bool b, .int .i64 o, .int .i64 n] 87 (0, 0)) := by rw [hW1]; exact heap_alloc_at w _
  have h' : VecP W1.drew p fp xs := h.frm hf1.drew (by simp)
  obtain ⟨g, c, hc, hg0, hg1, hg2, hgf, hgp, hfz, hpl, hgl⟩ := h'.cellAt hx
  have hcc := vecHasP_yes W1 p (i : Int) _ xs.length c hc (by omega) (by omega)
  have hfin := h'.store hc hgp hi b o n
  have hfr : Frm fp w (((W1.drew.setCell ⟨g, i * 3, none⟩ (.bool b)).setCell ⟨g, i * 3 + 1, none⟩ (.int .i64 o)).setCell ⟨g, i * 3 + 2, none⟩ (.int .i64 n)) :=
    ((((hf1.drew.mono (S' := fp) (by simp)).setCell (.inl hgf) _).setCell (.inl hgf) _).setCell (.inl hgf) _)
  have hgw : g < w.heap.size := h.lt g hgf
  have hpw : p < w.heap.size := h.lt p h.mem
  have hfz0 : W1.frozen? ⟨g, i * 3, none⟩ = false := hfz (i * 3)
  have hfz1 : W1.frozen? ⟨g, i * 3 + 1, none⟩ = false := hfz (i * 3 + 1)
  have hfz2 : W1.frozen? ⟨g, i * 3 + 2, none⟩ = false := hfz (i * 3 + 2)
  have hb0 : W1.drew.cell? ⟨w.heap.size, 0, none⟩ = some (.bool b) := cell_of_heap (i := 0) hbx rfl
  have hb1 : W1.drew.cell? ⟨w.heap.size, 1, none⟩ = some (.int .i64 o) := cell_of_heap (i := 1) hbx rfl
  have hb2 : W1.drew.cell? ⟨w.heap.size, 2, none⟩ = some (.int .i64 n) := cell_of_heap (i := 2) hbx rfl
  have hs1 : (W1.setCell ⟨g, i * 3, none⟩ (.bool b)).cell? ⟨g, i * 3 + 1, none⟩ = some (.int .i64 o0) := by
    have n1 : (⟨g, i * 3, none⟩ : Addr) ≠ ⟨g, i * 3 + 1, none⟩ := by simp
    rw [World.cell?_setCell_other (h := n1)]
    exact hg1
  have hs2 : ((W1.setCell ⟨g, i * 3, none⟩ (.bool b)).setCell ⟨g, i * 3 + 1, none⟩ (.int .i64 o)).cell? ⟨g, i * 3 + 2, none⟩ = some (.int .i64 n0) := by
    have n1 : (⟨g, i * 3, none⟩ : Addr) ≠ ⟨g, i * 3 + 2, none⟩ := by simp
    have n2 : (⟨g, i * 3 + 1, none⟩ : Addr) ≠ ⟨g, i * 3 + 2, none⟩ := by simp
    rw [World.cell?_setCell_other (h := n2), World.cell?_setCell_other (h := n1)]
    exact hg2
  have HF := Lib.hid hfin
  have HR := Lib.hid hfr
  have mixed : Tryz.prog.follows .mixedOrders = true := by kernel_rfl
  clear h h' hx hfin hfr hfz hf1 hgf hbx
  generalize xs.length = m at *
  go_enter Tryz.func80, Tryz.ntmps80
  go_wp2_with fail
  rw [← hW1]
  refine hcc.mono ?_
  rintro e w' ⟨rfl, rfl⟩
  clear hcc hW1
  go_wp2_with fail
  refine wp_region_tail 7 mixed (by kernel_rfl) ?_
  simp only [List.take_succ_cons, List.take_zero, List.drop_succ_cons, List.drop_zero]
  repeat still_step
  refine wpStill_nil ?_
  go_wp2_with fail
  go_ret
  exact ⟨rfl, HF.out, HR.out⟩

end Go.Proofs.YtnajkjgjeiodmaaGreatDoor.Pp
