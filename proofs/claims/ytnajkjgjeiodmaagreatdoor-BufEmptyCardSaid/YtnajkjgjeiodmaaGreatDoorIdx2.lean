/-
  CONTRACTS OF lineidx.Index: Start, Size, At, Off. Conditions: the text has fewer than 2^30 bytes.
-/
import Derived.Test.YtnajkjgjeiodmaaGreatDoorIdx
namespace Go.Proofs.YtnajkjgjeiodmaaGreatDoor
open Go.RowKit
open Go.Proofs (Tryz.prog)

/-! ### Start -/
set_option maxHeartbeats 400000 in
theorem idxStart_yes (w : World) (x : Nat) (fp : List Nat) (t : List UInt8) (h : Idx w x fp t) (k : Nat) (s : Int) (hs : (starts t)[k]? = some s) :
    Calls Tryz.prog 31 #[.pointer (some ⟨x, 0, none⟩), .int .i64 k] w fun e w' => e = .returned (.tuple #[.int .i64 s, .bool true]) ∧ w = w' := by
  obtain ⟨p, fv, h0, h1, hv⟩ := h.open
  have hc := vecAtI_yes w p fv (starts t) k s hv hs
  clear h hv hs
  go_enter Tryz.func31, Tryz.ntmps31
  go_wp2_with (go_at_call 53; refine hc.mono ?_; rintro e w' ⟨rfl, rfl⟩)
  go_ret2
  exact ⟨rfl, rfl⟩
set_option maxHeartbeats 400000 in
theorem idxStart_no (w : World) (x : Nat) (fp : List Nat) (t : List UInt8) (h : Idx w x fp t) (k : Int) (hk : ¬ (0 ≤ k ∧ k < (nl t + 1 : Nat))) :
    Calls Tryz.prog 31 #[.pointer (some ⟨x, 0, none⟩), .int .i64 k] w fun e w' => e = .returned (.tuple #[.int .i64 0, .bool false]) ∧ w = w' := by
  obtain ⟨p, fv, h0, h1, hv⟩ := h.open
  have hc := vecAtI_no w p fv (starts t) k hv (by rw [starts_length]; exact hk)
  clear h hv hk
  go_enter Tryz.func31, Tryz.ntmps31
  go_wp2_with (go_at_call 53; refine hc.mono ?_; rintro e w' ⟨rfl, rfl⟩)
  go_ret2
  exact ⟨rfl, rfl⟩

/-! ### Size -/
theorem wrap_sub {a b : Int} (h0 : 0 ≤ a) (h1 : a ≤ 4611686018427387904) (h2 : 0 ≤ b) (h3 : b ≤ 4611686018427387904) : IntKind.i64.wrap (a - b) = a - b := by rw [IntKind.wrap_i64]; omega
set_option maxRecDepth 100000 in
set_option maxHeartbeats 800000 in
theorem idxSize_yes (w : World) (x : Nat) (fp : List Nat) (t : List UInt8) (h : Idx w x fp t) (ht : t.length ≤ 1073741824) (k : Nat) (s e' : Int) (hk : k < nl t + 1) (hs : (bnd t)[k]? = some s) (he : (bnd t)[k + 1]? = some e') :
    Calls Tryz.prog 37 #[.pointer (some ⟨x, 0, none⟩), .int .i64 k] w fun e w' => e = .returned (.tuple #[.int .i64 (e' - 1 - s), .bool true]) ∧ w = w' := by
  obtain ⟨p, fv, h0, h1, hv⟩ := h.open
  rw [bnd_start t k hk] at hs
  have hr := starts_range t s (List.mem_of_getElem? hs)
  have hc := vecAtI_yes w p fv (starts t) k s hv hs
  by_cases hl : k + 1 < nl t + 1
  · rw [bnd_start t (k + 1) hl] at he
    have hr2 := starts_range t e' (List.mem_of_getElem? he)
    have hc2 := vecAtI_yes w p fv (starts t) (k + 1) e' hv he
    have hnl := nl_le t
    have hkb : (k : Int) + 1 = ((k + 1 : Nat) : Int) := by omega
    have HKB := Lib.hid hkb
    clear h hv hs he hkb
    go_enter Tryz.func37, Tryz.ntmps37
    go_wp2_with fail
    refine hc.mono ?_
    rintro e w' ⟨rfl, rfl⟩
    clear hc
    go_wp2_with fail
    rw [HKB.out]
    refine hc2.mono ?_
    rintro e w' ⟨rfl, rfl⟩
    clear hc2
    go_wp2_with fail
    go_ret2
    exact ⟨rfl, rfl⟩
  · obtain rfl : k = nl t := by omega
    rw [bnd_last] at he
    obtain rfl : (t.length : Int) + 1 = e' := by simpa using he
    have hc2 := vecAtI_no w p fv (starts t) ((nl t : Int) + 1) hv (by rw [starts_length]; omega)
    have hnl := nl_le t
    clear h hv hs he
    generalize nl t = N at *
    generalize t.length = T at *
    go_enter Tryz.func37, Tryz.ntmps37
    go_wp2_with fail
    refine hc.mono ?_
    rintro e w' ⟨rfl, rfl⟩
    clear hc
    go_wp2_with fail
    refine hc2.mono ?_
    rintro e w' ⟨rfl, rfl⟩
    clear hc2
    go_wp2_with fail
    go_ret2
    exact ⟨by simp, rfl⟩
set_option maxHeartbeats 400000 in
theorem idxSize_no (w : World) (x : Nat) (fp : List Nat) (t : List UInt8) (h : Idx w x fp t) (k : Int) (hk : ¬ (0 ≤ k ∧ k < (nl t + 1 : Nat))) :
    Calls Tryz.prog 37 #[.pointer (some ⟨x, 0, none⟩), .int .i64 k] w fun e w' => e = .returned (.tuple #[.int .i64 0, .bool false]) ∧ w = w' := by
  obtain ⟨p, fv, h0, h1, hv⟩ := h.open
  have hc := vecAtI_no w p fv (starts t) k hv (by rw [starts_length]; exact hk)
  clear h hv hk
  go_enter Tryz.func37, Tryz.ntmps37
  go_wp2_with (go_at_call 53; refine hc.mono ?_; rintro e w' ⟨rfl, rfl⟩)
  go_ret2
  exact ⟨rfl, rfl⟩

end Go.Proofs.YtnajkjgjeiodmaaGreatDoor
