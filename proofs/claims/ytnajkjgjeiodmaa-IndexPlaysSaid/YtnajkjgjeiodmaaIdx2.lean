/-
  CONTRACTS OF lineidx.Index: Start, Size, At, Off. Conditions: the text has fewer than 2^30 bytes.
-/
import Derived.Test.YtnajkjgjeiodmaaIdx
namespace Go.Proofs.Ytnajkjgjeiodmaa
open Go.RowKit
open Go.Proofs (Try.prog)

/-! ### Start -/
set_option maxHeartbeats 400000 in
theorem idxStart_yes (w : World) (x : Nat) (fp : List Nat) (t : List UInt8) (h : Idx w x fp t) (k : Nat) (s : Int) (hs : (starts t)[k]? = some s) :
    Calls Try.prog 16 #[.pointer (some ⟨x, 0, none⟩), .int .i64 k] w fun e w' => e = .returned (.tuple #[.int .i64 s, .bool true]) ∧ w = w' := by
  obtain ⟨p, fv, h0, h1, hv⟩ := h.open
  have hc := vecAtI_yes w p fv (starts t) k s hv hs
  clear h hv hs
  go_enter Try.func16, Try.ntmps16
  go_wp2_with (go_at_call 36; refine hc.mono ?_; rintro e w' ⟨rfl, rfl⟩)
  go_ret2
  exact ⟨rfl, rfl⟩
set_option maxHeartbeats 400000 in
theorem idxStart_no (w : World) (x : Nat) (fp : List Nat) (t : List UInt8) (h : Idx w x fp t) (k : Int) (hk : ¬ (0 ≤ k ∧ k < (nl t + 1 : Nat))) :
    Calls Try.prog 16 #[.pointer (some ⟨x, 0, none⟩), .int .i64 k] w fun e w' => e = .returned (.tuple #[.int .i64 0, .bool false]) ∧ w = w' := by
  obtain ⟨p, fv, h0, h1, hv⟩ := h.open
  have hc := vecAtI_no w p fv (starts t) k hv (by rw [starts_length]; exact hk)
  clear h hv hk
  go_enter Try.func16, Try.ntmps16
  go_wp2_with (go_at_call 36; refine hc.mono ?_; rintro e w' ⟨rfl, rfl⟩)
  go_ret2
  exact ⟨rfl, rfl⟩

/-! ### Size -/
theorem wrap_sub {a b : Int} (h0 : 0 ≤ a) (h1 : a ≤ 4611686018427387904) (h2 : 0 ≤ b) (h3 : b ≤ 4611686018427387904) : IntKind.i64.wrap (a - b) = a - b := by rw [IntKind.wrap_i64]; omega
set_option maxRecDepth 100000 in
set_option maxHeartbeats 800000 in
theorem idxSize_yes (w : World) (x : Nat) (fp : List Nat) (t : List UInt8) (h : Idx w x fp t) (ht : t.length ≤ 1073741824) (k : Nat) (s e' : Int) (hk : k < nl t + 1) (hs : (bnd t)[k]? = some s) (he : (bnd t)[k + 1]? = some e') :
    Calls Try.prog 17 #[.pointer (some ⟨x, 0, none⟩), .int .i64 k] w fun e w' => e = .returned (.tuple #[.int .i64 (e' - 1 - s), .bool true]) ∧ w = w' := by
  obtain ⟨p, fv, h0, h1, hv⟩ := h.open
  rw [bnd_start t k hk] at hs
  have hr := starts_range t s (List.mem_of_getElem? hs)
  have hc := vecAtI_yes w p fv (starts t) k s hv hs
  by_cases hl : k + 1 < nl t + 1
  · rw [bnd_start t (k + 1) hl] at he
    have hr2 := starts_range t e' (List.mem_of_getElem? he)
    have hc2 := vecAtI_yes w p fv (starts t) (k + 1) e' hv he
    have hnl := nl_le t
    have hkb : (k : Int) + 1 = ((k + 1 : Nat) : Int) := by omega
    have HKB := Lib.hid hkb
    clear h hv hs he hkb
    go_enter Try.func17, Try.ntmps17
    go_wp2_with fail
    refine hc.mono ?_
    rintro e w' ⟨rfl, rfl⟩
    clear hc
    go_wp2_with fail
    rw [HKB.out]
    refine hc2.mono ?_
    rintro e w' ⟨rfl, rfl⟩
    clear hc2
    go_wp2_with fail
    go_ret2
    exact ⟨rfl, rfl⟩
  · obtain rfl : k = nl t := by omega
    rw [bnd_last] at he
    obtain rfl : (t.length : Int) + 1 = e' := by simpa using he
    have hc2 := vecAtI_no w p fv (starts t) ((nl t : Int) + 1) hv (by rw [starts_length]; omega)
    have hnl := nl_le t
    clear h hv hs he
    generalize nl t = N at *
    generalize t.length = T at *
    go_enter Try.func17, Try.ntmps17
    go_wp2_with fail
    refine hc.mono ?_
    rintro e w' ⟨rfl, rfl⟩
    clear hc
    go_wp2_with fail
    refine hc2.mono ?_
    rintro e w' ⟨rfl, rfl⟩
    clear hc2
    go_wp2_with fail
    go_ret2
    exact ⟨by simp, rfl⟩
set_option maxHeartbeats 400000 in
theorem idxSize_no (w : World) (x : Nat) (fp : List Nat) (t : List UInt8) (h : Idx w x fp t) (k : Int) (hk : ¬ (0 ≤ k ∧ k < (nl t + 1 : Nat))) :
    Calls Try.prog 17 #[.pointer (some ⟨x, 0, none⟩), .int .i64 k] w fun e w' => e = .returned (.tuple #[.int .i64 0, .bool false]) ∧ w = w' := by
  obtain ⟨p, fv, h0, h1, hv⟩ := h.open
  have hc := vecAtI_no w p fv (starts t) k hv (by rw [starts_length]; exact hk)
  clear h hv hk
  go_enter Try.func17, Try.ntmps17
  go_wp2_with (go_at_call 36; refine hc.mono ?_; rintro e w' ⟨rfl, rfl⟩)
  go_ret2
  exact ⟨rfl, rfl⟩

/-! ### At -/
theorem idx_drew {w : World} {x : Nat} {fp : List Nat} {t : List UInt8} (h : Idx w x fp t) : Idx w.drew x fp t := h
set_option maxRecDepth 100000 in
set_option maxHeartbeats 800000 in
theorem idxAt_yes (w : World) (x : Nat) (fp : List Nat) (t : List UInt8) (h : Idx w x fp t) (ht : t.length ≤ 1073741824) (off : Nat) (ho : off ≤ t.length) (s : Int) (hs : (starts t)[nl (t.take off)]? = some s) :
    Calls Try.prog 19 #[.pointer (some ⟨x, 0, none⟩), .int .i64 off] w fun e w' => e = .returned (.tuple #[.agg #[.int .i64 (nl (t.take off) : Nat), .int .i64 (off - s)], .bool true]) ∧ Frm [] w w' := by
  have hx := h.frm ((Frm.refl [] w).alloc (.cells #[.int .i64 0, .int .i64 0] 23)) (by simp)
  have hxl : x < w.heap.size := h.lt x (by obtain ⟨_, _, _, _, rfl⟩ := h; simp)
  obtain ⟨p, fv, h0, h1, hv⟩ := hx.open
  have hr := starts_range t s (List.mem_of_getElem? hs)
  have hl := idxLine _ x fp t off hx ho ht
  have hc := vecAtI_yes _ p fv (starts t) _ s hv hs
  have hf : Frm [] w (w.alloc (.cells #[.int .i64 (nl (t.take off) : Nat), .int .i64 (off - s)] 23)) := (Frm.refl [] w).alloc _
  have HF := Lib.hid hf
  clear h hx hv hs hf
  generalize nl (t.take off) = L at *
  go_enter Try.func19, Try.ntmps19
  go_wp2_with fail
  refine hl.mono ?_
  rintro e w' ⟨rfl, rfl⟩
  clear hl
  go_wp2_with fail
  refine hc.mono ?_
  rintro e w' ⟨rfl, rfl⟩
  clear hc
  go_wp2_with fail
  exact bodyPost_ret (v := .tuple #[.agg #[.int .i64 L, .int .i64 (off - s)], .bool true]) (by simp [results, Try.results19, go_sem]) rfl ⟨rfl, HF.out⟩
set_option maxRecDepth 100000 in
set_option maxHeartbeats 800000 in
theorem idxAt_no (w : World) (x : Nat) (fp : List Nat) (t : List UInt8) (h : Idx w x fp t) (off : Int) (ho : ¬ (0 ≤ off ∧ off ≤ t.length)) :
    Calls Try.prog 19 #[.pointer (some ⟨x, 0, none⟩), .int .i64 off] w fun e w' => e = .returned (.tuple #[.agg #[.int .i64 0, .int .i64 0], .bool false]) ∧ Frm [] w w' := by
  have hxl : x < w.heap.size := h.lt x (by obtain ⟨_, _, _, _, rfl⟩ := h; simp)
  have hx := h.frm ((Frm.refl [] w).alloc (.cells #[.int .i64 0, .int .i64 0] 23)) (by simp)
  obtain ⟨p, fv, h0, h1, hv⟩ := hx.open
  have hf : Frm [] w (w.alloc (.cells #[.int .i64 0, .int .i64 0] 23)) := (Frm.refl [] w).alloc _
  have HF := Lib.hid hf
  clear h hx hv hf
  generalize t.length = T at *
  by_cases h2 : 0 ≤ off
  · have h3 : (T : Int) < off := by omega
    clear ho
    go_enter Try.func19, Try.ntmps19
    go_wp2_with fail
    exact bodyPost_ret (v := .tuple #[.agg #[.int .i64 0, .int .i64 0], .bool false]) (by simp [results, Try.results19, go_sem]) rfl ⟨rfl, HF.out⟩
  · clear ho
    go_enter Try.func19, Try.ntmps19
    go_wp2_with fail
    exact bodyPost_ret (v := .tuple #[.agg #[.int .i64 0, .int .i64 0], .bool false]) (by simp [results, Try.results19, go_sem]) rfl ⟨rfl, HF.out⟩

end Go.Proofs.Ytnajkjgjeiodmaa
