/-
  CONTRACT OF lineidx.Index.Off. Conditions: the text has fewer than 2^30 bytes.
-/
import Derived.Test.YtnajkjgjeiodmaaIdx2
namespace Go.Proofs.Ytnajkjgjeiodmaa
open Go.RowKit
open Go.Proofs (Try.prog)

set_option maxRecDepth 100000 in
set_option maxHeartbeats 800000 in
theorem idxOff_no1 (w : World) (x : Nat) (fp : List Nat) (t : List UInt8) (h : Idx w x fp t) (l c : Int) (hk : ¬ (0 ≤ l ∧ l < (nl t + 1 : Nat))) :
    Calls Try.prog 18 #[.pointer (some ⟨x, 0, none⟩), .agg #[.int .i64 l, .int .i64 c]] w fun e w' => e = .returned (.tuple #[.int .i64 0, .bool false]) ∧ Frm [] w w' := by
  have hf : Frm [] w (w.alloc (.cells #[.int .i64 l, .int .i64 c] 23)) := (Frm.refl [] w).alloc _
  have hc := idxSize_no _ x fp t (h.frm hf (by simp)) l hk
  have HF := Lib.hid hf
  clear h hk hf
  go_enter Try.func18, Try.ntmps18
  go_wp2_with fail
  refine hc.mono ?_
  rintro e w' ⟨rfl, rfl⟩
  clear hc
  go_wp2_with fail
  go_ret2
  exact ⟨rfl, HF.out⟩

set_option maxRecDepth 100000 in
set_option maxHeartbeats 800000 in
theorem idxOff_no2 (w : World) (x : Nat) (fp : List Nat) (t : List UInt8) (h : Idx w x fp t) (ht : t.length ≤ 1073741824) (k : Nat) (s e' c : Int) (hk : k < nl t + 1) (hs : (bnd t)[k]? = some s) (he : (bnd t)[k + 1]? = some e') (hc : ¬ (0 ≤ c ∧ c ≤ e' - 1 - s)) :
    Calls Try.prog 18 #[.pointer (some ⟨x, 0, none⟩), .agg #[.int .i64 k, .int .i64 c]] w fun e w' => e = .returned (.tuple #[.int .i64 0, .bool false]) ∧ Frm [] w w' := by
  have hf : Frm [] w (w.alloc (.cells #[.int .i64 k, .int .i64 c] 23)) := (Frm.refl [] w).alloc _
  have hc1 := idxSize_yes _ x fp t (h.frm hf (by simp)) ht k s e' hk hs he
  have HF := Lib.hid hf
  clear h hk hf hs he ht
  by_cases h0 : 0 ≤ c
  · have h1 : e' - 1 - s < c := by omega
    clear hc
    go_enter Try.func18, Try.ntmps18
    go_wp2_with fail
    refine hc1.mono ?_
    rintro e w' ⟨rfl, rfl⟩
    clear hc1
    go_wp2_with fail
    go_ret2
    exact ⟨rfl, HF.out⟩
  · clear hc
    go_enter Try.func18, Try.ntmps18
    go_wp2_with fail
    refine hc1.mono ?_
    rintro e w' ⟨rfl, rfl⟩
    clear hc1
    go_wp2_with fail
    go_ret2
    exact ⟨rfl, HF.out⟩

set_option maxRecDepth 100000 in
set_option maxHeartbeats 800000 in
theorem idxOff_yes (w : World) (x : Nat) (fp : List Nat) (t : List UInt8) (h : Idx w x fp t) (ht : t.length ≤ 1073741824) (k : Nat) (s e' c : Int) (hk : k < nl t + 1) (hs : (bnd t)[k]? = some s) (he : (bnd t)[k + 1]? = some e') (h0 : 0 ≤ c) (h1 : c ≤ e' - 1 - s) :
    Calls Try.prog 18 #[.pointer (some ⟨x, 0, none⟩), .agg #[.int .i64 k, .int .i64 c]] w fun e w' => e = .returned (.tuple #[.int .i64 (s + c), .bool true]) ∧ Frm [] w w' := by
  have hf : Frm [] w (w.alloc (.cells #[.int .i64 k, .int .i64 c] 23)) := (Frm.refl [] w).alloc _
  have hx := h.frm hf (by simp)
  have hxl : x < w.heap.size := h.lt x (by obtain ⟨_, _, _, _, rfl⟩ := h; simp)
  have hc1 := idxSize_yes _ x fp t hx ht k s e' hk hs he
  obtain ⟨p, fv, g0, g1, hv⟩ := hx.open
  rw [bnd_start t k hk] at hs
  have hr := starts_range t s (List.mem_of_getElem? hs)
  have hee : e' ≤ t.length + 1 := by
    have := List.mem_of_getElem? he
    rw [bnd] at this
    rcases List.mem_append.1 this with h | h
    · have := starts_range t e' h; omega
    · simp at h; omega
  have hc2 := fun nq => vecAtI_yes ((w.alloc (.cells #[.int .i64 k, .int .i64 c] 23)).drewN nq) p fv (starts t) k s hv hs
  have HF := Lib.hid hf
  clear h hk hf hs he hv hx
  go_enter Try.func18, Try.ntmps18
  go_wp2_with fail
  refine hc1.mono ?_
  rintro e w' ⟨rfl, rfl⟩
  clear hc1
  go_wp2_with fail
  go_quiet ((go_at_call 36; exact Calls.quiet_of_same ((hc2 _).mono (fun e w' h => ⟨h.1, h.2.symm⟩))))
  clear hc2
  go_wp2_with fail
  go_ret2
  exact ⟨rfl, HF.out.drewN _⟩

end Go.Proofs.Ytnajkjgjeiodmaa
