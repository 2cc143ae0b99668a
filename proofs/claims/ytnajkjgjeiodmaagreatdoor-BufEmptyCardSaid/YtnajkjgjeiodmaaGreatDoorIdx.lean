/-
  CONTRACTS OF lineidx.Index: what reads it. Conditions: the text has fewer than 2^30 bytes.
-/
import Derived.Test.YtnajkjgjeiodmaaGreatDoorAllI
import Derived.Test.YtnajkjgjeiodmaaGreatDoorBase2
import Derived.Test.YtnajkjgjeiodmaaGreatDoorBpl
namespace Go.Proofs.YtnajkjgjeiodmaaGreatDoor
open Go.RowKit
open Go.Proofs (Tryz.prog)

/-- At x lies an Index of the text t; fp: the blocks that it owns. -/
def Idx (w : World) (x : Nat) (fp : List Nat) (t : List UInt8) : Prop :=
  ∃ p fv, w.heap[x]? = some (.cells #[.pointer (some ⟨p, 0, none⟩), .int .i64 t.length] 94 (0, 0)) ∧ VecI w p fv (starts t) ∧ fp = x :: fv

theorem Idx.frm {w w' : World} {x : Nat} {fp S : List Nat} {t : List UInt8} (h : Idx w x fp t) (hf : Frm S w w') (hd : ∀ b ∈ fp, b ∉ S) : Idx w' x fp t := by
  obtain ⟨p, fv, hx, hv, rfl⟩ := h
  exact ⟨p, fv, hf.heap hx (hd _ (by simp)), hv.frm hf (fun b hb => hd b (by simp [hb])), rfl⟩
theorem Idx.ext {w w' : World} {x base : Nat} {fp : List Nat} {t : List UInt8} (h : Idx w x fp t) (hf : Ext base w w') : Idx w' x fp t := by
  obtain ⟨p, fv, hx, hv, rfl⟩ := h
  exact ⟨p, fv, hf.cells hx, hv.ext hf, rfl⟩
theorem Idx.lt {w : World} {x : Nat} {fp : List Nat} {t : List UInt8} (h : Idx w x fp t) : ∀ b ∈ fp, b < w.heap.size := by
  obtain ⟨p, fv, hx, hv, rfl⟩ := h
  intro b hb
  rcases List.mem_cons.1 hb with rfl | hb
  · exact lt_of_heap hx
  · exact hv.lt b hb
theorem VecI.not_mem {w : World} {p x : Nat} {fv : List Nat} {xs : List Int} (hv : VecI w p fv xs) {c : Array Value} {t : TypeId} {fz : Nat × Nat} (hx : w.heap[x]? = some (.cells c t fz)) (h1 : t ≠ 116) (h2 : t ≠ 3) : x ∉ fv := by
  obtain ⟨v, hp, hr, rfl⟩ := hv
  intro hm
  rcases List.mem_cons.1 hm with rfl | hm
  · rw [hp] at hx
    simp at hx
    exact h1 hx.2.1.symm
  · exact ownsRow_type hr hx h2 (by simpa using hm)
theorem Idx.open {w : World} {x : Nat} {fp : List Nat} {t : List UInt8} (h : Idx w x fp t) : ∃ p fv, w.cell? ⟨x, 0, none⟩ = some (.pointer (some ⟨p, 0, none⟩)) ∧ w.cell? ⟨x, 1, none⟩ = some (.int .i64 t.length) ∧ VecI w p fv (starts t) := by
  obtain ⟨p, fv, hx, hv, rfl⟩ := h
  exact ⟨p, fv, cell_of_heap hx rfl, cell_of_heap hx rfl, hv⟩

/-! ### Lines, Len -/
set_option maxHeartbeats 400000 in
theorem idxLines (w : World) (x : Nat) (fp : List Nat) (t : List UInt8) (h : Idx w x fp t) :
    Calls Tryz.prog 39 #[.pointer (some ⟨x, 0, none⟩)] w fun e w' => e = .returned (.int .i64 (nl t + 1 : Nat)) ∧ w = w' := by
  obtain ⟨p, fv, h0, h1, hv⟩ := h.open
  have hc := vecLenI w p fv (starts t) hv
  rw [starts_length] at hc
  clear h hv
  go_enter Tryz.func39, Tryz.ntmps39
  go_wp2_with (go_at_call 63; refine hc.mono ?_; rintro e w' ⟨rfl, rfl⟩)
  go_ret
  exact ⟨by simp, rfl⟩

set_option maxHeartbeats 400000 in
theorem idxLen (w : World) (x : Nat) (fp : List Nat) (t : List UInt8) (h : Idx w x fp t) :
    Calls Tryz.prog 32 #[.pointer (some ⟨x, 0, none⟩)] w fun e w' => e = .returned (.int .i64 t.length) ∧ w = w' := by
  obtain ⟨p, fv, h0, h1, hv⟩ := h.open
  clear h hv
  go_enter Tryz.func32, Tryz.ntmps32
  go_wp2
  go_ret
  exact ⟨rfl, rfl⟩

/-! ### line: the search -/
set_option maxRecDepth 100000 in
set_option maxHeartbeats 1000000 in
theorem idxLine (w : World) (x : Nat) (fp : List Nat) (t : List UInt8) (off : Nat) (h : Idx w x fp t) (ho : off ≤ t.length) (ht : t.length ≤ 1073741824) :
    Calls Tryz.prog 72 #[.pointer (some ⟨x, 0, none⟩), .int .i64 off] w fun e w' => e = .returned (.int .i64 (nl (t.take off) : Nat)) ∧ w = w' := by
  obtain ⟨p, fv, h0, h1, hv⟩ := h.open
  have hlen := vecLenI w p fv (starts t) hv
  have hat := fun i z hz => vecAtI_yes w p fv (starts t) i z hv hz
  have hsl := starts_le t off ho
  have hL := nl_take_total t off
  have hnl := nl_le t
  have hget : ∀ j, j < nl t + 1 → ∃ z, (starts t)[j]? = some z ∧ (z ≤ (off : Int) ↔ j ≤ nl (t.take off)) := fun j hj => by
    have : j < (starts t).length := by rw [starts_length]; exact hj
    exact ⟨_, List.getElem?_eq_getElem this, hsl j _ (List.getElem?_eq_getElem this)⟩
  rw [starts_length] at hlen
  have HAT := Lib.hid hat
  have HGET := Lib.hid hget
  have HV := Lib.hid hv
  clear h hsl hat hget hv ho
  generalize nl (t.take off) = L at *
  generalize nl t = N at *
  go_enter Tryz.func72, Tryz.ntmps72
  go_wp2_with (go_at_call 63; refine hlen.mono ?_; rintro e w' ⟨rfl, rfl⟩)
  clear hlen
  go_loop [5, 6] (fun lo hi => ∃ l h : Nat, lo = .int .i64 l ∧ hi = .int .i64 h ∧ l ≤ L ∧ L < h ∧ h ≤ N + 1) (fun lo hi => (intOf hi - intOf lo).toNat)
  case atStart => exact ⟨0, N + 1, rfl, by simp, Nat.zero_le _, by omega, Nat.le_refl _⟩
  case round =>
    obtain ⟨l, h, rfl, rfl, hl, hh, hn⟩ := hrel
    by_cases hlt : l + 1 < h
    · obtain ⟨m, hm⟩ : ∃ m, m = l + (h - l) / 2 := ⟨_, rfl⟩
      have hm1 : l < m := by omega
      have hm2 : m < h := by omega
      obtain ⟨z, hz, hzo⟩ := HGET.out m (by omega)
      have hcall := HAT.out m z hz
      have hmi : (l : Int) + ((h : Int) - (l : Int)) / 2 = (m : Int) := by omega
      have HM := Lib.hid hm
      have HMI := Lib.hid hmi
      clear hm hz hmi
      by_cases hzl : z ≤ (off : Int)
      · have hmL := hzo.1 hzl
        clear hzo
        go_wp2_with fail
        rw [HMI.out]
        refine hcall.mono ?_
        rintro e w' ⟨rfl, rfl⟩
        go_wp2_with fail
        go_round
        case rel => exact ⟨m, h, rfl, rfl, hmL, hh, hn⟩
        case measure => simp [intOf]; omega
      · have hmL : L < m := by
          rcases Nat.lt_or_ge L m with h | h
          · exact h
          · exact absurd (hzo.2 h) hzl
        clear hzo
        go_wp2_with fail
        rw [HMI.out]
        refine hcall.mono ?_
        rintro e w' ⟨rfl, rfl⟩
        go_wp2_with fail
        go_round
        case rel => exact ⟨l, m, rfl, rfl, hl, hmL, by omega⟩
        case measure => simp [intOf]; omega
    · obtain rfl : l = L := by omega
      go_wp2
      go_ret
      exact ⟨rfl, rfl⟩

end Go.Proofs.YtnajkjgjeiodmaaGreatDoor
