/-
  CONTRACTS OF foolscaphelp.Light, Text; the law's broken. Conditions: each text has at most 2^47 bytes.
-/
import Derived.Test.YtnajkjgjeiodmaaGreatDoorSs
namespace Go.Proofs.YtnajkjgjeiodmaaGreatDoor
open Go.RowKit
open Go.Proofs (Tryz.prog)

theorem sizeL_take_succ {L : List (List UInt8)} {k : Nat} {l : List UInt8} (h : L[k]? = some l) : sizeL (L.take (k + 1)) = sizeL (L.take k) + (l.length + 1) := by
  have := pos_succ h
  unfold pos at this
  show (joinT _).length = (joinT _).length + _
  omega
theorem sizeL_take_le (L : List (List UInt8)) (k : Nat) : sizeL (L.take k) ≤ sizeL L := by
  conv => rhs; rw [← List.take_append_drop k L, sizeL_append]
  omega

set_option maxRecDepth 100000 in
set_option maxHeartbeats 1600000 in
theorem tbSize (w : World) (v : Value) (L : List (List UInt8)) (hv : RdL w v L) (hs : sizeL L ≤ 4611686018427387904) (hl : L.length ≤ 4611686018427387904) :
    Calls Tryz.prog 26 #[v] w fun e w' => e = .returned (.int .i64 (sizeL L : Nat)) ∧ w' = w := by
  obtain ⟨va, vc, rfl⟩ := hv.form
  have HV := Lib.hid hv
  have HS := Lib.hid hs
  clear hv hs
  generalize hn : L.length = n at *
  have HN := Lib.hid hn
  clear hn
  go_enter Tryz.func26, Tryz.ntmps26
  go_wp2_with fail
  go_loopw [3, 5, 8] (fun t _ i wr => ∃ k : Nat, k ≤ n ∧ i = .int .i64 (k : Int) ∧ t = .int .i64 (sizeL (L.take k) : Nat) ∧ wr = w) (fun _ _ i _ => n - (intOf i).toNat)
  case atStart => exact ⟨0, by omega, rfl, by simp [sizeL, joinT_nil], rfl⟩
  case round =>
    obtain ⟨k, hk, rfl, rfl, rfl⟩ := hrel
    by_cases hlt : k < n
    · obtain ⟨s, hs⟩ : ∃ s, L[k]? = some s := ⟨L[k]'(by rw [HN.out]; exact hlt), List.getElem?_eq_getElem _⟩
      have h1 := HV.out
      have hsz := sizeL_take_succ hs
      have hle := sizeL_take_le L (k + 1)
      have hle2 := HS.out
      rw [← HN.out] at h1
      obtain ⟨b1, o1, c1, e1, k1⟩ := h1.at hs
      obtain ⟨rfl, -, rfl⟩ : va = some ⟨b1, o1, none⟩ ∧ True ∧ vc = c1 := by simpa using e1
      unfold strV at k1
      have hbs : (⟨s.toArray⟩ : ByteArray).size = s.length := rfl
      clear h1 e1 hs
      generalize (⟨s.toArray⟩ : ByteArray) = bs at *
      generalize sizeL (L.take k) = z at *
      generalize hz' : sizeL (L.take (k + 1)) = z' at *
      have HZ := Lib.hid hz'
      clear hz'
      go_wp2_with fail
      go_roundw
      case rel => exact ⟨k + 1, by omega, by go_num, by rw [HZ.out]; go_num, by trivial⟩
      case measure => simp [intOf]; omega
    · obtain rfl : k = n := by omega
      have hall : sizeL (L.take k) = sizeL L := by rw [← HN.out, List.take_length]
      rw [hall]
      go_wp2_with fail
      go_ret
      exact ⟨rfl, rfl⟩

set_option maxRecDepth 100000 in
set_option maxHeartbeats 1600000 in
theorem refSize (w : World) (v : Value) (L : List (List UInt8)) (hv : RdL w v L) (hs : sizeL L ≤ 4611686018427387904) (hl : L.length ≤ 4611686018427387904) :
    Calls Tryz.prog 11 #[v] w fun e w' => e = .returned (.int .i64 (sizeL L : Nat)) ∧ w' = w := by
  obtain ⟨va, vc, rfl⟩ := hv.form
  have HV := Lib.hid hv
  have HS := Lib.hid hs
  clear hv hs
  generalize hn : L.length = n at *
  have HN := Lib.hid hn
  clear hn
  go_enter Tryz.func11, Tryz.ntmps11
  go_wp2_with fail
  go_loopw [3, 4] (fun t i wr => ∃ k : Nat, k ≤ n ∧ i = .int .i64 (k : Int) ∧ t = .int .i64 (sizeL (L.take k) : Nat) ∧ wr = w) (fun _ i _ => n - (intOf i).toNat)
  case atStart => exact ⟨0, by omega, rfl, by simp [sizeL, joinT_nil], rfl⟩
  case round =>
    obtain ⟨k, hk, rfl, rfl, rfl⟩ := hrel
    by_cases hlt : k < n
    · obtain ⟨s, hs⟩ : ∃ s, L[k]? = some s := ⟨L[k]'(by rw [HN.out]; exact hlt), List.getElem?_eq_getElem _⟩
      have h1 := HV.out
      have hsz := sizeL_take_succ hs
      have hle := sizeL_take_le L (k + 1)
      have hle2 := HS.out
      rw [← HN.out] at h1
      obtain ⟨b1, o1, c1, e1, k1⟩ := h1.at hs
      obtain ⟨rfl, -, rfl⟩ : va = some ⟨b1, o1, none⟩ ∧ True ∧ vc = c1 := by simpa using e1
      unfold strV at k1
      have hbs : (⟨s.toArray⟩ : ByteArray).size = s.length := rfl
      clear h1 e1 hs
      generalize (⟨s.toArray⟩ : ByteArray) = bs at *
      generalize sizeL (L.take k) = z at *
      generalize hz' : sizeL (L.take (k + 1)) = z' at *
      have HZ := Lib.hid hz'
      clear hz'
      go_wp2_with fail
      go_roundw
      case rel => exact ⟨k + 1, by omega, by go_num, by rw [HZ.out]; go_num, by trivial⟩
      case measure => simp [intOf]; omega
    · obtain rfl : k = n := by omega
      have hall : sizeL (L.take k) = sizeL L := by rw [← HN.out, List.take_length]
      rw [hall]
      go_wp2_with fail
      go_ret
      exact ⟨rfl, rfl⟩

/-! ### Is there a line feed in a line? -/
instance (L : List (List UInt8)) : Decidable (Clean L) := inferInstanceAs (Decidable (∀ x ∈ L, (10 : UInt8) ∉ x))
set_option maxRecDepth 100000 in
set_option maxHeartbeats 1600000 in
theorem tbBroken1 (w : World) (l : List UInt8) : Calls Tryz.prog 43 #[strV l] w fun e w' => e = .returned (.bool (decide ((10 : UInt8) ∈ l))) ∧ w' = w := by
  have hc := strContains w l
  generalize strV l = sv at *
  generalize decide ((10 : UInt8) ∈ l) = d at *
  go_enter Tryz.func43, Tryz.ntmps43
  go_wp2_with fail
  refine hc.mono ?_
  rintro e w' ⟨rfl, rfl⟩
  clear hc
  go_wp2_with fail
  go_ret
  exact ⟨rfl, rfl⟩
set_option maxRecDepth 100000 in
set_option maxHeartbeats 1600000 in
theorem slIndexFunc (w : World) (v : Value) (L : List (List UInt8)) (hv : RdL w v L) (hl : L.length ≤ 4611686018427387904) :
    Calls Tryz.prog 65 #[v, .func (.func 43) #[] #[]] w fun e w' => (∃ i, e = .returned (.int .i64 i) ∧ (0 ≤ i ↔ ¬ Clean L)) ∧ w' = w := by
  obtain ⟨va, vc, rfl⟩ := hv.form
  have HV := Lib.hid hv
  clear hv
  generalize hn : L.length = n at *
  have HN := Lib.hid hn
  clear hn
  go_enter Tryz.func65, Tryz.ntmps65
  go_wp2_with fail
  go_loopw [5, 8] (fun _ i wr => ∃ k : Nat, k ≤ n ∧ i = .int .i64 (k : Int) ∧ Clean (L.take k) ∧ wr = w) (fun _ i _ => n - (intOf i).toNat)
  case atStart => exact ⟨0, by omega, rfl, by simp [Clean], rfl⟩
  case round =>
    obtain ⟨k, hk, rfl, hcl, rfl⟩ := hrel
    have HCL := Lib.hid hcl
    clear hcl
    by_cases hlt : k < n
    · obtain ⟨s, hs⟩ : ∃ s, L[k]? = some s := ⟨L[k]'(by rw [HN.out]; exact hlt), List.getElem?_eq_getElem _⟩
      have h1 := HV.out
      rw [← HN.out] at h1
      obtain ⟨b1, o1, c1, e1, k1⟩ := h1.at hs
      obtain ⟨rfl, -, rfl⟩ : va = some ⟨b1, o1, none⟩ ∧ True ∧ vc = c1 := by simpa using e1
      have hb := tbBroken1 wr s
      have HSS := Lib.hid hs
      clear h1 e1 hs
      generalize strV s = sv at *
      by_cases h10 : (10 : UInt8) ∈ s
      · rw [decide_eq_true h10] at hb
        have hnc : ¬ Clean L := fun hc => hc s (List.mem_of_getElem? HSS.out) h10
        have HNC := Lib.hid hnc
        clear hnc h10
        go_wp2_with fail
        refine hb.mono ?_
        rintro e w' ⟨rfl, rfl⟩
        clear hb
        go_wp2_with fail
        go_ret
        exact ⟨⟨_, rfl, by simp [HNC.out]⟩, rfl⟩
      · rw [decide_eq_false h10] at hb
        have hcl2 : Clean (L.take (k + 1)) := by
          rw [List.take_add_one, HSS.out]
          refine HCL.out.append fun x hx => ?_
          obtain rfl : x = s := by simpa using hx
          exact h10
        have HC2 := Lib.hid hcl2
        clear hcl2 h10
        go_wp2_with fail
        refine hb.mono ?_
        rintro e w' ⟨rfl, rfl⟩
        clear hb
        go_wp2_with fail
        go_roundw
        case rel => exact ⟨k + 1, by omega, by go_num, HC2.out, by trivial⟩
        case measure => simp [intOf]; omega
    · obtain rfl : k = n := by omega
      have hall : Clean L := by have := HCL.out; rwa [← HN.out, List.take_length] at this
      have HALL := Lib.hid hall
      clear hall
      go_wp2_with fail
      go_ret
      exact ⟨⟨_, rfl, by simp [HALL.out]⟩, rfl⟩
set_option maxRecDepth 100000 in
set_option maxHeartbeats 1600000 in
theorem tbBroken (w : World) (v : Value) (L : List (List UInt8)) (hv : RdL w v L) (hl : L.length ≤ 4611686018427387904) :
    Calls Tryz.prog 25 #[v] w fun e w' => e = .returned (.bool (decide (¬ Clean L))) ∧ w' = w := by
  have hi := slIndexFunc w v L hv hl
  obtain ⟨va, vc, rfl⟩ := hv.form
  clear hv
  have hcf : Calls Tryz.prog 42 #[.slice va L.length vc, .func (.func 43) #[] #[]] w fun e w' => e = .returned (.bool (decide (¬ Clean L))) ∧ w' = w := by
    generalize hn : L.length = n at *
    have HI := Lib.hid hi
    clear hn hi
    go_enter Tryz.func42, Tryz.ntmps42
    go_wp2_with fail
    refine HI.out.mono ?_
    rintro e w' ⟨⟨i, rfl, hi⟩, rfl⟩
    have HJ := Lib.hid hi
    clear hi
    go_wp2_with fail
    go_ret
    exact ⟨by simp [← HJ.out], rfl⟩
  clear hi
  generalize decide (¬ Clean L) = d at *
  generalize L.length = n at *
  go_enter Tryz.func25, Tryz.ntmps25
  go_wp2_with fail
  refine hcf.mono ?_
  rintro e w' ⟨rfl, rfl⟩
  clear hcf
  go_wp2_with fail
  go_ret
  exact ⟨rfl, rfl⟩

end Go.Proofs.YtnajkjgjeiodmaaGreatDoor

namespace Go.Proofs.YtnajkjgjeiodmaaGreatDoor
open Go.RowKit
open Go.Proofs (Tryz.prog)

/-- The lines of a text, the last line feed left out. -/
def splitT (T : List UInt8) : List (List UInt8) := if 1 < (cutL T).length ∧ (cutL T)[(cutL T).length - 1]? = some [] then (cutL T).take ((cutL T).length - 1) else cutL T

theorem RdL.cap {w : World} {b o n c : Nat} {C : List (List UInt8)} (h : RdL w (.slice (some ⟨b, o, none⟩) n c) C) : n = C.length ∧ (C ≠ [] → n ≤ c) := by
  rcases h with ⟨a2, c2, e, -, rfl⟩ | ⟨b2, o2, c2, e, h2, -⟩
  · injection e with _ e _
    exact ⟨e, fun h => absurd rfl h⟩
  · injection e with _ e1 e2
    exact ⟨e1, fun _ => by rw [e1, e2]; exact h2⟩
theorem RdL.take_hi {w : World} {b o n c : Nat} {C : List (List UInt8)} (h : RdL w (.slice (some ⟨b, o, none⟩) n c) C) {j : Nat} (hj : j ≤ C.length) : RdL w (.slice (some ⟨b, o, none⟩) j c) (C.take j) := by
  rcases h with ⟨a2, c2, e, -, rfl⟩ | ⟨b2, o2, c2, e, h2, h3, h4⟩
  · obtain rfl : j = 0 := by simpa using hj
    exact .inl ⟨_, _, rfl, fun h => (by cases h), rfl⟩
  · injection e with e0 e1 e2
    have e3 := Option.some.inj e0
    injection e3 with e4 e5
    subst e4 e5 e2
    refine .inr ⟨_, _, _, by rw [List.length_take, Nat.min_eq_left hj], by rw [List.length_take]; omega, h3, fun k l hl => h4 k l ?_⟩
    rw [List.getElem?_take] at hl
    split at hl
    · exact hl
    · cases hl

set_option maxRecDepth 100000 in
set_option maxHeartbeats 3200000 in
theorem tbSplit (w : World) (T : List UInt8) (hm : MaxLenIs w) (hl : T.length ≤ 1000000000) :
    Calls Tryz.prog 16 #[.string ⟨T.toArray⟩] w fun e w' => ∃ u, e = .returned u ∧ RdL w' u (splitT T) ∧ Frm [] w w' ∧ (∀ q, u.ownBlock = some q → w.heap.size ≤ q) := by
  have hs := strSplit w T hm hl
  have hne := cutL_ne T
  have hct := cutL_length T
  have hcl := List.count_le_length (a := (10 : UInt8)) (l := T)
  have hsp : splitT T = if 1 < (cutL T).length ∧ (cutL T)[(cutL T).length - 1]? = some [] then (cutL T).take ((cutL T).length - 1) else cutL T := rfl
  have hc1 : (cutL T).length ≤ 1000000001 := by omega
  generalize splitT T = S at *
  generalize (⟨T.toArray⟩ : ByteArray) = ts at *
  clear hct hcl
  generalize cutL T = C at *
  have hlp : 0 < C.length := List.length_pos_iff.2 hne
  obtain ⟨x, hx⟩ : ∃ x, C[C.length - 1]? = some x := ⟨C[C.length - 1], List.getElem?_eq_getElem _⟩
  have HSP := Lib.hid hsp
  have HX := Lib.hid hx
  clear hsp hx hne
  generalize hn : C.length = n at *
  have HN := Lib.hid hn
  clear hn
  go_enter Tryz.func16, Tryz.ntmps16
  go_wp2_with fail
  refine hs.mono ?_
  rintro e w1 ⟨⟨u, rfl, hrow⟩, hf⟩
  have hr : RdL w1 u C := rdL_row (by rw [HN.out]; exact hrow)
  have hown : ∀ q, u.ownBlock = some q → w.heap.size ≤ q := fun q hq => (hrow.lt q hq).1
  obtain ⟨ua, uc, rfl⟩ := hr.form
  rw [HN.out] at hr hown
  rw [HN.out]
  have hat := hr.at HX.out
  obtain ⟨b1, o1, c1, e1, k1⟩ := hat
  rw [HN.out] at e1
  obtain ⟨rfl, -, rfl⟩ : ua = some ⟨b1, o1, none⟩ ∧ True ∧ uc = c1 := by simpa using e1
  have hcut := hr.take_hi (j := n - 1) (by rw [HN.out]; omega)
  have hcc := hr.cap.2 (by intro e; have := HN.out; rw [e] at this; simp at this; omega)
  have HR := Lib.hid hr
  have HF := Lib.hid hf
  have HO := Lib.hid hown
  have HCUT := Lib.hid hcut
  clear hr hf hown hcut hrow e1 hs
  unfold strV at k1
  rw [show b1 = b1 from rfl] at k1
  have hk1 : w1.cell? ⟨b1, o1 + (n - 1), none⟩ = some (.string ⟨x.toArray⟩) := k1
  clear k1
  by_cases h1 : 1 < n
  · have hi1 : (1 : Int) < (n : Int) := by omega
    by_cases hx0 : x = []
    · subst hx0
      have HS := Lib.hid (show S = C.take (n - 1) by rw [HSP.out, if_pos ⟨h1, HX.out⟩])
      go_wp2_with fail
      go_ret
      exact ⟨_, rfl, by rw [HS.out]; exact HCUT.out, HF.out, HO.out⟩
    · have hxe : x.isEmpty = false := by cases x with | nil => exact absurd rfl hx0 | cons => rfl
      have HS := Lib.hid (show S = C by rw [HSP.out, if_neg (fun h => hx0 (Option.some.inj (HX.out.symm.trans h.2)))])
      go_wp2_with fail
      go_ret
      exact ⟨_, rfl, by rw [HS.out]; exact HR.out, HF.out, HO.out⟩
  · have hi1 : ¬ (1 : Int) < (n : Int) := by omega
    have HS := Lib.hid (show S = C by rw [HSP.out, if_neg (fun h => h1 h.1)])
    go_wp2_with fail
    go_ret
    exact ⟨_, rfl, by rw [HS.out]; exact HR.out, HF.out, HO.out⟩

end Go.Proofs.YtnajkjgjeiodmaaGreatDoor

namespace Go.Proofs.YtnajkjgjeiodmaaGreatDoor
open Go.RowKit
open Go.Proofs (Tryz.prog)

def sumL (L : List (List UInt8)) : Nat := (L.map List.length).sum
theorem sumL_take_succ {L : List (List UInt8)} {k : Nat} {l : List UInt8} (h : L[k]? = some l) : sumL (L.take (k + 1)) = sumL (L.take k) + l.length := by
  unfold sumL
  rw [List.take_add_one, h]
  simp
theorem sumL_append (a b : List (List UInt8)) : sumL (a ++ b) = sumL a + sumL b := by simp [sumL]
theorem sumL_take_le (L : List (List UInt8)) (k : Nat) : sumL (L.take k) ≤ sumL L := by
  conv => rhs; rw [← List.take_append_drop k L, sumL_append]
  omega
theorem sumL_size (L : List (List UInt8)) : sizeL L = sumL L + L.length := by
  induction L with
  | nil => rfl
  | cons x r ih => rw [sizeL_cons, ih]; simp [sumL]; omega
/-- Lines that may be asked. -/
def LightL (L : List (List UInt8)) : Prop := L.length ≤ 40 ∧ sumL L ≤ 1200 ∧ Clean L
instance (L : List (List UInt8)) : Decidable (LightL L) := inferInstanceAs (Decidable (L.length ≤ 40 ∧ sumL L ≤ 1200 ∧ Clean L))
theorem clean_take_succ {L : List (List UInt8)} {k : Nat} {l : List UInt8} (h : L[k]? = some l) (hc : Clean (L.take k)) (hl : (10 : UInt8) ∉ l) : Clean (L.take (k + 1)) := by
  rw [List.take_add_one, h]
  refine hc.append fun x hx => ?_
  obtain rfl : x = l := by simpa using hx
  exact hl

set_option maxRecDepth 100000 in
set_option maxHeartbeats 3200000 in
theorem hlpLight (w : World) (v : Value) (L : List (List UInt8)) (hv : RdL w v L) (hb : ∀ l ∈ L, l.length ≤ 140737488355328) (hl : L.length ≤ 4611686018427387904) :
    Calls Tryz.prog 9 #[v] w fun e w' => e = .returned (.bool (decide (LightL L))) ∧ w' = w := by
  obtain ⟨va, vc, rfl⟩ := hv.form
  have HV := Lib.hid hv
  have HB := Lib.hid hb
  clear hv hb
  obtain ⟨d, hd⟩ : ∃ d, d = decide (LightL L) := ⟨_, rfl⟩
  rw [← hd]
  have HD := Lib.hid hd
  clear hd
  generalize hn : L.length = n at *
  have HN := Lib.hid hn
  clear hn
  by_cases h40 : n ≤ 40
  · have hi40 : ¬ (40 : Int) < (n : Int) := by omega
    go_enter Tryz.func9, Tryz.ntmps9
    go_wp2_with fail
    go_loopw [3, 4, 5] (fun t i _ wr => ∃ k : Nat, k ≤ n ∧ i = .int .i64 (k : Int) ∧ t = .int .i64 (sumL (L.take k) : Nat) ∧ sumL (L.take k) ≤ 1200 ∧ Clean (L.take k) ∧ wr = w) (fun _ i _ _ => n - (intOf i).toNat)
    case atStart => exact ⟨0, by omega, rfl, by simp [sumL], by simp [sumL], by simp [Clean], rfl⟩
    case round =>
      obtain ⟨k, hk, rfl, rfl, hz, hcl, rfl⟩ := hrel
      have HCL := Lib.hid hcl
      clear hcl
      by_cases hlt : k < n
      · obtain ⟨s, hs⟩ : ∃ s, L[k]? = some s := ⟨L[k]'(by rw [HN.out]; exact hlt), List.getElem?_eq_getElem _⟩
        have h1 := HV.out
        have hsz := sumL_take_succ hs
        have hle := sumL_take_le L (k + 1)
        have hsb := HB.out s (List.mem_of_getElem? hs)
        rw [← HN.out] at h1
        obtain ⟨b1, o1, c1, e1, k1⟩ := h1.at hs
        obtain ⟨rfl, -, rfl⟩ : va = some ⟨b1, o1, none⟩ ∧ True ∧ vc = c1 := by simpa using e1
        unfold strV at k1
        have hbs : (⟨s.toArray⟩ : ByteArray).size = s.length := rfl
        have hdl : (⟨s.toArray⟩ : ByteArray).data.toList = s := rfl
        have HS := Lib.hid hs
        have HDL := Lib.hid hdl
        clear h1 e1 hs hdl
        generalize (⟨s.toArray⟩ : ByteArray) = bs at *
        generalize sumL (L.take k) = z at *
        have hsz' := hsz
        generalize hz' : sumL (L.take (k + 1)) = z' at hsz hle
        have HZ := Lib.hid hz'
        rw [hz'] at hsz'
        clear hz'
        generalize hsl : s.length = sl at *
        have HSL := Lib.hid hsl
        clear hsl
        by_cases hgt : 1200 < z + sl
        · have hig : (1200 : Int) < (z : Int) + (sl : Int) := by omega
          have hdf : d = false := by
            rw [HD.out]
            exact decide_eq_false (fun h => by have := h.2.1; omega)
          have HDF := Lib.hid hdf
          clear hdf
          go_wp2_with fail
          go_ret
          exact ⟨by rw [HDF.out]; rfl, by trivial⟩
        · have hig : ¬ (1200 : Int) < (z : Int) + (sl : Int) := by omega
          go_wp2_with fail
          go_loopw [5] (fun j wr2 => ∃ m : Nat, m ≤ sl ∧ j = .int .i64 (m : Int) ∧ (∀ q, q < m → s[q]? ≠ some 10) ∧ wr2 = wr) (fun j _ => sl - (intOf j).toNat)
          case atStart => exact ⟨0, by omega, rfl, fun q hq => absurd hq (by omega), rfl⟩
          case round =>
            obtain ⟨m, hm, rfl, hno, rfl⟩ := hrel
            have HNO := Lib.hid hno
            clear hno
            by_cases hml : m < sl
            · have hml2 : m < bs.size := by omega
              have hsm : s[m]? = some bs[m] := by
                have : bs.data.toList[m]? = some bs[m] := by rw [List.getElem?_eq_getElem (by simpa using hml2)]; rfl
                rwa [HDL.out] at this
              have HSM := Lib.hid hsm
              clear hsm
              by_cases h10 : bs[m] = 10
              · have htest : ((bs[m].toNat : Int) == 10) = true := by rw [h10]; rfl
                have hdf : d = false := by
                  rw [HD.out]
                  exact decide_eq_false (fun h => h.2.2 s (List.mem_of_getElem? HS.out) (List.mem_of_getElem? (by rw [HSM.out, h10])))
                have HDF := Lib.hid hdf
                clear hdf h10
                go_wp2_with fail
                go_ret
                exact ⟨by rw [HDF.out]; rfl, by trivial⟩
              · have htest : ((bs[m].toNat : Int) == 10) = false := by
                  have : bs[m].toNat ≠ 10 := fun e => h10 (UInt8.toNat_inj.1 e)
                  rw [beq_eq_false_iff_ne]; omega
                have hno2 : ∀ q, q < m + 1 → s[q]? ≠ some 10 := fun q hq => by
                  rcases Nat.lt_or_ge q m with h | h
                  · exact HNO.out q h
                  · obtain rfl : q = m := by omega
                    rw [HSM.out]
                    exact fun e => h10 (Option.some.inj e)
                have HN2 := Lib.hid hno2
                clear hno2 h10
                go_wp2_with fail
                go_roundw
                case rel => exact ⟨m + 1, by omega, by go_num, HN2.out, by trivial⟩
                case measure => simp [intOf]; omega
            · have hnm : (10 : UInt8) ∉ s := fun hmem => by
                obtain ⟨q, hq⟩ := List.getElem?_of_mem hmem
                exact HNO.out q (by have := (List.getElem?_eq_some_iff.1 hq).1; have := HSL.out; omega) hq
              have hcl2 := clean_take_succ HS.out HCL.out hnm
              have HC2 := Lib.hid hcl2
              clear hnm hcl2
              go_wp2_with fail
              go_roundw
              case rel => exact ⟨k + 1, by omega, by go_num, by rw [HZ.out]; go_num, by rw [HZ.out]; omega, HC2.out, by trivial⟩
              case measure => simp [intOf]; omega
      · obtain rfl : k = n := by omega
        have hdt : d = true := by
          rw [HD.out]
          have e : L.take k = L := by rw [← HN.out, List.take_length]
          have h1 := HCL.out
          rw [e] at h1 hz
          exact decide_eq_true ⟨by rw [HN.out]; exact h40, hz, h1⟩
        have HDT := Lib.hid hdt
        clear hdt
        go_wp2_with fail
        go_ret
        exact ⟨by rw [HDT.out]; rfl, by trivial⟩
  · have hi40 : (40 : Int) < (n : Int) := by omega
    have hdf : d = false := by
      rw [HD.out]
      exact decide_eq_false (fun h => h40 (by rw [← HN.out]; exact h.1))
    have HDF := Lib.hid hdf
    clear hdf
    go_enter Tryz.func9, Tryz.ntmps9
    go_wp2_with fail
    go_ret
    exact ⟨by rw [HDF.out]; rfl, rfl⟩

set_option maxRecDepth 100000 in
set_option maxHeartbeats 1600000 in
theorem hlpText (w : World) (v : Value) (L : List (List UInt8)) (hv : RdL w v L) (hb : ∀ l ∈ L, l.length ≤ 140737488355328) (hl : L.length ≤ 4611686018427387904) :
    Calls Tryz.prog 18 #[v] w fun e w' => e = .returned (.bool (decide (L ≠ [] ∧ LightL L))) ∧ w' = w := by
  have hc := hlpLight w v L hv hb hl
  obtain ⟨va, vc, rfl⟩ := hv.form
  clear hv hb
  obtain ⟨d, hd⟩ : ∃ d, d = decide (L ≠ [] ∧ LightL L) := ⟨_, rfl⟩
  rw [← hd]
  have HD := Lib.hid hd
  clear hd
  obtain ⟨d2, hd2⟩ : ∃ d2, d2 = decide (LightL L) := ⟨_, rfl⟩
  rw [← hd2] at hc
  have HD2 := Lib.hid hd2
  clear hd2
  generalize hn : L.length = n at *
  have HN := Lib.hid hn
  clear hn
  by_cases h0 : 0 < n
  · have hi0 : (0 : Int) < (n : Int) := by omega
    have hdd : d = d2 := by
      rw [HD.out, HD2.out]
      have : L ≠ [] := by rintro rfl; have := HN.out; simp at this; omega
      simp [this]
    have HDD := Lib.hid hdd
    clear hdd
    go_enter Tryz.func18, Tryz.ntmps18
    go_wp2_with fail
    refine hc.mono ?_
    rintro e w' ⟨rfl, rfl⟩
    clear hc
    go_wp2_with fail
    go_ret
    exact ⟨by rw [HDD.out]; rfl, rfl⟩
  · have hi0 : ¬ (0 : Int) < (n : Int) := by omega
    have hdf : d = false := by
      rw [HD.out]
      exact decide_eq_false (fun h => h.1 (List.eq_nil_of_length_eq_zero (by rw [HN.out]; omega)))
    have HDF := Lib.hid hdf
    clear hdf
    go_enter Tryz.func18, Tryz.ntmps18
    go_wp2_with fail
    go_ret
    exact ⟨by rw [HDF.out]; rfl, rfl⟩

end Go.Proofs.YtnajkjgjeiodmaaGreatDoor
