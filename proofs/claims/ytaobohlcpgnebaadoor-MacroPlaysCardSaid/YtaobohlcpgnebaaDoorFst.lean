/-
  CONTRACT OF keys.first: the key that a text begins with. Conditions: the text is not empty.
-/
import Derived.Test.YtaobohlcpgnebaaDoorKp
import Derived.Test.YtaobohlcpgnebaaDoorShf
import Derived.Test.YtaobohlcpgnebaaDoorBase3
import Derived.Deep.RegionHeld3
namespace Go.Proofs.YtaobohlcpgnebaaDoor
open Go.RowKit
open Go.Proofs (Tryd.prog)

theorem Frm.ofDrewN {S : List Nat} {a b : World} {n : Nat} (h : Frm S (a.drewN n) b) : Frm S a b := ⟨h.os, h.tape, h.output, h.size, h.same⟩
theorem Frm.ofDrew {S : List Nat} {a b : World} (h : Frm S a.drew b) : Frm S a b := ⟨h.os, h.tape, h.output, h.size, h.same⟩
theorem str_size (s : ByteArray) : s.data.toList.length = s.size := by simp
theorem run_at (s : ByteArray) (b : UInt8) (k : Nat) (h : s.data.toList[k]? = some b) (W : World) : (Instr.index 9 (.string s) (.int .i64 (k : Int))).run Tryd.prog W = .ok (.int .u8 (b.toNat : Int)) W := by
  rw [run_index_string W 9 _ _ _ Tryd.underlying9]
  obtain ⟨hk, he⟩ := List.getElem?_eq_some_iff.1 h
  rw [str_size] at hk
  rw [dif_pos ⟨by omega, by omega⟩]
  have : s[((k : Nat) : Int).toNat]'(by omega) = b := by
    rw [← he]
    simp
    rfl
  rw [this]
theorem hasPrefix_eq (s p : List UInt8) : Lib.hasPrefix s p = p.isPrefixOf s := rfl

set_option maxRecDepth 100000 in
set_option maxHeartbeats 3200000 in
theorem keysFirst (s : ByteArray) (h0 : s.data.toList ≠ []) (w : World) : Calls Tryd.prog 42 #[.string s] w fun e w' =>
    ∃ (c : Nat) (ok : Bool), e = .returned (.tuple #[.int .u8 (c : Int), .bool ok]) ∧ c < 256 ∧ findN s.data.toList = (if ok then some c else none) ∧ Frm [] w w' := by
  obtain ⟨b, t, hs⟩ := List.exists_cons_of_ne_nil h0
  have hb : b.toNat < 256 := b.toNat_lt
  have hat : ∀ W, (Instr.index 9 (.string s) (.int .i64 0)).run Tryd.prog W = .ok (.int .u8 (b.toNat : Int)) W := run_at s b 0 (by rw [hs]; rfl)
  have hsz : 1 ≤ s.size := by rw [← str_size, hs]; simp
  have hsz' : (1 : Int) ≤ (s.size : Int) := by omega
  by_cases h60 : b = 60
  · have hb1 : ((b.toNat : Int) == 60) = true := by rw [h60]; rfl
    have hb2 : ((b.toNat : Int) != 60) = false := by rw [h60]; rfl
    have HS := Lib.hid hs
    clear hs h0 h60
    go_enter Tryd.func42, Tryd.ntmps42
    go_wp2_with fail
    go_loopw [2, 3, 4, 5, 17] (fun _ _ _ _ i wr => ∃ k : Nat, k ≤ 256 ∧ i = .int .i64 k ∧ Frm [] w wr ∧ ∀ c, c < k → (nameL c).isPrefixOf s.data.toList = false) (fun _ _ _ _ i _ => 256 - (intOf i).toNat)
    case atStart => exact ⟨0, by omega, rfl, Frm.refl _ _, fun c hc => by omega⟩
    case round =>
      obtain ⟨k, hk, rfl, hf, hno⟩ := hrel
      by_cases hlt : k < 256
      · have hnm : ∀ w, Calls Tryd.prog 17 #[.int .u8 (k : Int)] w fun e w' => e = .returned (.string ⟨(nameL k).toArray⟩) ∧ Frm [] w w' := fun w => keysName k hlt w
        obtain ⟨x, y, hxy⟩ : ∃ x y, nameL k = x :: y := List.exists_cons_of_ne_nil (fun h => (name_pos k hlt).1 (by rw [h]; rfl))
        have hat2 : ∀ W, (Instr.index 9 (.string ⟨(nameL k).toArray⟩) (.int .i64 0)).run Tryd.prog W = .ok (.int .u8 (x.toNat : Int)) W := run_at ⟨(nameL k).toArray⟩ x 0 (by simp [hxy])
        have hpx := fun W => Tryd.strings_HasPrefix s ⟨(nameL k).toArray⟩ W
        have HFR := Lib.hid hf
        have HNO := Lib.hid hno
        have HXY := Lib.hid hxy
        clear hf hno hxy
        go_wp2_with fail
        refine (hnm _).mono ?_
        rintro e w' ⟨rfl, hf'⟩
        have HFR2 := Lib.hid (HFR.out.trans hf' (by simp))
        clear hf'
        go_wp2_with fail
        · refine (hpx w').mono ?_
          rintro e w'' ⟨rfl, rfl⟩
          have hpe : Lib.hasPrefix s.data.toList (⟨(nameL k).toArray⟩ : ByteArray).data.toList = (nameL k).isPrefixOf s.data.toList := rfl
          rw [hpe]
          clear hpx
          cases hp : (nameL k).isPrefixOf s.data.toList
          · go_wp2_with fail
            go_roundw
            case rel => exact ⟨k + 1, by omega, by go_num, HFR2.out, fun c hc => by
              rcases Nat.lt_succ_iff_lt_or_eq.1 hc with h | rfl
              · exact HNO.out c h
              · exact hp⟩
            case measure => simp [intOf]; omega
          · go_wp2_with fail
            go_ret2
            exact ⟨k, true, rfl, hlt, findN_of hlt hp, HFR2.out⟩
        · rename_i hx60
          go_roundw
          case rel => exact ⟨k + 1, by omega, by go_num, HFR2.out, fun c hc => by
              rcases Nat.lt_succ_iff_lt_or_eq.1 hc with h | rfl
              · exact HNO.out c h
              · rw [HXY.out, HS.out]
                have hne : (x == b) = false := by
                  rw [beq_eq_false_iff_ne]
                  rintro rfl
                  exact hx60 (eq_of_beq hb1)
                simp [List.isPrefixOf, hne]⟩
          case measure => simp [intOf]; omega
      · obtain rfl : k = 256 := by omega
        have HFR := Lib.hid hf
        have HNO := Lib.hid hno
        clear hf hno
        go_wp2_with fail
        go_ret2
        exact ⟨0, false, rfl, by omega, findN_none HNO.out, HFR.out⟩
  · have hne : (b.toNat : Int) ≠ 60 := fun h => h60 (by
      apply UInt8.toNat_inj.1
      show b.toNat = 60
      omega)
    have hnm : ∀ w, Calls Tryd.prog 17 #[.int .u8 (b.toNat : Int)] w fun e w' => e = .returned (.string ⟨(nameL b.toNat).toArray⟩) ∧ Frm [] w w' := fun w => keysName b.toNat hb w
    have HS := Lib.hid hs
    have hex : (s.extract 0 1).toList = [b] := by
      rw [Lib.toList_data, Lib.extract_eq, hs]
      rfl
    have HEX := Lib.hid hex
    have HF := Lib.hid (findN_plain (t := t) h60)
    clear hs h0 h60 hex
    generalize b.toNat = n at *
    have hne2 : ((n : Int) == 60) = false := beq_eq_false_iff_ne.2 hne
    go_enter Tryd.func42, Tryd.ntmps42
    go_wp2_with fail
    go_region_held3 (fun _ => True) (trivial) (first | (go_at_call 17; refine (hnm _).mono ?_; rintro e w' ⟨rfl, hf⟩))
    all_goals go_wp2_with fail
    all_goals go_ret2
    all_goals exact ⟨n, nameL n == (s.extract 0 1).toList, rfl, hb, by rw [HS.out, HF.out, HEX.out]; simp, Frm.ofDrewN ‹_›⟩

end Go.Proofs.YtaobohlcpgnebaaDoor
