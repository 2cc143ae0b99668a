/-
  THE WALK OF foolscaplaw33.MacroDepth: it returns true at every arguments, and changes nothing that lay in memory. Conditions: the library's MaxLen is a number.
-/
import Derived.Test.YtaobohlcpgnebaaDoorMen
namespace Go.Proofs.YtaobohlcpgnebaaDoor
open Go.RowKit
open Go.Proofs (Tryd.prog)

/-- The frame of the number j. -/
def dpF (j : Nat) : AF := ([UInt8.ofNat j, UInt8.ofNat j], 1, 0)
def dpL (i : Nat) : List AF := (List.range i).map dpF
theorem dpL_succ (i : Nat) : dpL (i + 1) = dpL i ++ [dpF i] := by simp [dpL, List.range_succ]
theorem dpL_length (i : Nat) : (dpL i).length = i := by simp [dpL]
theorem dp_push (i d : Nat) (h : i < d) : pushOk d (dpL i) [UInt8.ofNat i, UInt8.ofNat i] 1 = true ∧ pushed d (dpL i) [UInt8.ofNat i, UInt8.ofNat i] 1 = dpL (i + 1) := by
  have h1 := dpL_length i
  refine ⟨decide_eq_true (.inr (.inr (by omega))), ?_⟩
  unfold pushed
  rw [if_neg (by simp), if_neg (by omega), dpL_succ]
  rfl
theorem dp_full (d : Nat) : pushOk d (dpL d) [9] 1 = false ∧ pushed d (dpL d) [9] 1 = dpL d := by
  have h1 := dpL_length d
  refine ⟨decide_eq_false (by intro h; rcases h with h | h | h; omega; cases h; omega), ?_⟩
  unfold pushed
  rw [if_neg (by simp), if_pos (by omega)]
theorem dp_next1 (i rest : Nat) (hi : i < 256) (hr : rest ≠ 0) : nextOk (dpL (i + 1)) rest = true ∧ nextC (dpL (i + 1)) rest = i ∧ nexted (dpL (i + 1)) rest = dpL i ++ [([UInt8.ofNat i, UInt8.ofNat i], 1, 1)] ∧ nextRest (dpL (i + 1)) rest = rest - 1 := by
  have hne : dpL (i + 1) ≠ [] ∧ rest ≠ 0 := ⟨by simp [dpL_succ], hr⟩
  refine ⟨decide_eq_true hne, ?_, ?_, if_pos hne⟩
  · unfold nextC
    rw [if_pos hne, dpL_succ]
    simp [keyF, dpF]
    omega
  · unfold nexted
    rw [if_pos hne, dpL_succ]
    simp [turnF, dpF]
theorem dp_next2 (i rest : Nat) (hi : i < 256) (hr : rest ≠ 0) : nextOk (dpL i ++ [([UInt8.ofNat i, UInt8.ofNat i], 1, 1)]) rest = true ∧ nextC (dpL i ++ [([UInt8.ofNat i, UInt8.ofNat i], 1, 1)]) rest = i ∧ nexted (dpL i ++ [([UInt8.ofNat i, UInt8.ofNat i], 1, 1)]) rest = dpL i ∧ nextRest (dpL i ++ [([UInt8.ofNat i, UInt8.ofNat i], 1, 1)]) rest = rest - 1 := by
  have hne : dpL i ++ [([UInt8.ofNat i, UInt8.ofNat i], 1, 1)] ≠ [] ∧ rest ≠ 0 := ⟨by simp, hr⟩
  refine ⟨decide_eq_true hne, ?_, ?_, if_pos hne⟩
  · unfold nextC
    rw [if_pos hne]
    simp [keyF]
    omega
  · unfold nexted
    rw [if_pos hne]
    simp [turnF]

def DpS (w : World) (x d left k : Nat) (wr : World) : Prop := ∃ fp, Mak wr x fp (dpL k) 1000 left d ∧ Frm [] w wr ∧ ∀ b ∈ fp, w.heap.size ≤ b

set_option maxRecDepth 100000 in
set_option maxHeartbeats 6400000 in
theorem macroDepth (w : World) (d0 n : Nat) (hd : d0 < 256) (hn : n < 256) (hm : MaxLenIs w) :
    Calls Tryd.prog 9 #[.int .u8 (d0 : Int), .int .u8 (n : Int)] w fun e w' => e = .returned (.bool true) ∧ Frm [] w w' := by
  have hkn := known33 w hm
  clear hm
  obtain ⟨d, hdd⟩ : ∃ d : Nat, (d0 : Int) % 8 + 1 = (d : Int) := ⟨d0 % 8 + 1, by omega⟩
  have hd1 : 1 ≤ d := by omega
  have hd8 : d ≤ 8 := by omega
  go_enter Tryd.func9, Tryd.ntmps9
  go_wp2_with fail
  refine hkn.mono ?_
  rintro e w1 ⟨rfl, hf1⟩
  have HF1 := Lib.hid hf1
  clear hkn hf1
  go_wp2_with fail
  refine (makNew w1 1000 (d : Int) (by omega) (by omega) (by omega) (by omega)).mono ?_
  rintro e w2 ⟨x, fp, rfl, hk2, hf2, hb2⟩
  rw [Int.toNat_natCast, show (1000 : Int).toNat = 1000 from rfl] at hk2
  have HK2 := Lib.hid hk2
  have HF2 := Lib.hid (HF1.out.trans hf2 (by simp))
  have HB2 := Lib.hid (show ∀ b ∈ fp, w.heap.size ≤ b from fun b hb => Nat.le_trans HF1.out.size (hb2 b hb))
  clear hk2 hf2 hb2 hdd
  go_wp2_with fail
  go_loopw [7] (fun i wr => ∃ k : Nat, k ≤ d ∧ i = .int .i64 (k : Int) ∧ DpS w x d 1000 k wr) (fun i _ => d - (intOf i).toNat)
  case atStart => exact ⟨0, by omega, rfl, fp, HK2.out, HF2.out, HB2.out⟩
  case round =>
    obtain ⟨k, hk, rfl, fp3, hm3, hf3, hb3⟩ := hrel
    have HM3 := Lib.hid hm3
    have HF3 := Lib.hid hf3
    have HB3 := Lib.hid hb3
    clear hm3 hf3 hb3
    by_cases hlt : k < d
    · obtain ⟨p1, p2⟩ := dp_push k d hlt
      have P1 := Lib.hid p1
      have P2 := Lib.hid p2
      clear p1 p2
      have ek : (UInt8.ofNat k).toNat = k := by simp; omega
      have EK := Lib.hid ek
      clear ek
      go_wp2_with fail
      refine (makPush _ x fp3 (dpL k) 1000 1000 d (HM3.out.frm (S := []) ((Frm.refl [] wr).alloc _) (by simp)) _ [UInt8.ofNat k, UInt8.ofNat k] 1 (by omega) (by simp) (rdB_lit wr 5 [UInt8.ofNat k, UInt8.ofNat k] #[.int .u8 (k : Int), .int .u8 (k : Int)] 2 (by simp [encB, EK.out]) _) (fun _ b hb e => (by
        have := HM3.out.lt b hb
        simp [Value.ownBlock] at e
        omega))).mono ?_
      rintro e w4 ⟨rfl, fp4, hm4, hf4, hb4⟩
      rw [P1.out]
      rw [P2.out] at hm4
      have hdp := makDeep w4 x fp4 _ 1000 1000 d hm4
      rw [dpL_length] at hdp
      have HM4 := Lib.hid hm4
      have HF4 := Lib.hid ((HF3.out.alloc _).trans hf4 (fun b hb => .inr (HB3.out b hb)))
      have HB4 := Lib.hid (show ∀ b ∈ fp4, w.heap.size ≤ b from fun b hb => by
        rcases hb4 b hb with h | h
        · exact HB3.out b h
        · have := HF3.out.size
          simp at h
          omega)
      clear hm4 hf4 hb4
      go_wp2_with fail
      refine hdp.mono ?_
      rintro e w4 ⟨rfl, rfl⟩
      clear hdp
      go_wp2_with fail
      go_roundw
      case rel => exact ⟨k + 1, by omega, by go_num, fp4, HM4.out, HF4.out, HB4.out⟩
      case measure => simp [intOf]; omega
    · obtain rfl : k = d := by omega
      obtain ⟨p1, p2⟩ := dp_full k
      have P1 := Lib.hid p1
      have P2 := Lib.hid p2
      clear p1 p2
      go_wp2_with fail
      refine (makPush _ x fp3 (dpL k) 1000 1000 k (HM3.out.frm (S := []) ((Frm.refl [] wr).alloc _) (by simp)) _ [9] 1 (by omega) (by simp) (rdB_lit wr 5 [9] #[.int .u8 9] 1 rfl _) (fun _ b hb e => (by
        have := HM3.out.lt b hb
        simp [Value.ownBlock] at e
        omega))).mono ?_
      rintro e w4 ⟨rfl, fp4, hm4, hf4, hb4⟩
      rw [P1.out]
      rw [P2.out] at hm4
      have HM4 := Lib.hid hm4
      have HF4 := Lib.hid ((HF3.out.alloc _).trans hf4 (fun b hb => .inr (HB3.out b hb)))
      have HB4 := Lib.hid (show ∀ b ∈ fp4, w.heap.size ≤ b from fun b hb => by
        rcases hb4 b hb with h | h
        · exact HB3.out b h
        · have := HF3.out.size
          simp at h
          omega)
      clear hm4 hf4 hb4
      go_wp2_with fail
      refine (makPush _ x fp4 (dpL k) 1000 1000 k HM4.out _ [] 5 (by omega) (by simp) (.inl ⟨rfl, rfl, rfl⟩) (fun h => absurd rfl h)).mono ?_
      rintro e w5 ⟨rfl, fp5, hm5, hf5, hb5⟩
      rw [show pushOk k (dpL k) [] 5 = true from decide_eq_true (.inr (.inl rfl))]
      rw [show pushed k (dpL k) [] 5 = dpL k from if_pos (.inr rfl)] at hm5
      have HM5 := Lib.hid hm5
      have HF5 := Lib.hid (HF4.out.trans hf5 (fun b hb => .inr (HB4.out b hb)))
      have HB5 := Lib.hid (show ∀ b ∈ fp5, w.heap.size ≤ b from fun b hb => by
        rcases hb5 b hb with h | h
        · exact HB4.out b h
        · exact Nat.le_trans HF4.out.size h)
      clear hm5 hf5 hb5
      go_wp2_with fail
      refine (makPush _ x fp5 (dpL k) 1000 1000 k (HM5.out.frm (S := []) ((Frm.refl [] w5).alloc _) (by simp)) _ [1] 0 (by omega) (by simp) (rdB_lit w5 5 [1] #[.int .u8 1] 1 rfl _) (fun _ b hb e => (by
        have := HM5.out.lt b hb
        simp [Value.ownBlock] at e
        omega))).mono ?_
      rintro e w6 ⟨rfl, fp6, hm6, hf6, hb6⟩
      rw [show pushOk k (dpL k) [1] 0 = true from decide_eq_true (.inl (by decide))]
      rw [show pushed k (dpL k) [1] 0 = dpL k from if_pos (.inl (by decide))] at hm6
      have HM6 := Lib.hid hm6
      have HF6 := Lib.hid ((HF5.out.alloc _).trans hf6 (fun b hb => .inr (HB5.out b hb)))
      have HB6 := Lib.hid (show ∀ b ∈ fp6, w.heap.size ≤ b from fun b hb => by
        rcases hb6 b hb with h | h
        · exact HB5.out b h
        · have := HF5.out.size
          simp at h
          omega)
      clear hm6 hf6 hb6
      go_wp2_with fail
      go_loopw [8] (fun i wr => ∃ j : Nat, j ≤ k ∧ i = .int .i64 ((j : Int) - 1) ∧ DpS w x k (1000 - 2 * (k - j)) j wr) (fun i _ => (intOf i + 1).toNat)
      case atStart => exact ⟨k, by omega, rfl, fp6, by rw [show 1000 - 2 * (k - k) = 1000 by omega]; exact HM6.out, HF6.out, HB6.out⟩
      case round =>
        obtain ⟨j, hj, rfl, fp7, hm7, hf7, hb7⟩ := hrel
        have HM7 := Lib.hid hm7
        have HF7 := Lib.hid hf7
        have HB7 := Lib.hid hb7
        clear hm7 hf7 hb7
        by_cases hj0 : 0 < j
        · obtain ⟨i, rfl⟩ : ∃ i, j = i + 1 := ⟨j - 1, by omega⟩
          obtain ⟨rest, hrest⟩ : ∃ r, 1000 - 2 * (k - (i + 1)) = r := ⟨_, rfl⟩
          rw [hrest] at HM7
          obtain ⟨q1, q2, q3, q4⟩ := dp_next1 i rest (by omega) (by omega)
          obtain ⟨t1, t2, t3, t4⟩ := dp_next2 i (rest - 1) (by omega) (by omega)
          have hnx := makNext _ x fp7 _ 1000 rest k HM7.out
          rw [q1, q2, q3, q4] at hnx
          have hres : rest - 1 - 1 = 1000 - 2 * (k - i) := by omega
          have HT := Lib.hid (show nextOk (dpL i ++ [([UInt8.ofNat i, UInt8.ofNat i], 1, 1)]) (rest - 1) = true ∧ nextC (dpL i ++ [([UInt8.ofNat i, UInt8.ofNat i], 1, 1)]) (rest - 1) = i ∧ nexted (dpL i ++ [([UInt8.ofNat i, UInt8.ofNat i], 1, 1)]) (rest - 1) = dpL i ∧ nextRest (dpL i ++ [([UInt8.ofNat i, UInt8.ofNat i], 1, 1)]) (rest - 1) = 1000 - 2 * (k - i) from ⟨t1, t2, t3, by rw [t4, hres]⟩)
          have eI : (((i + 1 : Nat) : Int) - 1) = (i : Int) := by omega
          rw [eI]
          clear q1 q2 q3 q4 t1 t2 t3 t4 hres hrest eI
          go_wp2_with fail
          refine hnx.mono ?_
          rintro e w8 ⟨rfl, hm8, hf8⟩
          have hdp := makDeep _ x fp7 _ 1000 _ k hm8
          rw [List.length_append, dpL_length] at hdp
          have hnx2 := makNext _ x fp7 _ 1000 _ k hm8
          obtain ⟨t1, t2, t3, t4⟩ := HT.out
          rw [t1, t2, t3, t4] at hnx2
          have HF8 := Lib.hid (HF7.out.trans hf8 (fun b hb => .inr (HB7.out b hb)))
          clear hm8 hf8 hnx t1 t2 t3 t4
          go_wp2_with fail
          refine hdp.mono ?_
          rintro e w8 ⟨rfl, rfl⟩
          clear hdp
          go_wp2_with fail
          refine hnx2.mono ?_
          rintro e w9 ⟨rfl, hm9, hf9⟩
          have hdp := makDeep _ x fp7 _ 1000 _ k hm9
          rw [dpL_length] at hdp
          have HM9 := Lib.hid hm9
          have HF9 := Lib.hid (HF8.out.trans hf9 (fun b hb => .inr (HB7.out b hb)))
          clear hm9 hf9 hnx2
          go_wp2_with fail
          refine hdp.mono ?_
          rintro e w9 ⟨rfl, rfl⟩
          clear hdp
          go_wp2_with fail
          go_roundw
          case rel => exact ⟨i, by omega, rfl, fp7, HM9.out, HF9.out, HB7.out⟩
          case measure => simp [intOf]
        · obtain rfl : j = 0 := by omega
          have hnx := makNext _ x fp7 _ 1000 _ k HM7.out
          rw [show nextOk (dpL 0) (1000 - 2 * (k - 0)) = false from decide_eq_false (fun h => h.1 rfl), show nexted (dpL 0) (1000 - 2 * (k - 0)) = [] from if_neg (fun h => h.1 rfl), show nextRest (dpL 0) (1000 - 2 * (k - 0)) = 1000 - 2 * (k - 0) from if_neg (fun h => h.1 rfl)] at hnx
          generalize nextC (dpL 0) (1000 - 2 * (k - 0)) = c at *
          obtain ⟨rest, hrest⟩ : ∃ r, 1000 - 2 * (k - 0) = r := ⟨_, rfl⟩
          rw [hrest] at hnx
          have hri : (rest : Int) = 1000 - 2 * (k : Int) := by omega
          have HRI := Lib.hid hri
          clear hrest hri
          go_wp2_with fail
          refine hnx.mono ?_
          rintro e w8 ⟨rfl, hm8, hf8⟩
          have hl := makLeft _ x fp7 _ 1000 _ k hm8
          rw [HRI.out] at hl
          have HM8 := Lib.hid hm8
          have HF8 := Lib.hid (HF7.out.trans hf8 (fun b hb => .inr (HB7.out b hb)))
          clear hm8 hf8 hnx
          go_wp2_with fail
          refine hl.mono ?_
          rintro e w8 ⟨rfl, rfl⟩
          clear hl
          go_wp2_with fail
          refine (makPush _ x fp7 [] 1000 rest k (HM8.out.frm (S := []) ((Frm.refl [] w8).alloc _) (by simp)) _ [1] _ (by omega) (by simp) (rdB_lit w8 5 [1] #[.int .u8 1] 1 rfl _) (fun _ b hb e => (by
            have := HM8.out.lt b hb
            simp [Value.ownBlock] at e
            omega))).mono ?_
          rintro e w9 ⟨rfl, fp9, hm9, hf9, hb9⟩
          rw [show pushOk k [] [1] ((n : Int) + 1) = true from decide_eq_true (.inr (.inr (by simp; omega)))]
          have HF9 := Lib.hid ((HF8.out.alloc _).trans hf9 (fun b hb => .inr (HB7.out b hb)))
          clear hm9 hf9 hb9
          go_wp2_with fail
          go_ret
          exact ⟨rfl, HF9.out⟩

end Go.Proofs.YtaobohlcpgnebaaDoor
