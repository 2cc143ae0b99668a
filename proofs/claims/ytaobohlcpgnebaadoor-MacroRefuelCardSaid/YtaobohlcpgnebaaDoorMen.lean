/-
  THE WALK OF foolscaplaw33.MacroEnds: it returns true at every arguments, and changes nothing that lay in memory. Conditions: the library's MaxLen is a number.
-/
import Derived.Test.YtaobohlcpgnebaaDoorKn3
namespace Go.Proofs.YtaobohlcpgnebaaDoor
open Go.RowKit
open Go.Proofs (Tryd.prog)

theorem pushed_ne {depth : Nat} {az : List AF} {K : List UInt8} {n : Int} (hn : 1 ≤ n) (hK : K ≠ []) (hd : 1 ≤ depth) : pushed depth az K n ≠ [] := by
  unfold pushed
  rw [if_neg (by intro h; rcases h with h | h; omega; exact hK h)]
  split
  · rename_i h
    intro e
    rw [e] at h
    simp at h
    omega
  · simp
theorem RdB.lt {w : World} {v : Value} {K : List UInt8} (h : RdB w v K) (hK : K ≠ []) : ∀ b, v.ownBlock = some b → b < w.heap.size := by
  intro b hb
  rcases h with ⟨_, h0, _⟩ | ⟨a, c, rfl, hc⟩
  · exact absurd (List.eq_nil_of_length_eq_zero h0) hK
  · obtain rfl : a.block = b := by simpa [Value.ownBlock] using hb
    have h0 : 0 < K.length := List.length_pos_iff.2 hK
    have := World.block_lt_of_cell? _ _ (hc 0 (encB K[0]) (by simp [h0]))
    simpa [Addr.add] using this
/-- Between two rounds: k keys were asked for. -/
def EndS (w : World) (x fuel d k : Nat) (g i : Value) (wr : World) : Prop :=
  k ≤ 600 ∧ g = .int .i64 ((min k fuel : Nat) : Int) ∧ i = .int .i64 (k : Int) ∧ ∃ fp az, Mak wr x fp az fuel (fuel - k) d ∧ (fuel < k → az ≠ []) ∧ Frm [] w wr ∧ ∀ b ∈ fp, w.heap.size ≤ b

set_option maxRecDepth 100000 in
set_option maxHeartbeats 3200000 in
theorem macroEnds (w : World) (f d : Nat) (v : Value) (K : List UInt8) (n : Int) (hf : f < 256) (hd : d < 256) (hv : RdB w v K) (hKl : K.length ≤ 140737488355328) (hn0 : -9223372036854775808 ≤ n) (hn1 : n ≤ 9223372036854775807) (hm : MaxLenIs w) :
    Calls Tryd.prog 7 #[.int .u8 (f : Int), .int .u8 (d : Int), v, .int .i64 n] w fun e w' => e = .returned (.bool true) ∧ Frm [] w w' := by
  obtain ⟨va, vc, rfl⟩ := hv.form
  have hkn := known33 w hm
  have HV := Lib.hid hv
  clear hm hv
  by_cases hc : 10 < K.length ∨ K.length = 0 ∨ n < 1
  · have key : ∃ b1 b2 b3 : Bool, decide ((10 : Int) < (K.length : Int)) = b1 ∧ ((K.length : Int) == 0) = b2 ∧ decide (n < 1) = b3 ∧ (b1 || b2 || b3) = true := by
      refine ⟨_, _, _, rfl, rfl, rfl, ?_⟩
      rcases hc with h | h | h
      · simp [show (10 : Int) < (K.length : Int) by omega]
      · simp [h]
      · simp [h]
    obtain ⟨b1, b2, b3, e1, e2, e3, e4⟩ := key
    clear hc
    go_enter Tryd.func7, Tryd.ntmps7
    go_wp2_with fail
    refine hkn.mono ?_
    rintro e w1 ⟨rfl, hf1⟩
    have HF1 := Lib.hid hf1
    clear hkn hf1
    cases b1 <;> cases b2 <;> cases b3 <;> first
      | (exact absurd e4 (by decide))
      | (go_wp2_with fail
         go_ret
         exact ⟨rfl, HF1.out⟩)
  · have hK : K ≠ [] := fun e => hc (.inr (.inl (by rw [e]; rfl)))
    have hlt := HV.out.lt hK
    have hK10 : K.length ≤ 10 := by omega
    have hn2 : 1 ≤ n := by omega
    have e1 : decide ((10 : Int) < (K.length : Int)) = false := decide_eq_false (by omega)
    have e2 : ((K.length : Int) == 0) = false := beq_eq_false_iff_ne.2 (by omega)
    have e3 : decide (n < 1) = false := decide_eq_false (by omega)
    have HK := Lib.hid hK
    have HLT := Lib.hid hlt
    clear hc hK hlt
    go_enter Tryd.func7, Tryd.ntmps7
    go_wp2_with fail
    refine hkn.mono ?_
    rintro e w1 ⟨rfl, hf1⟩
    have HF1 := Lib.hid hf1
    clear hkn hf1
    go_wp2_with fail
    have hN := makNew w1 (f : Int) ((d : Int) % 9 + 1) (by omega) (by omega) (by omega) (by omega)
    refine hN.mono ?_
    rintro e w2 ⟨x, fp, rfl, hk2, hf2, hb2⟩
    obtain ⟨dd, hdd⟩ : ∃ dd, ((d : Int) % 9 + 1).toNat = dd := ⟨_, rfl⟩
    rw [Int.toNat_natCast, hdd] at hk2
    have hdd1 : 1 ≤ dd := by omega
    have HK2 := Lib.hid hk2
    have HF2 := Lib.hid (HF1.out.trans hf2 (by simp))
    have HB2 := Lib.hid (show ∀ b ∈ fp, w.heap.size ≤ b from fun b hb => Nat.le_trans HF1.out.size (hb2 b hb))
    clear hk2 hf2 hb2 hN hdd
    go_wp2_with fail
    go_loopw [10, 11] (fun g i wr => ∃ k : Nat, EndS w x f dd k g i wr) (fun _ i _ => 600 - (intOf i).toNat)
    case atStart => exact ⟨0, by omega, by simp, rfl, fp, [], HK2.out, by omega, HF2.out, HB2.out⟩
    case round =>
      obtain ⟨k, hk, rfl, rfl, fp3, az, hm3, hne3, hf3, hb3⟩ := hrel
      have HM3 := Lib.hid hm3
      have HN3 := Lib.hid hne3
      have HF3 := Lib.hid hf3
      have HB3 := Lib.hid hb3
      clear hm3 hne3 hf3 hb3
      by_cases hlt : k < 600
      · go_wp2_with fail
        refine (makPush wr x fp3 az f (f - k) dd HM3.out _ K n hn1 (by omega) (HV.out.frm HF3.out) (fun hK b hb e => (by
          have h1 := HLT.out b e
          have h2 := HB3.out b hb
          omega))).mono ?_
        rintro e w4 ⟨rfl, fp4, hm4, hf4, hb4⟩
        have hne := pushed_ne (az := az) hn2 HK.out hdd1
        generalize pushed dd az K n = az4 at *
        have HM4 := Lib.hid hm4
        have HN4 := Lib.hid hne
        have HF4 := Lib.hid (HF3.out.trans hf4 (fun b hb => .inr (HB3.out b hb)))
        have HB4 := Lib.hid (show ∀ b ∈ fp4, w.heap.size ≤ b from fun b hb => by
          rcases hb4 b hb with h | h
          · exact HB3.out b h
          · exact Nat.le_trans HF3.out.size h)
        have hnx := makNext w4 x fp4 az4 f (f - k) dd hm4
        clear hm4 hf4 hb4 hne
        by_cases hl : k < f
        · have eo : nextOk az4 (f - k) = true := decide_eq_true ⟨HN4.out, by omega⟩
          have er : nextRest az4 (f - k) = f - (k + 1) := by unfold nextRest; rw [if_pos ⟨HN4.out, by omega⟩]; omega
          rw [eo, er] at hnx
          have hmin : min k f = k := by omega
          rw [hmin]
          clear eo er hmin
          generalize nextC az4 (f - k) = c at *
          generalize nexted az4 (f - k) = az5 at *
          go_wp2_with fail
          refine hnx.mono ?_
          rintro e w5 ⟨rfl, hm5, hf5⟩
          have HM5 := Lib.hid hm5
          have HF5 := Lib.hid (HF4.out.trans hf5 (fun b hb => .inr (HB4.out b hb)))
          clear hm5 hf5 hnx
          go_wp2_with fail
          go_roundw
          case rel => exact ⟨k + 1, by omega, by rw [show min (k + 1) f = k + 1 by omega]; go_num, by go_num, fp4, az5, HM5.out, by omega, HF5.out, HB4.out⟩
          case measure => simp [intOf]; omega
        · have eo : nextOk az4 (f - k) = false := decide_eq_false (by intro h; omega)
          have er : nextRest az4 (f - k) = f - (k + 1) := by unfold nextRest; rw [if_neg (by intro h; omega)]; omega
          have ea : nexted az4 (f - k) = az4 := by unfold nexted; rw [if_neg (by intro h; omega)]
          rw [eo, er, ea] at hnx
          have hmin : min k f = f := by omega
          rw [hmin]
          clear eo er ea hmin
          generalize nextC az4 (f - k) = c at *
          go_wp2_with fail
          refine hnx.mono ?_
          rintro e w5 ⟨rfl, hm5, hf5⟩
          have HM5 := Lib.hid hm5
          have HF5 := Lib.hid (HF4.out.trans hf5 (fun b hb => .inr (HB4.out b hb)))
          clear hm5 hf5 hnx
          go_wp2_with fail
          go_roundw
          case rel => exact ⟨k + 1, by omega, by rw [show min (k + 1) f = f by omega], by go_num, fp4, az4, HM5.out, fun _ => HN4.out, HF5.out, HB4.out⟩
          case measure => simp [intOf]; omega
      · obtain rfl : k = 600 := by omega
        have hmin : min 600 f = f := by omega
        rw [hmin]
        have hl := makLeft wr x fp3 az f (f - 600) dd HM3.out
        have hy := makDry wr x fp3 az f (f - 600) dd HM3.out
        have hz : f - 600 = 0 := by omega
        have hne : 0 < az.length := List.length_pos_iff.2 (HN3.out (by omega))
        rw [hz] at hl hy
        rw [show (decide (0 < az.length) && decide (0 = 0)) = true by simp [hne]] at hy
        clear hmin hz hne
        by_cases hf0 : f = 0
        · subst hf0
          go_wp2_with fail
          refine hl.mono ?_
          rintro e wr ⟨rfl, rfl⟩
          clear hl hy
          go_wp2_with fail
          go_ret
          exact ⟨rfl, HF3.out⟩
        · have ef : ((f : Int) == 0) = false := beq_eq_false_iff_ne.2 (by omega)
          go_wp2_with fail
          refine hl.mono ?_
          rintro e wr ⟨rfl, rfl⟩
          clear hl
          go_wp2_with fail
          refine hy.mono ?_
          rintro e wr ⟨rfl, rfl⟩
          clear hy
          go_wp2_with fail
          go_ret
          exact ⟨rfl, HF3.out⟩

end Go.Proofs.YtaobohlcpgnebaaDoor
