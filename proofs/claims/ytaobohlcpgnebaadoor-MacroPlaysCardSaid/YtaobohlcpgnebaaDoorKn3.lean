/-
  THE CHAPTER's EXAMPLE (foolscaplaw33.known): it holds. Conditions: the library's MaxLen is a number.
-/
import Derived.Test.YtaobohlcpgnebaaDoorMk
import Derived.Test.YtaobohlcpgnebaaDoorMa
import Derived.Lib.SlBytesConst
namespace Go.Proofs.YtaobohlcpgnebaaDoor
open Go.RowKit
open Go.Proofs (Tryd.prog)

theorem rdB_lit (w : World) (T : TypeId) (l : List UInt8) (cs : Array Value) (c : Nat) (h : cs.toList = l.map encB) (fz : Nat × Nat) : RdB (w.alloc (.cells cs T fz)) (.slice (some ⟨w.heap.size, 0, none⟩) l.length c) l := by
  refine .inr ⟨_, _, rfl, fun j u hj => ?_⟩
  rw [addr_add, Nat.zero_add]
  exact cell_of_heap (heap_alloc_at w _) (by rw [← Array.getElem?_toList, h]; exact hj)
theorem field_reg (n : Int) (v : Value) (w : World) : (Instr.field 42 (.agg #[.int .i64 n, v]) 1).run Tryd.prog w = .ok v w := by kernel_rfl
theorem field_reg0 (n : Int) (v : Value) (w : World) : (Instr.field 42 (.agg #[.int .i64 n, v]) 0).run Tryd.prog w = .ok (.int .i64 n) w := by kernel_rfl
theorem RdB.lt {w : World} {v : Value} {K : List UInt8} (h : RdB w v K) (hK : K ≠ []) : ∀ b, v.ownBlock = some b → b < w.heap.size := by
  intro b hb
  rcases h with ⟨_, h0, _⟩ | ⟨a, c, rfl, hc⟩
  · exact absurd (List.eq_nil_of_length_eq_zero h0) hK
  · obtain rfl : a.block = b := by simpa [Value.ownBlock] using hb
    have h0 : 0 < K.length := List.length_pos_iff.2 hK
    have := World.block_lt_of_cell? _ _ (hc 0 (encB K[0]) (by simp [h0]))
    simpa [Addr.add] using this
/-- The frames and the fuel behind k keys. -/
def knS : Nat → List AF × Nat
  | 0 => ([([97, 98], 2, 0)], 10)
  | k + 1 => (nexted (knS k).1 (knS k).2, nextRest (knS k).1 (knS k).2)
def knC (k : Nat) : Nat := ([97, 98, 97, 98].getD k 0)
def knG (k : Nat) : List UInt8 := [97, 98, 97, 98].take k
theorem knS_ok : ∀ k, k < 6 → nextOk (knS k).1 (knS k).2 = decide (k < 4) ∧ nextC (knS k).1 (knS k).2 = knC k := fun k hk => by
  have : ∀ k : Fin 6, nextOk (knS k.val).1 (knS k.val).2 = decide (k.val < 4) ∧ nextC (knS k.val).1 (knS k.val).2 = knC k.val := by decide
  exact this ⟨k, hk⟩
theorem knG_ok : ∀ k, k < 4 → knG k ++ [UInt8.ofNat (knC k)] = knG (k + 1) ∧ knC k < 256 := fun k hk => by
  have : ∀ k : Fin 4, knG k.val ++ [UInt8.ofNat (knC k.val)] = knG (k.val + 1) ∧ knC k.val < 256 := by decide
  exact this ⟨k, hk⟩
theorem knG_end : ∀ k, ¬ k < 4 → knG k = knG 4 := fun k hk => by
  unfold knG
  rw [List.take_of_length_le (by simp; omega)]
  rfl
def Kn3 (w : World) (x : Nat) (k : Nat) (g i : Value) (wr : World) : Prop :=
  k ≤ 6 ∧ g = .string ⟨(knG k).toArray⟩ ∧ i = .int .i64 (k : Int) ∧ ∃ fp, Mak wr x fp (knS k).1 10 (knS k).2 1 ∧ Frm [] w wr ∧ ∀ b ∈ fp, w.heap.size ≤ b

set_option maxRecDepth 100000 in
set_option maxHeartbeats 3200000 in
theorem known33 (w : World) (hm : MaxLenIs w) : Calls Tryd.prog 21 #[] w fun e w' => e = .returned (.bool true) ∧ Frm [] w w' := by
  have HM := Lib.hid hm
  have kc := fun (w : World) (C : Array Value) (n c : Nat) => Lib.run_convert_bytes_const (P := Tryd.prog) w 22 5 C n c Tryd.underlying22 Tryd.underlying5
  clear hm
  go_enter Tryd.func21, Tryd.ntmps21
  go_wp2_with fail
  refine (makNew w 10 1 (by omega) (by omega) (by omega) (by omega)).mono ?_
  rintro e w1 ⟨x, fp, rfl, hk1, hf1, hb1⟩
  have HK1 := Lib.hid hk1
  have HF1 := Lib.hid hf1
  have HB1 := Lib.hid hb1
  clear hk1 hf1 hb1
  go_wp2_with fail
  refine (makPush _ x fp [] 10 10 1 (HK1.out.frm (S := []) ((Frm.refl [] w1).alloc _) (by simp)) _ [97, 98] 2 (by omega) (by decide) (rdB_lit w1 5 [97, 98] #[.int .u8 97, .int .u8 98] 2 rfl _) (fun _ b hb e => (by
    have := HK1.out.lt b hb
    simp [Value.ownBlock] at e
    omega))).mono ?_
  rintro e w2 ⟨rfl, fp2, hk2, hf2, hb2⟩
  rw [show pushOk 1 [] [97, 98] 2 = true by decide]
  rw [show pushed 1 [] [97, 98] 2 = [([97, 98], 2, 0)] by decide] at hk2
  have HK2 := Lib.hid hk2
  have HF2 := Lib.hid ((HF1.out.alloc _).trans hf2 (fun b hb => .inr (HB1.out b hb)))
  have HB2 := Lib.hid (show ∀ b ∈ fp2, w.heap.size ≤ b from fun b hb => by
    rcases hb2 b hb with h | h
    · exact HB1.out b h
    · have := HF1.out.size
      simp at h
      omega)
  clear hk2 hf2 hb2
  go_wp2_with fail
  refine (makPush _ x fp2 _ 10 10 1 (HK2.out.frm (S := []) ((Frm.refl [] w2).alloc _) (by simp)) _ [99] 1 (by omega) (by decide) (rdB_lit w2 5 [99] #[.int .u8 99] 1 rfl _) (fun _ b hb e => (by
    have := HK2.out.lt b hb
    simp [Value.ownBlock] at e
    omega))).mono ?_
  rintro e w3 ⟨rfl, fp3, hk3, hf3, hb3⟩
  rw [show pushOk 1 [([97, 98], 2, 0)] [99] 1 = false by decide]
  rw [show pushed 1 [([97, 98], 2, 0)] [99] 1 = [([97, 98], 2, 0)] by decide] at hk3
  have HK3 := Lib.hid hk3
  have HF3 := Lib.hid ((HF2.out.alloc _).trans hf3 (fun b hb => .inr (HB2.out b hb)))
  have HB3 := Lib.hid (show ∀ b ∈ fp3, w.heap.size ≤ b from fun b hb => by
    rcases hb3 b hb with h | h
    · exact HB2.out b h
    · have := HF2.out.size
      simp at h
      omega)
  clear hk3 hf3 hb3
  go_wp2_with fail
  go_loopw [2, 3] (fun g i wr => ∃ k : Nat, Kn3 w x k g i wr) (fun _ i _ => 6 - (intOf i).toNat)
  case atStart => exact ⟨0, by omega, rfl, rfl, fp3, HK3.out, HF3.out, HB3.out⟩
  case round =>
    obtain ⟨k, hk, rfl, rfl, fp4, hm4, hf4, hb4⟩ := hrel
    have HM4 := Lib.hid hm4
    have HF4 := Lib.hid hf4
    have HB4 := Lib.hid hb4
    by_cases hlt : k < 6
    · obtain ⟨hok, hc⟩ := knS_ok k hlt
      have hnx := makNext wr x fp4 (knS k).1 10 (knS k).2 1 hm4
      rw [hok, hc] at hnx
      clear hm4 hf4 hb4 hok hc
      by_cases h4 : k < 4
      · obtain ⟨hg, h256⟩ := knG_ok k h4
        rw [show decide (k < 4) = true from decide_eq_true h4] at hnx
        have hcv := fun W => convert_one (knC k) h256 W 5
        have hadd := add_str (knG k) [UInt8.ofNat (knC k)] (by
          have : (knG k).length ≤ 4 := by simp [knG]; omega
          simp; omega)
        rw [hg] at hadd
        clear hg
        generalize knC k = c at *
        go_wp2_with fail
        refine hnx.mono ?_
        rintro e w5 ⟨rfl, hm5, hf5⟩
        have HM5 := Lib.hid hm5
        have HF5 := Lib.hid (HF4.out.trans hf5 (fun b hb => .inr (HB4.out b hb)))
        clear hm5 hf5 hnx
        go_wp2_with fail
        go_roundw
        case rel => exact ⟨k + 1, by omega, rfl, by go_num, fp4, HM5.out.frm (S := []) ((Frm.refl [] w5).alloc _) (by simp), HF5.out.alloc _, HB4.out⟩
        case measure => simp [intOf]; omega
      · rw [show decide (k < 4) = false from decide_eq_false h4] at hnx
        have hg := knG_end k h4
        have hg2 := knG_end (k + 1) (by omega)
        rw [hg]
        have HG2 := Lib.hid hg2
        clear hg hg2
        generalize knC k = c at *
        go_wp2_with fail
        refine hnx.mono ?_
        rintro e w5 ⟨rfl, hm5, hf5⟩
        have HM5 := Lib.hid hm5
        have HF5 := Lib.hid (HF4.out.trans hf5 (fun b hb => .inr (HB4.out b hb)))
        clear hm5 hf5 hnx
        go_wp2_with fail
        go_roundw
        case rel => exact ⟨k + 1, by omega, by rw [HG2.out], by go_num, fp4, HM5.out, HF5.out, HB4.out⟩
        case measure => simp [intOf]; omega
    · obtain rfl : k = 6 := by omega
      clear hm4 hf4 hb4
      rw [show knG 6 = [97, 98, 97, 98] from rfl]
      have hl := makLeft wr x fp4 _ 10 _ 1 HM4.out
      have hd := makDeep wr x fp4 _ 10 _ 1 HM4.out
      have hy := makDry wr x fp4 _ 10 _ 1 HM4.out
      rw [show (knS 6).2 = 6 by decide] at hl hy
      rw [show (knS 6).1 = [] by decide] at hd hy
      go_wp2_with fail
      refine hl.mono ?_
      rintro e wr ⟨rfl, rfl⟩
      clear hl
      go_wp2_with fail
      refine hd.mono ?_
      rintro e wr ⟨rfl, rfl⟩
      clear hd
      go_wp2_with fail
      refine hy.mono ?_
      rintro e wr ⟨rfl, rfl⟩
      clear hy
      rw [show (decide (0 < ([] : List AF).length) && decide (6 = 0)) = false from rfl]
      go_wp2_with fail
      have hfa := (Frm.refl [] wr).alloc (.cells #[.string ⟨#[97]⟩] 9)
      have hb := heap_alloc_at wr (.cells #[.string ⟨#[97]⟩] 9)
      have hky := macKeys (wr.alloc (.cells #[.string ⟨#[97]⟩] 9)) 1 (.slice (some ⟨wr.heap.size, 0, none⟩) 1 1) [⟨#[97]⟩] (.inr ⟨wr.heap.size, 0, 1, rfl, Nat.le_refl _, by simp, fun j s hs => (by
        match j, hs with
        | 0, hs =>
          obtain rfl := Option.some.inj hs
          exact cell_of_heap hb rfl)⟩) (by simp) (by decide)
      have HFA := Lib.hid (HF4.out.trans hfa (by simp))
      clear hfa hb
      refine hky.mono ?_
      rintro e w6 ⟨⟨u, rfl, hr6⟩, hf6⟩
      have hcv := hr6.convert
      rw [show keysOf 1 [⟨#[97]⟩] = [97, 10] by decide] at hcv
      have HF6 := Lib.hid (HFA.out.trans hf6 (by simp))
      clear hr6 hf6 hky
      go_wp2_with fail
      refine (macReg _ _ [97, 10, 98] (rdB_lit w6 5 [97, 10, 98] #[.int .u8 97, .int .u8 10, .int .u8 98] 3 rfl _) (HM.out.frm (HF6.out.alloc _)) (by decide)).mono ?_
      rintro e w7 ⟨⟨u7, rfl, hr7⟩, hf7⟩
      obtain ⟨a7, c7, rfl⟩ : ∃ a c, u7 = .slice a 2 c := by
        rcases hr7 with ⟨_, _, _, h⟩ | ⟨b, o, c, rfl, _⟩
        · exact absurd (congrArg List.length h) (by rw [linesOf_length]; simp)
        · exact ⟨_, _, by rw [linesOf_length]; rfl⟩
      have HF7 := Lib.hid ((HF6.out.alloc _).trans hf7 (by simp))
      clear hr7 hf7
      have hfd := field_reg 0 (.slice a7 2 c7)
      go_wp2_with fail
      go_ret
      exact ⟨rfl, HF7.out⟩

end Go.Proofs.YtaobohlcpgnebaaDoor
