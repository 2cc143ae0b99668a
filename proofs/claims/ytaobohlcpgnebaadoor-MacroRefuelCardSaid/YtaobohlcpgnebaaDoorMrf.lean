/-
  THE WALK OF foolscaplaw33.MacroRefuel: it returns true at every arguments, and changes nothing that lay in memory. Conditions: the library's MaxLen is a number.
-/
import Derived.Test.YtaobohlcpgnebaaDoorMen
import Derived.Test.YtaobohlcpgnebaaDoorHs
namespace Go.Proofs.YtaobohlcpgnebaaDoor
open Go.RowKit
open Go.Proofs (Tryd.prog)

set_option maxRecDepth 100000 in
theorem lawBoolean (w : World) (b : Bool) : Calls Tryd.prog 39 #[.bool b] w fun e w' => e = .returned (.int .i64 (if b then 1 else 0)) ∧ w' = w := by
  cases b
  all_goals
    go_enter Tryd.func39, Tryd.ntmps39
    go_wp2_with fail
    go_ret
    exact ⟨rfl, rfl⟩

theorem linesOf_nil : linesOf [] = [⟨#[]⟩] := by decide
theorem turnF_a {K : List UInt8} {n a : Nat} (h : a + 1 < K.length) : turnF (K, n, a) = [(K, n, a + 1)] := if_pos h
theorem turnF_b {K : List UInt8} {n a : Nat} (h : ¬ a + 1 < K.length) (h2 : 1 < n) : turnF (K, n, a) = [(K, n - 1, 0)] := (if_neg h).trans (if_pos h2)
/-- The frames once k keys of a thousand times three are played. -/
def rfL (k : Nat) : List AF := [([1, 2, 3], 1000 - k / 3, k % 3)]
theorem rf_next (k rest : Nat) (hk : k < 2000) (hr : rest ≠ 0) : nextOk (rfL k) rest = true ∧ nexted (rfL k) rest = rfL (k + 1) ∧ nextRest (rfL k) rest = rest - 1 := by
  have hne : rfL k ≠ [] ∧ rest ≠ 0 := ⟨by simp [rfL], hr⟩
  refine ⟨decide_eq_true hne, ?_, if_pos hne⟩
  unfold nexted
  rw [if_pos hne]
  show [] ++ turnF ([1, 2, 3], 1000 - k / 3, k % 3) = rfL (k + 1)
  rw [List.nil_append]
  unfold rfL
  by_cases h : k % 3 + 1 < 3
  · rw [turnF_a (show k % 3 + 1 < ([1, 2, 3] : List UInt8).length from h), show (k + 1) / 3 = k / 3 by omega, show (k + 1) % 3 = k % 3 + 1 by omega]
  · rw [turnF_b (show ¬ k % 3 + 1 < ([1, 2, 3] : List UInt8).length from h) (show 1 < 1000 - k / 3 by omega), show (k + 1) / 3 = k / 3 + 1 by omega, show (k + 1) % 3 = 0 by omega, show 1000 - k / 3 - 1 = 1000 - (k / 3 + 1) by omega]
def RfS (w : World) (x f k : Nat) (g i : Value) (wr : World) : Prop :=
  g = .int .i64 ((min k f : Nat) : Int) ∧ i = .int .i64 (k : Int) ∧ ∃ fp, Mak wr x fp (rfL (min k f)) f (f - k) 3 ∧ Frm [] w wr ∧ ∀ b ∈ fp, w.heap.size ≤ b

set_option maxRecDepth 100000 in
set_option maxHeartbeats 6400000 in
theorem macroRefuel (w : World) (f n : Nat) (dr : Bool) (hf : f < 256) (hn : n < 256) (hm : MaxLenIs w) :
    Calls Tryd.prog 11 #[.int .u8 (f : Int), .int .u8 (n : Int), .bool dr] w fun e w' => e = .returned (.bool true) ∧ Frm [] w w' := by
  have hkn := known33 w hm
  have HM := Lib.hid hm
  clear hm
  go_enter Tryd.func11, Tryd.ntmps11
  go_wp2_with fail
  refine hkn.mono ?_
  rintro e w1 ⟨rfl, hf1⟩
  have HF1 := Lib.hid hf1
  clear hkn hf1
  go_wp2_with fail
  refine (makNew w1 (f : Int) 3 (by omega) (by omega) (by omega) (by omega)).mono ?_
  rintro e w2 ⟨x, fp, rfl, hk2, hf2, hb2⟩
  rw [Int.toNat_natCast, show (3 : Int).toNat = 3 from rfl] at hk2
  have HK2 := Lib.hid hk2
  have HF2 := Lib.hid (HF1.out.trans hf2 (by simp))
  have HB2 := Lib.hid (show ∀ b ∈ fp, w.heap.size ≤ b from fun b hb => Nat.le_trans HF1.out.size (hb2 b hb))
  clear hk2 hf2 hb2
  go_wp2_with fail
  refine (makPush _ x fp [] f f 3 (HK2.out.frm (S := []) ((Frm.refl [] w2).alloc _) (by simp)) _ [1, 2, 3] 1000 (by omega) (by decide) (rdB_lit w2 5 [1, 2, 3] #[.int .u8 1, .int .u8 2, .int .u8 3] 3 rfl _) (fun _ b hb e => (by
    have := HK2.out.lt b hb
    simp [Value.ownBlock] at e
    omega))).mono ?_
  rintro e w3 ⟨rfl, fp3, hk3, hf3, hb3⟩
  rw [show pushOk 3 [] [1, 2, 3] 1000 = true by decide]
  rw [show pushed 3 [] [1, 2, 3] 1000 = rfL 0 by decide] at hk3
  have HK3 := Lib.hid hk3
  have HF3 := Lib.hid ((HF2.out.alloc _).trans hf3 (fun b hb => .inr (HB2.out b hb)))
  have HB3 := Lib.hid (show ∀ b ∈ fp3, w.heap.size ≤ b from fun b hb => by
    rcases hb3 b hb with h | h
    · exact HB2.out b h
    · have := HF2.out.size
      simp at h
      omega)
  clear hk3 hf3 hb3
  go_wp2_with fail
  go_loopw [8, 9] (fun g i wr => ∃ k : Nat, k ≤ n ∧ RfS w x f k g i wr) (fun _ i _ => n - (intOf i).toNat)
  case atStart => exact ⟨0, by omega, by simp, rfl, fp3, by simpa using HK3.out, HF3.out, HB3.out⟩
  case round =>
    obtain ⟨k, hk, rfl, rfl, fp4, hm4, hf4, hb4⟩ := hrel
    have HM4 := Lib.hid hm4
    have HF4 := Lib.hid hf4
    have HB4 := Lib.hid hb4
    clear hm4 hf4 hb4
    by_cases hlt : k < n
    · have hnx := makNext wr x fp4 _ f (f - k) 3 HM4.out
      by_cases hl : k < f
      · obtain ⟨q1, q2, q3⟩ := rf_next k (f - k) (by omega) (by omega)
        have hmin : min k f = k := by omega
        rw [hmin] at hnx ⊢
        rw [q1, q2, q3] at hnx
        clear q1 q2 q3 hmin
        generalize nextC (rfL k) (f - k) = c at *
        go_wp2_with fail
        refine hnx.mono ?_
        rintro e w5 ⟨rfl, hm5, hf5⟩
        have HM5 := Lib.hid hm5
        have HF5 := Lib.hid (HF4.out.trans hf5 (fun b hb => .inr (HB4.out b hb)))
        clear hm5 hf5 hnx
        go_wp2_with fail
        go_roundw
        case rel => exact ⟨k + 1, by omega, by rw [show min (k + 1) f = k + 1 by omega]; go_num, by go_num, fp4, by rw [show min (k + 1) f = k + 1 by omega, show f - (k + 1) = f - k - 1 by omega]; exact HM5.out, HF5.out, HB4.out⟩
        case measure => simp [intOf]; omega
      · have hmin : min k f = f := by omega
        rw [hmin] at hnx ⊢
        rw [show nextOk (rfL f) (f - k) = false from decide_eq_false (by intro h; omega), show nexted (rfL f) (f - k) = rfL f from if_neg (by intro h; omega), show nextRest (rfL f) (f - k) = f - k from if_neg (by intro h; omega)] at hnx
        clear hmin
        generalize nextC (rfL f) (f - k) = c at *
        go_wp2_with fail
        refine hnx.mono ?_
        rintro e w5 ⟨rfl, hm5, hf5⟩
        have HM5 := Lib.hid hm5
        have HF5 := Lib.hid (HF4.out.trans hf5 (fun b hb => .inr (HB4.out b hb)))
        clear hm5 hf5 hnx
        go_wp2_with fail
        go_roundw
        case rel => exact ⟨k + 1, by omega, by rw [show min (k + 1) f = f by omega], by go_num, fp4, by rw [show min (k + 1) f = f by omega, show f - (k + 1) = f - k by omega]; exact HM5.out, HF5.out, HB4.out⟩
        case measure => simp [intOf]; omega
    · obtain rfl : k = n := by omega
      have hl := makLeft wr x fp4 _ f (f - k) 3 HM4.out
      obtain ⟨m, hm⟩ : ∃ m, min k f = m := ⟨_, rfl⟩
      rw [hm]
      have e1 : min (k : Int) (f : Int) = (m : Int) := by omega
      have e2 : ((f - k : Nat) : Int) = (f : Int) - (m : Int) := by omega
      rw [e2] at hl
      rw [hm] at HM4
      have hmf : m ≤ f := by omega
      clear e2 hm
      go_wp2_with fail
      refine hl.mono ?_
      rintro e wr ⟨rfl, rfl⟩
      clear hl e1
      cases dr
      · go_wp2_with fail
        refine (makRefuel wr x fp4 _ f (f - k) 3 HM4.out).mono ?_
        rintro e w5 ⟨rfl, hm5, hf5⟩
        have hnx := makNext w5 x fp4 _ f f 3 hm5
        have HF5 := Lib.hid (HF4.out.trans hf5 (fun b hb => .inr (HB4.out b hb)))
        clear hm5 hf5
        by_cases hf0 : f = 0
        · subst hf0
          obtain rfl : m = 0 := by omega
          rw [show nextOk (rfL 0) 0 = false by decide, show nexted (rfL 0) 0 = rfL 0 by decide, show nextRest (rfL 0) 0 = 0 by decide] at hnx
          generalize nextC _ _ = c at hnx
          go_wp2_with fail
          refine hnx.mono ?_
          rintro e w6 ⟨rfl, hm6, hf6⟩
          have hl := makLeft w6 x fp4 _ 0 _ 3 hm6
          have hd := makDeep w6 x fp4 _ 0 _ 3 hm6
          rw [show (rfL 0).length = 1 from rfl] at hd
          have HF6 := Lib.hid (HF5.out.trans hf6 (fun b hb => .inr (HB4.out b hb)))
          clear hm6 hf6 hnx
          go_wp2_with fail
          refine hl.mono ?_
          rintro e w6 ⟨rfl, rfl⟩
          clear hl
          go_wp2_with fail
          refine (lawBoolean w6 false).mono ?_
          rintro e w6 ⟨rfl, rfl⟩
          go_wp2_with fail
          refine hd.mono ?_
          rintro e w6 ⟨rfl, rfl⟩
          clear hd
          go_wp2_with fail
          refine (lawBoolean w6 true).mono ?_
          rintro e w6 ⟨rfl, rfl⟩
          go_wp2_with fail
          refine (macReg w6 _ [] (.inl ⟨rfl, rfl, rfl⟩) (HM.out.frm HF6.out) (by simp)).mono ?_
          rintro e w7 ⟨⟨u, rfl, hu⟩, hf7⟩
          have HU := Lib.hid hu
          have HF7 := Lib.hid (HF6.out.trans hf7 (by simp))
          clear hu hf7
          go_wp2_with fail
          have hfa := (Frm.refl [] w7).alloc (.cells #[.string ⟨#[]⟩] 9)
          have hb := heap_alloc_at w7 (.cells #[.string ⟨#[]⟩] 9)
          have hrg := hlpReg (w7.alloc (.cells #[.string ⟨#[]⟩] 9)) 0 u (.slice (some ⟨w7.heap.size, 0, none⟩) 1 1) [⟨#[]⟩] (RdS.frm (by rw [← linesOf_nil]; exact HU.out) hfa) (.inr ⟨w7.heap.size, 0, 1, rfl, Nat.le_refl _, by simp, fun j s hs => (by
            match j, hs with
            | 0, hs =>
              obtain rfl := Option.some.inj hs
              exact cell_of_heap hb rfl)⟩) (by simp)
          have HFA := Lib.hid (HF7.out.trans hfa (by simp))
          clear hfa hb
          refine hrg.mono ?_
          rintro e w8 ⟨rfl, hf8⟩
          have HF8 := Lib.hid (HFA.out.trans hf8 (by simp))
          clear hf8 hrg
          go_wp2_with fail
          go_ret
          exact ⟨rfl, HF8.out⟩
        · obtain ⟨q1, q2, q3⟩ := rf_next m f (by omega) hf0
          have eg : decide (0 < (f : Int)) = true := decide_eq_true (by omega)
          have el : ((f - 1 : Nat) : Int) = (f : Int) - 1 := by omega
          have EL := Lib.hid el
          clear el
          rw [q1, q2, q3] at hnx
          generalize nextC _ _ = c at hnx
          go_wp2_with fail
          refine hnx.mono ?_
          rintro e w6 ⟨rfl, hm6, hf6⟩
          have hl := makLeft w6 x fp4 _ f _ 3 hm6
          have hd := makDeep w6 x fp4 _ f _ 3 hm6
          rw [show (rfL (m + 1)).length = 1 from rfl] at hd
          have HF6 := Lib.hid (HF5.out.trans hf6 (fun b hb => .inr (HB4.out b hb)))
          clear hm6 hf6 hnx
          rw [EL.out] at hl
          clear q1 q2 q3
          go_wp2_with fail
          refine hl.mono ?_
          rintro e w6 ⟨rfl, rfl⟩
          clear hl
          go_wp2_with fail
          refine (lawBoolean w6 true).mono ?_
          rintro e w6 ⟨rfl, rfl⟩
          go_wp2_with fail
          refine hd.mono ?_
          rintro e w6 ⟨rfl, rfl⟩
          clear hd
          go_wp2_with fail
          refine (lawBoolean w6 true).mono ?_
          rintro e w6 ⟨rfl, rfl⟩
          go_wp2_with fail
          refine (macReg w6 _ [] (.inl ⟨rfl, rfl, rfl⟩) (HM.out.frm HF6.out) (by simp)).mono ?_
          rintro e w7 ⟨⟨u, rfl, hu⟩, hf7⟩
          have HU := Lib.hid hu
          have HF7 := Lib.hid (HF6.out.trans hf7 (by simp))
          clear hu hf7
          go_wp2_with fail
          have hfa := (Frm.refl [] w7).alloc (.cells #[.string ⟨#[]⟩] 9)
          have hb := heap_alloc_at w7 (.cells #[.string ⟨#[]⟩] 9)
          have hrg := hlpReg (w7.alloc (.cells #[.string ⟨#[]⟩] 9)) 0 u (.slice (some ⟨w7.heap.size, 0, none⟩) 1 1) [⟨#[]⟩] (RdS.frm (by rw [← linesOf_nil]; exact HU.out) hfa) (.inr ⟨w7.heap.size, 0, 1, rfl, Nat.le_refl _, by simp, fun j s hs => (by
            match j, hs with
            | 0, hs =>
              obtain rfl := Option.some.inj hs
              exact cell_of_heap hb rfl)⟩) (by simp)
          have HFA := Lib.hid (HF7.out.trans hfa (by simp))
          clear hfa hb
          refine hrg.mono ?_
          rintro e w8 ⟨rfl, hf8⟩
          have HF8 := Lib.hid (HFA.out.trans hf8 (by simp))
          clear hf8 hrg
          go_wp2_with fail
          go_ret
          exact ⟨rfl, HF8.out⟩
      · go_wp2_with fail
        refine (makDrop wr x fp4 _ f (f - k) 3 HM4.out).mono ?_
        rintro e w4 ⟨rfl, hm4, hf4⟩
        have hrf := makRefuel w4 x fp4 _ f (f - k) 3 hm4
        have HF4' := Lib.hid (HF4.out.trans hf4 (fun b hb => .inr (HB4.out b hb)))
        clear hm4 hf4
        go_wp2_with fail
        refine hrf.mono ?_
        rintro e w5 ⟨rfl, hm5, hf5⟩
        have hnx := makNext w5 x fp4 _ f f 3 hm5
        have HF5 := Lib.hid (HF4'.out.trans hf5 (fun b hb => .inr (HB4.out b hb)))
        clear hm5 hf5 hrf
        rw [show nextOk ([] : List AF) f = false from decide_eq_false (fun h => h.1 rfl), show nexted ([] : List AF) f = [] from if_neg (fun h => h.1 rfl), show nextRest ([] : List AF) f = f from if_neg (fun h => h.1 rfl)] at hnx
        generalize nextC _ _ = c at hnx
        go_wp2_with fail
        refine hnx.mono ?_
        rintro e w6 ⟨rfl, hm6, hf6⟩
        have hl := makLeft w6 x fp4 _ f _ 3 hm6
        have hd := makDeep w6 x fp4 _ f _ 3 hm6
        rw [show ([] : List AF).length = 0 from rfl] at hd
        have HF6 := Lib.hid (HF5.out.trans hf6 (fun b hb => .inr (HB4.out b hb)))
        clear hm6 hf6 hnx
        go_wp2_with fail
        refine hl.mono ?_
        rintro e w6 ⟨rfl, rfl⟩
        clear hl
        go_wp2_with fail
        refine (lawBoolean w6 false).mono ?_
        rintro e w6 ⟨rfl, rfl⟩
        go_wp2_with fail
        refine hd.mono ?_
        rintro e w6 ⟨rfl, rfl⟩
        clear hd
        go_wp2_with fail
        refine (lawBoolean w6 false).mono ?_
        rintro e w6 ⟨rfl, rfl⟩
        go_wp2_with fail
        refine (macReg w6 _ [] (.inl ⟨rfl, rfl, rfl⟩) (HM.out.frm HF6.out) (by simp)).mono ?_
        rintro e w7 ⟨⟨u, rfl, hu⟩, hf7⟩
        have HU := Lib.hid hu
        have HF7 := Lib.hid (HF6.out.trans hf7 (by simp))
        clear hu hf7
        go_wp2_with fail
        have hfa := (Frm.refl [] w7).alloc (.cells #[.string ⟨#[]⟩] 9)
        have hb := heap_alloc_at w7 (.cells #[.string ⟨#[]⟩] 9)
        have hrg := hlpReg (w7.alloc (.cells #[.string ⟨#[]⟩] 9)) 0 u (.slice (some ⟨w7.heap.size, 0, none⟩) 1 1) [⟨#[]⟩] (RdS.frm (by rw [← linesOf_nil]; exact HU.out) hfa) (.inr ⟨w7.heap.size, 0, 1, rfl, Nat.le_refl _, by simp, fun j s hs => (by
          match j, hs with
          | 0, hs =>
            obtain rfl := Option.some.inj hs
            exact cell_of_heap hb rfl)⟩) (by simp)
        have HFA := Lib.hid (HF7.out.trans hfa (by simp))
        clear hfa hb
        refine hrg.mono ?_
        rintro e w8 ⟨rfl, hf8⟩
        have HF8 := Lib.hid (HFA.out.trans hf8 (by simp))
        clear hf8 hrg
        go_wp2_with fail
        go_ret
        exact ⟨rfl, HF8.out⟩

end Go.Proofs.YtaobohlcpgnebaaDoor
