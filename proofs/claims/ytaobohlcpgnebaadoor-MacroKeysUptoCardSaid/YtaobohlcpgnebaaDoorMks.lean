/-
  THE WALK OF foolscaplaw33.MacroKeys: it returns true, and changes nothing that lay in memory. Conditions: the library's MaxLen is a number; the register's lines have at most 2^21 bytes together.
-/
import Derived.Test.YtaobohlcpgnebaaDoorRg
namespace Go.Proofs.YtaobohlcpgnebaaDoor
open Go.RowKit
open Go.Proofs (Tryd.prog)

set_option maxRecDepth 100000 in
set_option maxHeartbeats 1600000 in
theorem hlpPlace (w : World) (k : Int) (hk0 : -9223372036854775808 ≤ k) (hk1 : k ≤ 9223372036854775807) : Calls Tryd.prog 27 #[.int .i64 k, .int .i64 3] w fun e w' => e = .returned (.int .i64 (k % 3)) ∧ w = w' := by
  have hb : -3 < k.tmod 3 ∧ k.tmod 3 < 3 ∧ (k.tmod 3 < 0 → k.tmod 3 + 3 = k % 3) ∧ (¬ k.tmod 3 < 0 → k.tmod 3 = k % 3) := by
    rcases Int.le_total 0 k with h | h
    · rw [Int.tmod_eq_emod_of_nonneg h]
      omega
    · have h2 : k.tmod 3 = -((-k).tmod 3) := by rw [Int.neg_tmod, Int.neg_neg]
      rw [h2, Int.tmod_eq_emod_of_nonneg (by omega)]
      omega
  obtain ⟨h1, h2, h3, h4⟩ := hb
  by_cases hm : k.tmod 3 < 0
  · have HE := Lib.hid (h3 hm)
    have hd : decide (k.tmod 3 < 0) = true := decide_eq_true hm
    clear h3 h4
    go_enter Tryd.func27, Tryd.ntmps27
    go_wp2_with fail
    go_ret
    exact ⟨by rw [HE.out]; rfl, rfl⟩
  · have HE := Lib.hid (h4 hm)
    have hd : decide (k.tmod 3 < 0) = false := decide_eq_false hm
    clear h3 h4
    go_enter Tryd.func27, Tryd.ntmps27
    go_wp2_with fail
    go_ret
    exact ⟨by rw [HE.out]; rfl, rfl⟩
theorem keysOf_linesOf (K : List UInt8) : keysOf 0 (linesOf K) = K := by
  unfold keysOf
  rw [if_neg (by decide), List.append_nil, joined_linesOf]
def mk5R (B NN : Nat) (kd : Int) (v : Value) : Nat → Value → World → Prop := fun q u w => (([(fun u _ => u = .pointer (some ⟨B, 0, none⟩)),
    (fun u _ => u = .int .i64 kd),
    (fun u _ => u = .int .i64 (kd % 3)),
    (fun u _ => u = .pointer (some ⟨B, 1, none⟩)),
    (fun u _ => u = v),
    (fun u _ => u = .agg #[.int .i64 (kd % 3), v]),
    (fun u X => ∃ q, u = .pointer (some ⟨q, 0, none⟩) ∧ NN ≤ q ∧ X.heap[q]? = some (.cells #[.int .i64 0, .slice none 0 0] 42 (0, 0)))] : List (Value → World → Prop)).getD q fun _ _ => False) u w
def mk6R (kd : Int) (v kv : Value) (xs : List ByteArray) (K : List UInt8) : Nat → Value → World → Prop := fun q u w => (([(fun u _ => u = .agg #[.int .i64 (kd % 3), v]),
    (fun u X => RdB X u (keysOf (kd % 3) xs)),
    (fun u _ => u = .string ⟨(keysOf (kd % 3) xs).toArray⟩),
    (fun u _ => u = .agg #[.int .i64 (kd % 3), v]),
    (fun u X => RdB X u (keysOf (kd % 3) xs)),
    (fun u _ => u = .string ⟨(keysOf (kd % 3) xs).toArray⟩),
    (fun u _ => u = .bool true),
    (fun u _ => u = .bool true),
    (fun u _ => u = kv),
    (fun u X => ∃ q, u = .agg #[.int .i64 0, q] ∧ RdS X q (linesOf K)),
    (fun u _ => u = kv),
    (fun u X => ∃ q, u = .agg #[.int .i64 0, q] ∧ RdS X q (linesOf K)),
    (fun u _ => u = .bool true),
    (fun u _ => u = .bool true),
    (fun u _ => u = .bool true),
    (fun u _ => u = kv),
    (fun u X => ∃ q, u = .agg #[.int .i64 0, q] ∧ RdS X q (linesOf K)),
    (fun u X => RdB X u K),
    (fun u _ => u = .string ⟨K.toArray⟩),
    (fun u _ => u = kv),
    (fun u _ => u = .string ⟨K.toArray⟩),
    (fun u _ => u = .bool true),
    (fun u _ => u = .bool true)] : List (Value → World → Prop)).getD q fun _ _ => False) u w

set_option maxRecDepth 100000 in
set_option maxHeartbeats 6400000 in
theorem macroKeys (w : World) (kd : Int) (v : Value) (xs : List ByteArray) (ka : Option Addr) (kc : Nat) (K : List UInt8) (hk0 : -9223372036854775808 ≤ kd) (hk1 : kd ≤ 9223372036854775807) (hv : RdS w v xs) (hxl : xs.length ≤ 9223372036854775807) (hj : (joined xs).length ≤ 4194304) (hkv : RdB w (.slice ka K.length kc) K) (hkc : K.length ≤ kc) (hkl : K.length ≤ 140737488355328) (hm : MaxLenIs w) :
    Calls Tryd.prog 8 #[.agg #[.int .i64 kd, v], .slice ka K.length kc] w fun e w' => e = .returned (.bool true) ∧ Frm [] w w' := by
  obtain ⟨va, vc, rfl⟩ := hv.form
  have hfa : Frm [] w (w.alloc (.cells #[.int .i64 kd, .slice va xs.length vc] 42)) := (Frm.refl _ _).alloc _
  have hb := heap_alloc_at w (.cells #[.int .i64 kd, .slice va xs.length vc] 42)
  have hkn := known33 _ (hm.frm hfa)
  have HV := Lib.hid hv
  have HKV := Lib.hid hkv
  have HM := Lib.hid hm
  have HFA := Lib.hid hfa
  have HB := Lib.hid hb
  clear hm hv hkv hfa hb
  go_enter Tryd.func8, Tryd.ntmps8
  go_wp2_with fail
  refine hkn.mono ?_
  rintro e w1 ⟨rfl, hf1⟩
  have hb1 := hf1.heap HB.out (by simp)
  have hc0 := cell_of_heap (i := 0) hb1 rfl
  have hc1 := cell_of_heap (i := 1) hb1 rfl
  have HF1 := Lib.hid (HFA.out.trans hf1 (by simp))
  clear hkn hf1 hb1
  by_cases h20 : 20 < xs.length
  · go_wp2_with fail
    go_ret
    exact ⟨rfl, HF1.out⟩
  · have e20 : decide ((20 : Int) < (xs.length : Int)) = false := decide_eq_false (by omega)
    by_cases h200 : 200 < K.length
    · go_wp2_with fail
      go_ret
      exact ⟨rfl, HF1.out⟩
    · have e200 : decide ((200 : Int) < (K.length : Int)) = false := decide_eq_false (by omega)
      have hll : (linesOf K).length ≤ 201 := by
        rw [linesOf_length]
        have := Lib.countB_le ⟨#[10]⟩ (by decide) K.length ⟨K.toArray⟩ (Nat.le_refl _)
        have e : (⟨K.toArray⟩ : ByteArray).size = K.length := rfl
        omega
      go_wp2_with fail
      refine (wpIn_wide (n := 3)).1 ?_
      refine wpIn_region_joint (size := 46) wide_wide 7 (mk5R w.heap.size w1.heap.size kd (.slice va xs.length vc)) (Frm []) (fun _ => Frm []) (fun _ _ => True) mixed (by kernel_rfl) (by kernel_rfl) (by decide) (by kernel_rfl) (by kernel_rfl) (by kernel_rfl) (by kernel_rfl) rfl (fun h k => h.trans k (by simp)) (Frm.refl _ _) (fun _ _ _ _ h => h) ?hR trivial ?hgd ?hrun ?htail
      case hR =>
        intro qi qj qv A B hi hj hij h hf
        rcases (by omega : qi = 0 ∨ qi = 1 ∨ qi = 2 ∨ qi = 3 ∨ qi = 4 ∨ qi = 5 ∨ qi = 6) with rfl | rfl | rfl | rfl | rfl | rfl | rfl
        all_goals first
          | exact h
          | (obtain ⟨q, h1, h2, h3⟩ := h
             exact ⟨q, h1, h2, hf.heap h3 (by simp)⟩)
      case hgd =>
        intro qi qo qg qb hi ho hgo qv A hv
        rcases (by omega : qi = 0 ∨ qi = 1 ∨ qi = 2 ∨ qi = 3 ∨ qi = 4 ∨ qi = 5 ∨ qi = 6) with rfl | rfl | rfl | rfl | rfl | rfl | rfl
        all_goals obtain rfl := Option.some.inj ho
        all_goals first
          | (cases hgo; done)
          | (cases hgo; exact hv)
      case hrun =>
        intro qi hi qo ho qa w' L hG ht hLi hJ
        rcases (by omega : qi = 0 ∨ qi = 1 ∨ qi = 2 ∨ qi = 3 ∨ qi = 4 ∨ qi = 5 ∨ qi = 6) with rfl | rfl | rfl | rfl | rfl | rfl | rfl
        all_goals obtain rfl := Option.some.inj ho
        · have h0 := ht.free 2 (by kernel_rfl)
          exact .inl ⟨_, _, by simp [execOp, go_sem, Act.eval, h0]; first | rfl | exact ⟨rfl, rfl⟩, by exact rfl, by exact Frm.refl _ _, trivial⟩
        · obtain ⟨v0, h0, e0⟩ := ht.dep 0 17 (by kernel_rfl) rfl
          obtain rfl : .pointer (some ⟨w.heap.size, 0, none⟩) = v0 := Eq.symm e0
          have hcl := hG.cell hc0 (by simp)
          exact .inl ⟨_, _, by simp [execOp, go_sem, Act.eval, h0, hcl]; first | rfl | exact ⟨rfl, rfl⟩, by exact rfl, by exact Frm.refl _ _, trivial⟩
        · obtain ⟨v0, h0, e0⟩ := ht.dep 1 18 (by kernel_rfl) rfl
          obtain rfl : .int .i64 kd = v0 := Eq.symm e0
          refine .inr ⟨27, #[.int .i64 kd, .int .i64 3], by simp [execOp, go_sem, Act.eval, h0], ?_⟩
          refine (hlpPlace w' kd hk0 hk1).mono ?_
          rintro e w'' ⟨rfl, rfl⟩
          exact ⟨_, rfl, rfl, Frm.refl _ _, trivial⟩
        · have h0 := ht.free 2 (by kernel_rfl)
          exact .inl ⟨_, _, by simp [execOp, go_sem, Act.eval, h0]; first | rfl | exact ⟨rfl, rfl⟩, by exact rfl, by exact Frm.refl _ _, trivial⟩
        · obtain ⟨v0, h0, e0⟩ := ht.dep 3 20 (by kernel_rfl) rfl
          obtain rfl : .pointer (some ⟨w.heap.size, 1, none⟩) = v0 := Eq.symm e0
          have hcl := hG.cell hc1 (by simp)
          exact .inl ⟨_, _, by simp [execOp, go_sem, Act.eval, h0, hcl]; first | rfl | exact ⟨rfl, rfl⟩, by exact rfl, by exact Frm.refl _ _, trivial⟩
        · obtain ⟨v0, h0, e0⟩ := ht.dep 2 19 (by kernel_rfl) rfl
          obtain rfl : .int .i64 (kd % 3) = v0 := Eq.symm e0
          obtain ⟨v1, h1, e1⟩ := ht.dep 4 21 (by kernel_rfl) rfl
          obtain rfl : .slice va xs.length vc = v1 := Eq.symm e1
          exact .inl ⟨_, _, by simp [execOp, go_sem, Act.eval, h0, h1]; first | rfl | exact ⟨rfl, rfl⟩, by exact rfl, by exact Frm.refl _ _, trivial⟩
        · exact .inl ⟨_, _, by simp [execOp, go_sem, Act.eval]; first | rfl | exact ⟨rfl, rfl⟩, ⟨_, rfl, hG.size, by simpa using heap_alloc_at w' _⟩, (Frm.refl _ _).alloc _, trivial⟩
      case htail =>
        intro a' w' L hde hsz hG hL hJ hall hfree
        obtain ⟨u0, k0, e0⟩ := hall 0 _ 17 (by omega) rfl rfl
        obtain rfl : .pointer (some ⟨w.heap.size, 0, none⟩) = u0 := Eq.symm e0
        obtain ⟨u1, k1, e1⟩ := hall 1 _ 18 (by omega) rfl rfl
        obtain rfl : .int .i64 kd = u1 := Eq.symm e1
        obtain ⟨u2, k2, e2⟩ := hall 2 _ 19 (by omega) rfl rfl
        obtain rfl : .int .i64 (kd % 3) = u2 := Eq.symm e2
        obtain ⟨u3, k3, e3⟩ := hall 3 _ 20 (by omega) rfl rfl
        obtain rfl : .pointer (some ⟨w.heap.size, 1, none⟩) = u3 := Eq.symm e3
        obtain ⟨u4, k4, e4⟩ := hall 4 _ 21 (by omega) rfl rfl
        obtain rfl : .slice va xs.length vc = u4 := Eq.symm e4
        obtain ⟨u5, k5, e5⟩ := hall 5 _ 22 (by omega) rfl rfl
        obtain rfl : .agg #[.int .i64 (kd % 3), .slice va xs.length vc] = u5 := Eq.symm e5
        obtain ⟨u6, k6, r6⟩ := hall 6 _ 5 (by omega) rfl rfl
        replace r6 : (fun u X => ∃ q, u = .pointer (some ⟨q, 0, none⟩) ∧ w1.heap.size ≤ q ∧ X.heap[q]? = some (.cells #[.int .i64 0, .slice none 0 0] 42 (0, 0))) u6 w' := r6
        obtain ⟨bx, rfl, hbx, hbc⟩ := r6
        obtain ⟨tm, df⟩ := a'
        simp only at hde hsz hfree k0 k1 k2 k3 k4 k5 k6
        have htm := tmps_of [(17, .pointer (some ⟨w.heap.size, 0, none⟩)), (18, .int .i64 kd), (19, .int .i64 (kd % 3)), (20, .pointer (some ⟨w.heap.size, 1, none⟩)), (21, .slice va xs.length vc), (22, .agg #[.int .i64 (kd % 3), .slice va xs.length vc]), (5, .pointer (some ⟨bx, 0, none⟩))] _ (hsz.trans (show 46 = _ from rfl)) (by
          intro q hq
          simp only [List.mem_cons, List.not_mem_nil, or_false] at hq
          rcases hq with rfl | rfl | rfl | rfl | rfl | rfl | rfl
          all_goals assumption) (fun d hd => hfree d (fun j q hj hq => (by
            rcases (by omega : j = 0 ∨ j = 1 ∨ j = 2 ∨ j = 3 ∨ j = 4 ∨ j = 5 ∨ j = 6) with rfl | rfl | rfl | rfl | rfl | rfl | rfl
            all_goals (obtain rfl := Option.some.inj hq; exact fun e => hd (by have e2 := Option.some.inj e; subst e2; simp)))))
        subst hde
        simp only [List.foldl_cons, List.foldl_nil, List.setIfInBounds_toArray, List.set_cons_succ, List.set_cons_zero] at htm
        subst htm
        clear hall hfree k0 k1 k2 k3 k4 k5 k6
        have HF2 := Lib.hid (HF1.out.trans hG.ofDrew (by simp))
        have q0 := cell_of_heap (i := 0) hbc rfl
        have q1 := cell_of_heap (i := 1) hbc rfl
        have z0 := frozen_of_heap 0 hbc
        have z1 := frozen_of_heap 1 hbc
        have hs1 := heap_set_at (i := 0) (.int .i64 (kd % 3)) hbc
        have hs2 := heap_set_at (i := 1) (.slice va xs.length vc) hs1
        have hbw : w.heap.size ≤ bx := Nat.le_trans (HF1.out.size) hbx
        have HS2 := Lib.hid hs2
        have HF3 := Lib.hid ((HF2.out.setCell (p := ⟨bx, 0, none⟩) (.inr hbw) (.int .i64 (kd % 3))).setCell (p := ⟨bx, 1, none⟩) (.inr hbw) (.slice va xs.length vc))
        clear hJ hL hG hs1 hs2 hbc
        gi_wp2_with fail
        go_wp2_with fail
        refine wp_name fun W3 hW3 => ?_
        rw [← hW3] at HS2 HF3
        have hx0 := cell_of_heap (i := 0) HS2.out rfl
        have hx1 := cell_of_heap (i := 1) HS2.out rfl
        clear hW3 q0 q1 z0 z1 hc0 hc1
        clear HF2
        have HF2 := HF3
        refine (wpIn_wide (n := 3)).1 ?_
        refine wpIn_region_joint (size := 46) wide_wide 23 (mk6R kd (.slice va xs.length vc) (.slice ka K.length kc) xs K) (Frm []) (fun _ => Frm []) (fun _ _ => True) mixed (by kernel_rfl) (by kernel_rfl) (by decide) (by kernel_rfl) (by kernel_rfl) (by kernel_rfl) (by kernel_rfl) rfl (fun h k => h.trans k (by simp)) (Frm.refl _ _) (fun _ _ _ _ h => h) ?hR trivial ?hgd ?hrun ?htail
        case hR =>
          intro qi qj qv A B hi hj hij h hf
          rcases (by omega : qi = 0 ∨ qi = 1 ∨ qi = 2 ∨ qi = 3 ∨ qi = 4 ∨ qi = 5 ∨ qi = 6 ∨ qi = 7 ∨ qi = 8 ∨ qi = 9 ∨ qi = 10 ∨ qi = 11 ∨ qi = 12 ∨ qi = 13 ∨ qi = 14 ∨ qi = 15 ∨ qi = 16 ∨ qi = 17 ∨ qi = 18 ∨ qi = 19 ∨ qi = 20 ∨ qi = 21 ∨ qi = 22) with rfl | rfl | rfl | rfl | rfl | rfl | rfl | rfl | rfl | rfl | rfl | rfl | rfl | rfl | rfl | rfl | rfl | rfl | rfl | rfl | rfl | rfl | rfl
          all_goals first
            | exact h
            | exact RdB.frm h hf
            | (obtain ⟨q, h1, h2⟩ := h
               exact ⟨q, h1, h2.frm hf⟩)
        case hgd =>
          intro qi qo qg qb hi ho hgo qv A hv
          rcases (by omega : qi = 0 ∨ qi = 1 ∨ qi = 2 ∨ qi = 3 ∨ qi = 4 ∨ qi = 5 ∨ qi = 6 ∨ qi = 7 ∨ qi = 8 ∨ qi = 9 ∨ qi = 10 ∨ qi = 11 ∨ qi = 12 ∨ qi = 13 ∨ qi = 14 ∨ qi = 15 ∨ qi = 16 ∨ qi = 17 ∨ qi = 18 ∨ qi = 19 ∨ qi = 20 ∨ qi = 21 ∨ qi = 22) with rfl | rfl | rfl | rfl | rfl | rfl | rfl | rfl | rfl | rfl | rfl | rfl | rfl | rfl | rfl | rfl | rfl | rfl | rfl | rfl | rfl | rfl | rfl
          all_goals obtain rfl := Option.some.inj ho
          all_goals first
            | (cases hgo; done)
            | (cases hgo; exact hv)
        case hrun =>
          intro qi hi qo ho qa w' L hG ht hLi hJ
          rcases (by omega : qi = 0 ∨ qi = 1 ∨ qi = 2 ∨ qi = 3 ∨ qi = 4 ∨ qi = 5 ∨ qi = 6 ∨ qi = 7 ∨ qi = 8 ∨ qi = 9 ∨ qi = 10 ∨ qi = 11 ∨ qi = 12 ∨ qi = 13 ∨ qi = 14 ∨ qi = 15 ∨ qi = 16 ∨ qi = 17 ∨ qi = 18 ∨ qi = 19 ∨ qi = 20 ∨ qi = 21 ∨ qi = 22) with rfl | rfl | rfl | rfl | rfl | rfl | rfl | rfl | rfl | rfl | rfl | rfl | rfl | rfl | rfl | rfl | rfl | rfl | rfl | rfl | rfl | rfl | rfl
          all_goals obtain rfl := Option.some.inj ho
          · have h0 := ht.free 5 (by kernel_rfl)
            have hcl0 := hG.cell hx0 (by simp)
            have hcl1 := hG.cell hx1 (by simp)
            exact .inl ⟨_, _, by simp [execOp, go_sem, Act.eval, h0, hcl0, hcl1]; first | rfl | exact ⟨rfl, rfl⟩, by exact rfl, by exact Frm.refl _ _, trivial⟩
          · obtain ⟨v0, h0, e0⟩ := ht.dep 0 23 (by kernel_rfl) rfl
            obtain rfl : .agg #[.int .i64 (kd % 3), .slice va xs.length vc] = v0 := Eq.symm e0
            have hFw := HF2.out.trans hG.ofDrew (by simp)
            refine .inr ⟨28, #[.agg #[.int .i64 (kd % 3), .slice va xs.length vc]], by simp [execOp, go_sem, Act.eval, h0], ?_⟩
            refine (macKeys w' (kd % 3) _ xs (HV.out.frm hFw) (by omega) (by omega)).mono ?_
            rintro e w'' ⟨⟨u, rfl, hr⟩, hf⟩
            exact ⟨_, rfl, hr, hf, trivial⟩
          · obtain ⟨v0, h0, e0⟩ := ht.dep 1 24 (by kernel_rfl) rfl
            replace e0 : (fun u X => RdB X u (keysOf (kd % 3) xs)) v0 w' := e0
            have hcv := RdB.convert e0
            exact .inl ⟨_, _, by simp [execOp, go_sem, Act.eval, h0, hcv]; rfl, by exact rfl, Frm.refl _ _, trivial⟩
          · have h0 := ht.free 5 (by kernel_rfl)
            have hcl0 := hG.cell hx0 (by simp)
            have hcl1 := hG.cell hx1 (by simp)
            exact .inl ⟨_, _, by simp [execOp, go_sem, Act.eval, h0, hcl0, hcl1]; first | rfl | exact ⟨rfl, rfl⟩, by exact rfl, by exact Frm.refl _ _, trivial⟩
          · obtain ⟨v0, h0, e0⟩ := ht.dep 3 26 (by kernel_rfl) rfl
            obtain rfl : .agg #[.int .i64 (kd % 3), .slice va xs.length vc] = v0 := Eq.symm e0
            have hFw := HF2.out.trans hG.ofDrew (by simp)
            refine .inr ⟨29, #[.agg #[.int .i64 (kd % 3), .slice va xs.length vc]], by simp [execOp, go_sem, Act.eval, h0], ?_⟩
            refine (refKeysOf w' (kd % 3) _ xs (HV.out.frm hFw) (by omega) (by omega)).mono ?_
            rintro e w'' ⟨⟨u, rfl, hr⟩, hf⟩
            exact ⟨_, rfl, hr, hf, trivial⟩
          · obtain ⟨v0, h0, e0⟩ := ht.dep 4 27 (by kernel_rfl) rfl
            replace e0 : (fun u X => RdB X u (keysOf (kd % 3) xs)) v0 w' := e0
            have hcv := RdB.convert e0
            exact .inl ⟨_, _, by simp [execOp, go_sem, Act.eval, h0, hcv]; rfl, by exact rfl, Frm.refl _ _, trivial⟩
          · obtain ⟨v0, h0, e0⟩ := ht.dep 2 25 (by kernel_rfl) rfl
            obtain rfl : .string ⟨(keysOf (kd % 3) xs).toArray⟩ = v0 := Eq.symm e0
            obtain ⟨v1, h1, e1⟩ := ht.dep 5 28 (by kernel_rfl) rfl
            obtain rfl : .string ⟨(keysOf (kd % 3) xs).toArray⟩ = v1 := Eq.symm e1
            exact .inl ⟨_, _, by simp [execOp, go_sem, Act.eval, h0, h1]; first | rfl | exact ⟨rfl, rfl⟩, by exact rfl, by exact Frm.refl _ _, trivial⟩
          · obtain ⟨v0, h0, e0⟩ := ht.dep 6 29 (by kernel_rfl) rfl
            obtain rfl : .bool true = v0 := Eq.symm e0
            exact .inl ⟨_, _, by simp [execOp, go_sem, Act.eval, h0]; first | rfl | exact ⟨rfl, rfl⟩, by exact rfl, by exact Frm.refl _ _, trivial⟩
          · have h0 := ht.free 1 (by kernel_rfl)
            exact .inl ⟨_, _, by simp [execOp, go_sem, Act.eval, h0]; first | rfl | exact ⟨rfl, rfl⟩, by exact rfl, by exact Frm.refl _ _, trivial⟩
          · obtain ⟨v0, h0, e0⟩ := ht.dep 8 31 (by kernel_rfl) rfl
            obtain rfl : .slice ka K.length kc = v0 := Eq.symm e0
            have hFw := HF2.out.trans hG.ofDrew (by simp)
            refine .inr ⟨31, #[.slice ka K.length kc], by simp [execOp, go_sem, Act.eval, h0], ?_⟩
            refine (macReg w' _ K (HKV.out.frm hFw) (HM.out.frm hFw) (by omega)).mono ?_
            rintro e w'' ⟨⟨u, rfl, hr⟩, hf⟩
            exact ⟨_, rfl, ⟨u, rfl, hr⟩, hf, trivial⟩
          · have h0 := ht.free 1 (by kernel_rfl)
            exact .inl ⟨_, _, by simp [execOp, go_sem, Act.eval, h0]; first | rfl | exact ⟨rfl, rfl⟩, by exact rfl, by exact Frm.refl _ _, trivial⟩
          · obtain ⟨v0, h0, e0⟩ := ht.dep 10 33 (by kernel_rfl) rfl
            obtain rfl : .slice ka K.length kc = v0 := Eq.symm e0
            have hFw := HF2.out.trans hG.ofDrew (by simp)
            refine .inr ⟨32, #[.slice ka K.length kc], by simp [execOp, go_sem, Act.eval, h0], ?_⟩
            refine (refRegOf w' _ _ K (HKV.out.frm hFw) hkc (by omega)).mono ?_
            rintro e w'' ⟨⟨u, rfl, hr⟩, hf⟩
            exact ⟨_, rfl, ⟨u, rfl, hr⟩, hf, trivial⟩
          · obtain ⟨v0, h0, e0⟩ := ht.dep 9 32 (by kernel_rfl) rfl
            replace e0 : (fun u X => ∃ q, u = .agg #[.int .i64 0, q] ∧ RdS X q (linesOf K)) v0 w' := e0
            obtain ⟨v1, h1, e1⟩ := ht.dep 11 34 (by kernel_rfl) rfl
            replace e1 : (fun u X => ∃ q, u = .agg #[.int .i64 0, q] ∧ RdS X q (linesOf K)) v1 w' := e1
            obtain ⟨q0, rfl, hq0⟩ := e0
            obtain ⟨q1, rfl, hq1⟩ := e1
            refine .inr ⟨30, #[.agg #[.int .i64 0, q0], .agg #[.int .i64 0, q1]], by simp [execOp, go_sem, Act.eval, h0, h1], ?_⟩
            refine (hlpReg w' 0 q0 q1 (linesOf K) hq0 hq1 (by omega)).mono ?_
            rintro e w'' ⟨rfl, hf⟩
            exact ⟨_, rfl, rfl, hf, trivial⟩
          · obtain ⟨v0, h0, e0⟩ := ht.dep 7 30 (by kernel_rfl) rfl
            obtain rfl : .bool true = v0 := Eq.symm e0
            obtain ⟨v1, h1, e1⟩ := ht.dep 12 35 (by kernel_rfl) rfl
            obtain rfl : .bool true = v1 := Eq.symm e1
            exact .inl ⟨_, _, by simp [execOp, go_sem, Act.eval, h0, h1]; first | rfl | exact ⟨rfl, rfl⟩, by exact rfl, by exact Frm.refl _ _, trivial⟩
          · obtain ⟨v0, h0, e0⟩ := ht.dep 13 36 (by kernel_rfl) rfl
            obtain rfl : .bool true = v0 := Eq.symm e0
            exact .inl ⟨_, _, by simp [execOp, go_sem, Act.eval, h0]; first | rfl | exact ⟨rfl, rfl⟩, by exact rfl, by exact Frm.refl _ _, trivial⟩
          · have h0 := ht.free 1 (by kernel_rfl)
            exact .inl ⟨_, _, by simp [execOp, go_sem, Act.eval, h0]; first | rfl | exact ⟨rfl, rfl⟩, by exact rfl, by exact Frm.refl _ _, trivial⟩
          · obtain ⟨v0, h0, e0⟩ := ht.dep 15 38 (by kernel_rfl) rfl
            obtain rfl : .slice ka K.length kc = v0 := Eq.symm e0
            have hFw := HF2.out.trans hG.ofDrew (by simp)
            refine .inr ⟨31, #[.slice ka K.length kc], by simp [execOp, go_sem, Act.eval, h0], ?_⟩
            refine (macReg w' _ K (HKV.out.frm hFw) (HM.out.frm hFw) (by omega)).mono ?_
            rintro e w'' ⟨⟨u, rfl, hr⟩, hf⟩
            exact ⟨_, rfl, ⟨u, rfl, hr⟩, hf, trivial⟩
          · obtain ⟨v0, h0, e0⟩ := ht.dep 16 39 (by kernel_rfl) rfl
            replace e0 : (fun u X => ∃ q, u = .agg #[.int .i64 0, q] ∧ RdS X q (linesOf K)) v0 w' := e0
            obtain ⟨q0, rfl, hq0⟩ := e0
            refine .inr ⟨28, #[.agg #[.int .i64 0, q0]], by simp [execOp, go_sem, Act.eval, h0], ?_⟩
            refine (macKeys w' 0 q0 (linesOf K) hq0 (by omega) (by rw [joined_linesOf]; omega)).mono ?_
            rintro e w'' ⟨⟨u, rfl, hr⟩, hf⟩
            rw [keysOf_linesOf] at hr
            exact ⟨_, rfl, hr, hf, trivial⟩
          · obtain ⟨v0, h0, e0⟩ := ht.dep 17 40 (by kernel_rfl) rfl
            replace e0 : (fun u X => RdB X u K) v0 w' := e0
            have hcv := RdB.convert e0
            exact .inl ⟨_, _, by simp [execOp, go_sem, Act.eval, h0, hcv]; rfl, by exact rfl, Frm.refl _ _, trivial⟩
          · have h0 := ht.free 1 (by kernel_rfl)
            exact .inl ⟨_, _, by simp [execOp, go_sem, Act.eval, h0]; first | rfl | exact ⟨rfl, rfl⟩, by exact rfl, by exact Frm.refl _ _, trivial⟩
          · obtain ⟨v0, h0, e0⟩ := ht.dep 19 42 (by kernel_rfl) rfl
            obtain rfl : .slice ka K.length kc = v0 := Eq.symm e0
            have hcv := RdB.convert ((HKV.out.frm HF2.out).frm hG.ofDrew)
            exact .inl ⟨_, _, by simp [execOp, go_sem, Act.eval, h0, hcv]; rfl, by exact rfl, Frm.refl _ _, trivial⟩
          · obtain ⟨v0, h0, e0⟩ := ht.dep 18 41 (by kernel_rfl) rfl
            obtain rfl : .string ⟨K.toArray⟩ = v0 := Eq.symm e0
            obtain ⟨v1, h1, e1⟩ := ht.dep 20 43 (by kernel_rfl) rfl
            obtain rfl : .string ⟨K.toArray⟩ = v1 := Eq.symm e1
            exact .inl ⟨_, _, by simp [execOp, go_sem, Act.eval, h0, h1]; first | rfl | exact ⟨rfl, rfl⟩, by exact rfl, by exact Frm.refl _ _, trivial⟩
          · obtain ⟨v0, h0, e0⟩ := ht.dep 14 37 (by kernel_rfl) rfl
            obtain rfl : .bool true = v0 := Eq.symm e0
            obtain ⟨v1, h1, e1⟩ := ht.dep 21 44 (by kernel_rfl) rfl
            obtain rfl : .bool true = v1 := Eq.symm e1
            exact .inl ⟨_, _, by simp [execOp, go_sem, Act.eval, h0, h1]; first | rfl | exact ⟨rfl, rfl⟩, by exact rfl, by exact Frm.refl _ _, trivial⟩
        case htail =>
          intro a' w' L hde hsz hG hL hJ hall hfree
          obtain ⟨u22, k22, e22⟩ := hall 22 _ 45 (by omega) rfl rfl
          obtain rfl : .bool true = u22 := Eq.symm e22
          have HF3 := Lib.hid (HF2.out.trans hG.ofDrew (by simp))
          obtain ⟨tm2, df2⟩ := a'
          simp only at hde hsz k22
          subst hde
          clear hall hfree hJ hL hG e22
          gi_wp2_with fail
          go_wp2_with fail
          go_ret
          refine ⟨?_, HF3.out⟩
          simp [hsz] at k22 ⊢
          exact k22

end Go.Proofs.YtaobohlcpgnebaaDoor
