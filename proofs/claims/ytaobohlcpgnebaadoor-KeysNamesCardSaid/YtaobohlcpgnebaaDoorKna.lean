/-
  THE WALK OF foolscaplaw23.KeysNames: true at every arguments. Conditions: the table of tens.
-/
import Derived.Test.YtaobohlcpgnebaaDoorK23
import Derived.Test.YtaobohlcpgnebaaDoorBase5
namespace Go.Proofs.YtaobohlcpgnebaaDoor
open Go.RowKit
open Go.Proofs (Tryd.prog)

/-- The values of the law's one statement, operation by operation, and what is told of the slices. -/
def namesR (c : Nat) (n : Int) (L0 L1 L2 : List UInt8) (i : Nat) (v : Value) (w : World) : Prop :=
  if i = 7 ∨ i = 10 then RdB w v L1 else if i = 17 ∨ i = 21 then RdB w v L2 else
    v = [Value.int .u8 (c : Int), .string ⟨L0.toArray⟩, .int .u8 (c : Int), .string ⟨L0.toArray⟩, .bool true, .bool true, .int .i64 n, undef, .string ⟨L1.toArray⟩, .int .i64 n, undef, .string ⟨L1.toArray⟩, .bool true, .bool true, .bool true,
      .int .i64 n, .int .i64 (n.tmod 20000), undef, .string ⟨L2.toArray⟩, .int .i64 n, .int .i64 (n.tmod 20000), undef, .string ⟨L2.toArray⟩, .bool true, .bool true].getD i undef
theorem namesR_later {c : Nat} {n : Int} {L0 L1 L2 : List UInt8} (i : Nat) (v : Value) (A B : World) (h : namesR c n L0 L1 L2 i v A) (hf : Frm [] A B) : namesR c n L0 L1 L2 i v B := by
  unfold namesR at *
  split at h
  · rename_i h1
    rw [if_pos h1]
    exact h.frm hf
  · rename_i h1
    rw [if_neg h1]
    split at h
    · rename_i h2
      rw [if_pos h2]
      exact h.frm hf
    · rename_i h2
      rw [if_neg h2]
      exact h
theorem frm_undrew {S : List Nat} {a b : World} (h : Frm S a.drew b) : Frm S a b := h.ofDrew
theorem tmod_bounds (n : Int) : -20000 < n.tmod 20000 ∧ n.tmod 20000 < 20000 := by
  rcases Int.le_total 0 n with h | h
  · rw [Int.tmod_eq_emod_of_nonneg h]
    omega
  · have h2 : n.tmod 20000 = -((-n).tmod 20000) := by rw [Int.neg_tmod, Int.neg_neg]
    rw [h2, Int.tmod_eq_emod_of_nonneg (by omega)]
    omega

set_option maxRecDepth 100000 in
set_option maxHeartbeats 6400000 in
theorem keysNames (w : World) (c : Nat) (n : Int) (hc : c < 256) (hn0 : -9223372036854775808 ≤ n) (hn1 : n ≤ 9223372036854775807) (ht : Tens w) : Calls Tryd.prog 5 #[.int .u8 (c : Int), .int .i64 n] w fun e w' => e = .returned (.bool true) ∧ Frm [] w w' := by
  have hkn := known23 w ht
  go_enter Tryd.func5, Tryd.ntmps5
  go_wp2_with fail
  refine hkn.mono ?_
  rintro e w1 ⟨rfl, hf1⟩
  have HF1 := Lib.hid hf1
  have hT : ∀ W, Frm [] w1 W → Tens W := fun W h => (ht.frm HF1.out).frm h
  have hmm := tmod_bounds n
  have hm0 : -9223372036854775808 ≤ n.tmod 20000 := by omega
  have hm1 : n.tmod 20000 ≤ 9223372036854775807 := by omega
  have hwm : IntKind.i64.wrap (n.tmod 20000) = n.tmod 20000 := by
    rw [IntKind.wrap_i64]
    omega
  have ha := keysName c hc
  have hb := refName c hc
  have hd1 := fun W (hg : Frm [] w1 W) => keysDigits n hn0 hn1 W (hT W hg)
  have hd2 := fun W (hg : Frm [] w1 W) => keysDigits (n.tmod 20000) hm0 hm1 W (hT W hg)
  have hr1 := fun W => refDigits n hn0 hn1 W
  have hr2 := fun W => refDigits (n.tmod 20000) hm0 hm1 W
  unfold strOf at ha hb
  clear hkn hf1 ht hT
  go_wp2_with fail
  refine (wpIn_wide (n := 3)).1 ?_
  refine wpIn_region_rel (size := 32) wide_wide 25 (namesR c n (nameL c) (Lib.decDigits n.toNat) (Lib.decDigits (n.tmod 20000).toNat)) (Frm []) mixed (by kernel_rfl) (by kernel_rfl) (by decide) (by kernel_rfl) (by kernel_rfl) (by kernel_rfl) (by kernel_rfl) rfl
    (fun h k => h.trans k (by simp)) (Frm.refl _ _) namesR_later ?hgd ?hrun ?htail
  case hgd =>
    intro i o g b hi ho hgo v A hv
    rcases (by omega : i = 0 ∨ i = 1 ∨ i = 2 ∨ i = 3 ∨ i = 4 ∨ i = 5 ∨ i = 6 ∨ i = 7 ∨ i = 8 ∨ i = 9 ∨ i = 10 ∨ i = 11 ∨ i = 12 ∨ i = 13 ∨ i = 14 ∨ i = 15 ∨ i = 16 ∨ i = 17 ∨ i = 18 ∨ i = 19 ∨ i = 20 ∨ i = 21 ∨ i = 22 ∨ i = 23 ∨ i = 24) with rfl | rfl | rfl | rfl | rfl | rfl | rfl | rfl | rfl | rfl | rfl | rfl | rfl | rfl | rfl | rfl | rfl | rfl | rfl | rfl | rfl | rfl | rfl | rfl | rfl
    all_goals obtain rfl := Option.some.inj ho
    all_goals cases hgo
    all_goals simpa [namesR] using hv
  case hrun =>
    intro i hi o ho a w' hG ht
    rcases (by omega : i = 0 ∨ i = 1 ∨ i = 2 ∨ i = 3 ∨ i = 4 ∨ i = 5 ∨ i = 6 ∨ i = 7 ∨ i = 8 ∨ i = 9 ∨ i = 10 ∨ i = 11 ∨ i = 12 ∨ i = 13 ∨ i = 14 ∨ i = 15 ∨ i = 16 ∨ i = 17 ∨ i = 18 ∨ i = 19 ∨ i = 20 ∨ i = 21 ∨ i = 22 ∨ i = 23 ∨ i = 24) with rfl | rfl | rfl | rfl | rfl | rfl | rfl | rfl | rfl | rfl | rfl | rfl | rfl | rfl | rfl | rfl | rfl | rfl | rfl | rfl | rfl | rfl | rfl | rfl | rfl
    all_goals obtain rfl := Option.some.inj ho
    · have h1 := ht.free 0 (by kernel_rfl)
      exact .inl ⟨_, _, by simp [execOp, go_sem, Act.eval, h1]; rfl, by simp [namesR], Frm.refl _ _⟩
    · obtain ⟨v0, h0, e0⟩ := ht.dep 0 7 (by kernel_rfl) rfl
      simp [namesR] at e0
      subst e0
      right
      refine ⟨17, #[.int .u8 (c : Int)], by simp [execOp, go_sem, Act.eval, h0], ?_⟩
      refine (ha w').mono ?_
      rintro e w'' ⟨rfl, hf⟩
      exact ⟨_, rfl, by simp [namesR], hf⟩
    · have h1 := ht.free 0 (by kernel_rfl)
      exact .inl ⟨_, _, by simp [execOp, go_sem, Act.eval, h1]; rfl, by simp [namesR], Frm.refl _ _⟩
    · obtain ⟨v0, h0, e0⟩ := ht.dep 2 9 (by kernel_rfl) rfl
      simp [namesR] at e0
      subst e0
      right
      refine ⟨18, #[.int .u8 (c : Int)], by simp [execOp, go_sem, Act.eval, h0], ?_⟩
      refine (hb w').mono ?_
      rintro e w'' ⟨rfl, hf⟩
      exact ⟨_, rfl, by simp [namesR], hf⟩
    · obtain ⟨v0, h0, e0⟩ := ht.dep 1 8 (by kernel_rfl) rfl
      simp [namesR] at e0
      subst e0
      obtain ⟨v1, h1, e1⟩ := ht.dep 3 10 (by kernel_rfl) rfl
      simp [namesR] at e1
      subst e1
      exact .inl ⟨_, _, by simp [execOp, go_sem, Act.eval, h0, h1]; rfl, by simp [namesR], Frm.refl _ _⟩
    · obtain ⟨v0, h0, e0⟩ := ht.dep 4 11 (by kernel_rfl) rfl
      simp [namesR] at e0
      subst e0
      exact .inl ⟨_, _, by simp [execOp, go_sem, Act.eval, h0]; rfl, by simp [namesR], Frm.refl _ _⟩
    · have h1 := ht.free 1 (by kernel_rfl)
      exact .inl ⟨_, _, by simp [execOp, go_sem, Act.eval, h1]; rfl, by simp [namesR], Frm.refl _ _⟩
    · obtain ⟨v0, h0, e0⟩ := ht.dep 6 13 (by kernel_rfl) rfl
      simp [namesR] at e0
      subst e0
      right
      refine ⟨19, #[.int .i64 n], by simp [execOp, go_sem, Act.eval, h0], ?_⟩
      refine (hd1 w' (frm_undrew hG)).mono ?_
      rintro e w'' ⟨⟨u, rfl, hr⟩, hf⟩
      exact ⟨_, rfl, by simpa [namesR] using hr, hf⟩
    · obtain ⟨v0, h0, e0⟩ := ht.dep 7 14 (by kernel_rfl) rfl
      have e0' : RdB w' v0 (Lib.decDigits n.toNat) := by simpa [namesR] using e0
      have hcv := e0'.convert
      exact .inl ⟨.string ⟨(Lib.decDigits n.toNat).toArray⟩, w', by simp [execOp, go_sem, Act.eval, h0, hcv], by simp [namesR], Frm.refl _ _⟩
    · have h1 := ht.free 1 (by kernel_rfl)
      exact .inl ⟨_, _, by simp [execOp, go_sem, Act.eval, h1]; rfl, by simp [namesR], Frm.refl _ _⟩
    · obtain ⟨v0, h0, e0⟩ := ht.dep 9 16 (by kernel_rfl) rfl
      simp [namesR] at e0
      subst e0
      right
      refine ⟨20, #[.int .i64 n], by simp [execOp, go_sem, Act.eval, h0], ?_⟩
      refine (hr1 w').mono ?_
      rintro e w'' ⟨⟨u, rfl, hr⟩, hf⟩
      exact ⟨_, rfl, by simpa [namesR] using hr, hf⟩
    · obtain ⟨v0, h0, e0⟩ := ht.dep 10 17 (by kernel_rfl) rfl
      have e0' : RdB w' v0 (Lib.decDigits n.toNat) := by simpa [namesR] using e0
      have hcv := e0'.convert
      exact .inl ⟨.string ⟨(Lib.decDigits n.toNat).toArray⟩, w', by simp [execOp, go_sem, Act.eval, h0, hcv], by simp [namesR], Frm.refl _ _⟩
    · obtain ⟨v0, h0, e0⟩ := ht.dep 8 15 (by kernel_rfl) rfl
      simp [namesR] at e0
      subst e0
      obtain ⟨v1, h1, e1⟩ := ht.dep 11 18 (by kernel_rfl) rfl
      simp [namesR] at e1
      subst e1
      exact .inl ⟨_, _, by simp [execOp, go_sem, Act.eval, h0, h1]; rfl, by simp [namesR], Frm.refl _ _⟩
    · obtain ⟨v0, h0, e0⟩ := ht.dep 5 12 (by kernel_rfl) rfl
      simp [namesR] at e0
      subst e0
      obtain ⟨v1, h1, e1⟩ := ht.dep 12 19 (by kernel_rfl) rfl
      simp [namesR] at e1
      subst e1
      exact .inl ⟨_, _, by simp [execOp, go_sem, Act.eval, h0, h1]; rfl, by simp [namesR], Frm.refl _ _⟩
    · obtain ⟨v0, h0, e0⟩ := ht.dep 13 20 (by kernel_rfl) rfl
      simp [namesR] at e0
      subst e0
      exact .inl ⟨_, _, by simp [execOp, go_sem, Act.eval, h0]; rfl, by simp [namesR], Frm.refl _ _⟩
    · have h1 := ht.free 1 (by kernel_rfl)
      exact .inl ⟨_, _, by simp [execOp, go_sem, Act.eval, h1]; rfl, by simp [namesR], Frm.refl _ _⟩
    · obtain ⟨v0, h0, e0⟩ := ht.dep 15 22 (by kernel_rfl) rfl
      simp [namesR] at e0
      subst e0
      exact .inl ⟨_, _, by simp [execOp, go_sem, Act.eval, h0, hwm]; rfl, by simp [namesR], Frm.refl _ _⟩
    · obtain ⟨v0, h0, e0⟩ := ht.dep 16 23 (by kernel_rfl) rfl
      simp [namesR] at e0
      subst e0
      right
      refine ⟨19, #[.int .i64 (n.tmod 20000)], by simp [execOp, go_sem, Act.eval, h0], ?_⟩
      refine (hd2 w' (frm_undrew hG)).mono ?_
      rintro e w'' ⟨⟨u, rfl, hr⟩, hf⟩
      exact ⟨_, rfl, by simpa [namesR] using hr, hf⟩
    · obtain ⟨v0, h0, e0⟩ := ht.dep 17 24 (by kernel_rfl) rfl
      have e0' : RdB w' v0 (Lib.decDigits (n.tmod 20000).toNat) := by simpa [namesR] using e0
      have hcv := e0'.convert
      exact .inl ⟨.string ⟨(Lib.decDigits (n.tmod 20000).toNat).toArray⟩, w', by simp [execOp, go_sem, Act.eval, h0, hcv], by simp [namesR], Frm.refl _ _⟩
    · have h1 := ht.free 1 (by kernel_rfl)
      exact .inl ⟨_, _, by simp [execOp, go_sem, Act.eval, h1]; rfl, by simp [namesR], Frm.refl _ _⟩
    · obtain ⟨v0, h0, e0⟩ := ht.dep 19 26 (by kernel_rfl) rfl
      simp [namesR] at e0
      subst e0
      exact .inl ⟨_, _, by simp [execOp, go_sem, Act.eval, h0, hwm]; rfl, by simp [namesR], Frm.refl _ _⟩
    · obtain ⟨v0, h0, e0⟩ := ht.dep 20 27 (by kernel_rfl) rfl
      simp [namesR] at e0
      subst e0
      right
      refine ⟨20, #[.int .i64 (n.tmod 20000)], by simp [execOp, go_sem, Act.eval, h0], ?_⟩
      refine (hr2 w').mono ?_
      rintro e w'' ⟨⟨u, rfl, hr⟩, hf⟩
      exact ⟨_, rfl, by simpa [namesR] using hr, hf⟩
    · obtain ⟨v0, h0, e0⟩ := ht.dep 21 28 (by kernel_rfl) rfl
      have e0' : RdB w' v0 (Lib.decDigits (n.tmod 20000).toNat) := by simpa [namesR] using e0
      have hcv := e0'.convert
      exact .inl ⟨.string ⟨(Lib.decDigits (n.tmod 20000).toNat).toArray⟩, w', by simp [execOp, go_sem, Act.eval, h0, hcv], by simp [namesR], Frm.refl _ _⟩
    · obtain ⟨v0, h0, e0⟩ := ht.dep 18 25 (by kernel_rfl) rfl
      simp [namesR] at e0
      subst e0
      obtain ⟨v1, h1, e1⟩ := ht.dep 22 29 (by kernel_rfl) rfl
      simp [namesR] at e1
      subst e1
      exact .inl ⟨_, _, by simp [execOp, go_sem, Act.eval, h0, h1]; rfl, by simp [namesR], Frm.refl _ _⟩
    · obtain ⟨v0, h0, e0⟩ := ht.dep 14 21 (by kernel_rfl) rfl
      simp [namesR] at e0
      subst e0
      obtain ⟨v1, h1, e1⟩ := ht.dep 23 30 (by kernel_rfl) rfl
      simp [namesR] at e1
      subst e1
      exact .inl ⟨_, _, by simp [execOp, go_sem, Act.eval, h0, h1]; rfl, by simp [namesR], Frm.refl _ _⟩
  case htail =>
    intro a w' hde hsz hG hall
    obtain ⟨v, hv1, hv2⟩ := hall 24 _ 31 (by omega) rfl rfl
    simp [namesR] at hv2
    subst hv2
    obtain ⟨tm, df⟩ := a
    simp only at hde hsz hv1
    subst hde
    gi_wp2_with fail
    go_wp2_with fail
    go_ret
    refine ⟨?_, HF1.out.trans (frm_undrew hG) (by simp)⟩
    simp [hsz] at hv1 ⊢
    exact hv1

end Go.Proofs.YtaobohlcpgnebaaDoor
