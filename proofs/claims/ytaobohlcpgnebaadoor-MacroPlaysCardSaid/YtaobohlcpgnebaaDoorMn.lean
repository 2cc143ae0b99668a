/-
  macro.Stack's Next: plain laws of what settle leaves. Conditions: each frame is to be played once at least.
-/
import Derived.Test.YtaobohlcpgnebaaDoorMe
namespace Go.Proofs.YtaobohlcpgnebaaDoor
open Go.RowKit
open Go.Proofs (Tryd.prog)

theorem settleL_good : ∀ l : List Fr, (∀ f ∈ l, 1 ≤ f.2.2.1 ∧ f.2.2.1 ≤ 9223372036854775807 ∧ f.2.2.2 ≤ f.2.1.length ∧ f.2.1 ≠ [] ∧ f.2.1.length ≤ 1000000) →
    (∀ f ∈ settleL l, 1 ≤ f.2.2.1 ∧ f.2.2.1 ≤ 9223372036854775807 ∧ f.2.2.2 ≤ f.2.1.length ∧ f.2.1 ≠ [] ∧ f.2.1.length ≤ 1000000) ∧ (settleL l).length ≤ l.length ∧ ∀ f r, settleL l = f :: r → f.2.2.2 < f.2.1.length
  | [], _ => ⟨by simp [settleL], by simp [settleL], by simp [settleL]⟩
  | f :: r, h => by
    have hf := h f (by simp)
    have ih := settleL_good r (fun q hq => h q (List.mem_cons_of_mem _ hq))
    unfold settleL
    split
    · rename_i he
      split
      · rename_i h1
        refine ⟨fun q hq => ?_, by simp, fun q s e => ?_⟩
        · rcases List.mem_cons.1 hq with rfl | hq
          · exact ⟨by simp only; omega, by simp only; omega, by simp, hf.2.2.2.1, hf.2.2.2.2⟩
          · exact h q (List.mem_cons_of_mem _ hq)
        · obtain ⟨rfl, rfl⟩ := List.cons.inj e
          exact List.length_pos_iff.2 hf.2.2.2.1
      · exact ⟨ih.1, by simp only [List.length_cons]; omega, ih.2.2⟩
    · rename_i he
      refine ⟨h, Nat.le_refl _, fun q s e => ?_⟩
      obtain ⟨rfl, rfl⟩ := List.cons.inj e
      omega

/-- The frames once settled. -/
def settled (fs : List Fr) : List Fr := (settleL fs.reverse).reverse
theorem settled_good {fs : List Fr} (h : Goodf fs) : Goodf (settled fs) ∧ (settled fs).length ≤ fs.length ∧ ∀ r f, settled fs = r ++ [f] → f.2.2.2 < f.2.1.length := by
  obtain ⟨h1, h2, h3⟩ := settleL_good fs.reverse (fun f hf => h f (by simpa using hf))
  refine ⟨fun f hf => h1 f (by simpa [settled] using hf), by simpa [settled] using h2, fun r f e => h3 f r.reverse ?_⟩
  have := congrArg List.reverse e
  simpa [settled] using this

set_option maxRecDepth 100000 in
set_option maxHeartbeats 3200000 in
theorem macNext_none (w : World) (x : Nat) (fp : List Nat) (fs : List Fr) (fuel left depth : Nat) (h : Mac w x fp fs fuel left depth) (hg : Goodf fs) (hl : fs.length ≤ 1000000) (h0 : settled fs = [] ∨ left = 0) :
    Calls Tryd.prog 24 #[.pointer (some ⟨x, 0, none⟩)] w fun e w' => e = .returned (.tuple #[.int .u8 0, .bool false]) ∧ Mac w' x fp (settled fs) fuel left depth ∧ Frm fp w w' := by
  have hs := macSettle w x fp fs fuel left depth h hg hl
  go_enter Tryd.func24, Tryd.ntmps24
  go_wp2_with fail
  refine hs.mono ?_
  rintro e w1 ⟨rfl, hm, hf⟩
  change Mac w1 x fp (settled fs) fuel left depth at hm
  obtain ⟨la, lc, h1⟩ := hm.form
  have hc0 := cell_of_heap (i := 0) h1 rfl
  have hc2 := cell_of_heap (i := 2) h1 rfl
  have HM := Lib.hid hm
  have HF := Lib.hid hf
  clear hs h hm hf h1
  by_cases he : (settled fs).length = 0
  · have ht : (((settled fs).length : Int) == 0) = true := by rw [he]; rfl
    generalize (settled fs).length = n at *
    go_wp2_with fail
    go_ret2
    exact ⟨rfl, HM.out, HF.out⟩
  · have hl0 : left = 0 := by
      rcases h0 with h | h
      · rw [h] at he; exact absurd rfl he
      · exact h
    subst hl0
    have ht : (((settled fs).length : Int) == 0) = false := by rw [beq_eq_false_iff_ne]; omega
    go_wp2_with fail
    go_ret2
    exact ⟨rfl, HM.out, HF.out⟩

theorem Mac.fuelled {w : World} {x : Nat} {fp : List Nat} {fs : List Fr} {fuel left depth : Nat} (h : Mac w x fp fs fuel left depth) (l2 : Nat) : Mac (w.setCell ⟨x, 2, none⟩ (.int .i64 (l2 : Int))) x fp fs fuel l2 depth := by
  obtain ⟨lv, h1, h2, h3, h4, h5, h6⟩ := h
  have hs := heap_set_at (i := 2) (.int .i64 (l2 : Int)) h1
  have hf := (Frm.refl [x] w).setCell (p := ⟨x, 2, none⟩) (.inl (by simp)) (.int .i64 (l2 : Int))
  exact ⟨lv, hs, ownsRow_frm h2 hf (fun b hb e => (h4 b e).2 (by simpa using hb)), h3, h4, fun b hb => Nat.lt_of_lt_of_le (h5 b hb) hf.size, fun f hm => ⟨Rd.frm (h6 f hm).1 hf (fun b hb e => ((h6 f hm).2 b e).2.1 (by simpa using hb)), (h6 f hm).2⟩⟩

set_option maxRecDepth 100000 in
set_option maxHeartbeats 3200000 in
theorem macNext_some (w : World) (x : Nat) (fp : List Nat) (fs r : List Fr) (kv : Value) (K : List UInt8) (n at' : Nat) (fuel left depth : Nat) (h : Mac w x fp fs fuel (left + 1) depth) (hg : Goodf fs) (hl : fs.length ≤ 1000000) (hlf : left + 1 ≤ 9223372036854775807) (hst : settled fs = r ++ [(kv, K, n, at')]) (c : UInt8) (hc : K[at']? = some c) :
    Calls Tryd.prog 24 #[.pointer (some ⟨x, 0, none⟩)] w fun e w' => e = .returned (.tuple #[.int .u8 (c.toNat : Int), .bool true]) ∧ Mac w' x fp (settled (r ++ [(kv, K, n, at' + 1)])) fuel left depth ∧ Frm fp w w' := by
  have hs := macSettle w x fp fs fuel (left + 1) depth h hg hl
  obtain ⟨hg1, hl1, hat⟩ := settled_good hg
  rw [hst] at hg1 hl1
  have hat' : at' < K.length := hat r _ hst
  obtain ⟨n1, n2, n3, n4, n5⟩ := hg1 (kv, K, n, at') (by simp)
  simp only at n1 n2 n3 n4 n5
  have hg2 : Goodf (r ++ [(kv, K, n, at' + 1)]) := fun f hf => by
    rcases List.mem_append.1 hf with h | h
    · exact hg1 f (List.mem_append_left _ h)
    · obtain rfl : f = (kv, K, n, at' + 1) := by simpa using h
      exact ⟨n1, n2, by simp only; omega, n4, n5⟩
  have hl2 : (r ++ [((kv, K, n, at' + 1) : Fr)]).length ≤ 1000000 := by simp at hl1 ⊢; omega
  have hlr : r.length + 1 ≤ 1000000 := by simpa using hl2
  go_enter Tryd.func24, Tryd.ntmps24
  go_wp2_with fail
  refine hs.mono ?_
  rintro e w1 ⟨rfl, hm, hf⟩
  change Mac w1 x fp (settled fs) fuel (left + 1) depth at hm
  rw [hst] at hm
  obtain ⟨g, lc, cur, h1, hgc, hgf, hgx, k0, k1, k2, hlc, hlm, hrd, hput, hpop, htk⟩ := hm.last
  simp only at k0 k1 k2 hrd
  rcases hrd with ⟨q1, q2, _⟩ | ⟨ka, kc, rfl, hkc⟩
  · exact absurd (List.eq_nil_of_length_eq_zero q2) n4
  have hcc := hkc at' (encB c) (by simp [hc])
  simp only [encB] at hcc
  have hc0 := cell_of_heap (i := 0) h1 rfl
  have hc2 := cell_of_heap (i := 2) h1 rfl
  have hk0 := cell_of_heap hgc k0
  have hk2 := cell_of_heap hgc k2
  have hz2 := frozen_of_heap (r.length * 3 + 2) hgc
  have hzx := frozen_of_heap 2 h1
  have hs1 := heap_set_at (i := r.length * 3 + 2) (.int .i64 ((at' : Int) + 1)) hgc
  have hp1 := last_put (f' := (.slice (some ka) K.length kc, K, n, at' + 1)) htk 2 (by omega) (.int .i64 ((at' : Int) + 1)) (by simp [fcells])
  have hfr := ((Frm.refl [g] w1).setCell (p := ⟨g, r.length * 3 + 2, none⟩) (.inl (by simp)) (.int .i64 ((at' : Int) + 1)))
  have hmac := (hput _ _ (.slice (some ka) K.length kc, K, n, at' + 1) hfr hs1 (by simp) rfl rfl hp1).fuelled left
  have hxf : x ∈ fp := by
    obtain ⟨_, _, _, h3, _⟩ := hm
    exact h3
  have hfr2 := (hf.trans hfr (fun b hb => .inl (by simp at hb; subst hb; exact hgf))).setCell (p := ⟨x, 2, none⟩) (.inl hxf) (.int .i64 (left : Int))
  have HMAC := Lib.hid hmac
  have HFR := Lib.hid hfr2
  have HG2 := Lib.hid hg2
  have hgx' : ¬ x = g := fun e => hgx e.symm
  have ht0 : (((left + 1 : Nat) : Int) == 0) = false := by rw [beq_eq_false_iff_ne]; omega
  have ht1 : (((r.length : Int) + 1) == 0) = false := by rw [beq_eq_false_iff_ne]; omega
  have ht2 : (((left : Int) + 1) == 0) = false := by rw [beq_eq_false_iff_ne]; omega
  have hln : ((r ++ [((Value.slice (some ka) K.length kc, K, n, at') : Fr)]).length) = r.length + 1 := by simp
  clear hs h hm hf h1 hgc k0 k1 k2 hput hpop htk hkc hs1 hp1 hfr hmac hfr2 hg hg1 hg2 hat hst hc
  go_wp2_with fail
  go_quiet (fail)
  go_wp2_with fail
  go_quiet (fail)
  go_wp2_with fail
  refine (macSettle _ x fp _ fuel left depth ?hm HG2.out hl2).mono ?_
  case hm => exact HMAC.out.frm (S := []) ⟨rfl, rfl, rfl, Nat.le_refl _, fun _ _ _ => rfl⟩ (by simp)
  rintro e w2 ⟨rfl, hm2, hf2⟩
  have HM2 := Lib.hid hm2
  have HF2 := Lib.hid (HFR.out.trans (S' := fp) (c := w2) ⟨hf2.os, hf2.tape, hf2.output, hf2.size, hf2.same⟩ (fun b hb => .inl hb))
  clear hm2 hf2
  go_wp2_with fail
  go_ret2
  exact ⟨rfl, HM2.out, HF2.out⟩

end Go.Proofs.YtaobohlcpgnebaaDoor
