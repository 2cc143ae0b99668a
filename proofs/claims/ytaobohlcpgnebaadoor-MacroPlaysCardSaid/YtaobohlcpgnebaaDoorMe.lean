/-
  CONTRACT OF macro.Stack's settle. Conditions: each frame is to be played once at least.
-/
import Derived.Test.YtaobohlcpgnebaaDoorMs
namespace Go.Proofs.YtaobohlcpgnebaaDoor
open Go.RowKit
open Go.Proofs (Tryd.prog)

theorem wp_name {P : Program} {c : Code} {Q : Exit → Act → World → Prop} {a : Act} {W : World} (h : ∀ W2, W2 = W → c.wp P Q a W2) : c.wp P Q a W := h W rfl
/-- What settle leaves, the last frame first. -/
def settleL : List Fr → List Fr
  | [] => []
  | f :: r => if f.2.2.2 = f.2.1.length then (if 1 < f.2.2.1 then (f.1, f.2.1, f.2.2.1 - 1, 0) :: r else settleL r) else f :: r
/-- Each frame is to be played. -/
def Goodf (fs : List Fr) : Prop := ∀ f ∈ fs, 1 ≤ f.2.2.1 ∧ f.2.2.1 ≤ 9223372036854775807 ∧ f.2.2.2 ≤ f.2.1.length ∧ f.2.1 ≠ [] ∧ f.2.1.length ≤ 1000000
def lenAt (x : Nat) (w : World) : Nat := match w.cell? ⟨x, 0, none⟩ with
  | some (.slice _ n _) => n
  | _ => 0
theorem Mac.lenAt {w : World} {x : Nat} {fp : List Nat} {fs : List Fr} {fuel left depth : Nat} (h : Mac w x fp fs fuel left depth) : lenAt x w = fs.length := by
  obtain ⟨la, lc, h1⟩ := h.form
  unfold YtaobohlcpgnebaaDoor.lenAt
  rw [cell_of_heap (i := 0) h1 rfl]
  rfl

set_option maxRecDepth 100000 in
set_option maxHeartbeats 3200000 in
theorem macSettle (w : World) (x : Nat) (fp : List Nat) (fs : List Fr) (fuel left depth : Nat) (h : Mac w x fp fs fuel left depth) (hg : Goodf fs) (hl : fs.length ≤ 1000000) :
    Calls Tryd.prog 46 #[.pointer (some ⟨x, 0, none⟩)] w fun e w' => e = .returned (.tuple #[]) ∧ Mac w' x fp (settleL fs.reverse).reverse fuel left depth ∧ Frm fp w w' := by
  have HM := Lib.hid h
  have HG := Lib.hid hg
  clear h hg
  go_enter Tryd.func46, Tryd.ntmps46
  go_wp2_with fail
  go_loopw [2] (fun _ wr => ∃ fs2 : List Fr, Mac wr x fp fs2 fuel left depth ∧ Goodf fs2 ∧ fs2.length ≤ 1000000 ∧ settleL fs2.reverse = settleL fs.reverse ∧ Frm fp w wr) (fun _ wr => lenAt x wr)
  case atStart => exact ⟨fs, HM.out, HG.out, hl, rfl, Frm.refl _ _⟩
  case round =>
    obtain ⟨fs2, hm, hg2, hl2, hst, hf⟩ := hrel
    have hla := hm.lenAt
    rcases List.eq_nil_or_concat fs2 with rfl | ⟨r, f, rfl⟩
    · obtain ⟨la, lc, h1⟩ := hm.form
      have hc0 := cell_of_heap (i := 0) h1 rfl
      have HM2 := Lib.hid hm
      have HST := Lib.hid hst
      have HF := Lib.hid hf
      clear h1 hm hst hf hg2
      go_wp2_with fail
      go_end0
      exact ⟨rfl, by rw [← HST.out]; exact HM2.out, HF.out⟩
    · simp only [List.concat_eq_append] at *
      obtain ⟨g, lc, cur, h1, hgc, hgf, hgx, k0, k1, k2, hlc, hlm, hrd, hput, hpop, htk⟩ := hm.last
      obtain ⟨n1, n2, n3, n4, n5⟩ := hg2 f (by simp)
      obtain ⟨kv, K, n, at'⟩ := f
      simp only at *
      obtain ⟨ka, kc, rfl⟩ := hrd.form
      have hc0 := cell_of_heap (i := 0) h1 rfl
      have hk0 := cell_of_heap hgc k0
      have hk1 := cell_of_heap hgc k1
      have hk2 := cell_of_heap hgc k2
      have HST := Lib.hid hst
      have HF := Lib.hid hf
      have HG2 := Lib.hid hg2
      have HPUT := Lib.hid hput
      have HPOP := Lib.hid hpop
      have HTK := Lib.hid htk
      have HGC := Lib.hid hgc
      have H1 := Lib.hid h1
      have HM2 := Lib.hid hm
      rw [show (r ++ [((.slice ka K.length kc, K, n, at') : Fr)]).length = r.length + 1 by simp] at hl2 hla
      have hz1 := frozen_of_heap (r.length * 3 + 1) hgc
      have hz2 := frozen_of_heap (r.length * 3 + 2) hgc
      have hzx := frozen_of_heap 0 h1
      clear h1 hm hst hf hg2 hput hpop htk hgc k0 k1 k2 hrd
      go_wp2_with fail
      go_quiet (fail)
      go_wp2_with fail
      by_cases hend : at' = K.length
      · have htest : ((at' : Int) == (K.length : Int)) = true := by rw [hend]; simp
        by_cases hn1 : 1 < n
        · go_quiet (fail)
          go_wp2_with fail
          have hs1 := heap_set_at (i := r.length * 3 + 2) (.int .i64 0) HGC.out
          have hs2 := heap_set_at (i := r.length * 3 + 1) (.int .i64 ((n : Int) - 1)) hs1
          have hp1 := last_put (f' := (.slice ka K.length kc, K, n, 0)) HTK.out 2 (by omega) (.int .i64 0) rfl
          have hp2 := last_put (f' := (.slice ka K.length kc, K, n - 1, 0)) hp1 1 (by omega) (.int .i64 ((n : Int) - 1)) (by simp [fcells]; omega)
          have hfr := (((Frm.refl [g] wr).setCell (p := ⟨g, r.length * 3 + 2, none⟩) (.inl (by simp)) (.int .i64 0))).setCell (p := ⟨g, r.length * 3 + 1, none⟩) (.inl (by simp)) (.int .i64 ((n : Int) - 1))
          have hmac := HPUT.out _ _ (.slice ka K.length kc, K, n - 1, 0) hfr hs2 (by simp) rfl rfl hp2
          have hres : (settleL fs.reverse).reverse = r ++ [((.slice ka K.length kc, K, n - 1, 0) : Fr)] := by
            rw [← HST.out]
            simp [settleL, hend, hn1]
          rw [hres]
          have HMA := Lib.hid hmac
          have HFR := Lib.hid (HF.out.trans hfr (fun b hb => .inl (by simp at hb; subst hb; exact hgf)))
          clear hs1 hs2 hp1 hp2 hfr hmac
          refine bodyPost_ret (results_none rfl _ _ _) rfl ?_
          exact ⟨rfl, HMA.out.frm (S := []) ⟨rfl, rfl, rfl, Nat.le_refl _, fun _ _ _ => rfl⟩ (by simp), HFR.out.trans (S' := []) ⟨rfl, rfl, rfl, Nat.le_refl _, fun _ _ _ => rfl⟩ (by simp)⟩
        · obtain rfl : n = 1 := by omega
          go_quiet (fail)
          go_wp2_with fail
          refine wp_name fun W2 hW2 => ?_
          have hs1 := heap_set_at (i := r.length * 3 + 2) (.int .i64 0) HGC.out
          have hs2 := heap_set_at (i := r.length * 3 + 1) (.int .i64 0) hs1
          have hp1 := last_put (f' := (.slice ka K.length kc, K, 1, 0)) HTK.out 2 (by omega) (.int .i64 0) rfl
          have hp2 := last_put (f' := (.slice ka K.length kc, K, 0, 0)) hp1 1 (by omega) (.int .i64 0) rfl
          have hfr := (((Frm.refl [g] wr).setCell (p := ⟨g, r.length * 3 + 2, none⟩) (.inl (by simp)) (.int .i64 0))).setCell (p := ⟨g, r.length * 3 + 1, none⟩) (.inl (by simp)) (.int .i64 0)
          have hmac := HPUT.out _ _ (.slice ka K.length kc, K, 0, 0) hfr hs2 (by simp) rfl rfl hp2
          have hmac2 : Mac W2 x fp (r ++ [((.slice ka K.length kc, K, 0, 0) : Fr)]) fuel left depth := by
            rw [hW2]
            exact hmac.frm (S := []) ⟨rfl, rfl, rfl, Nat.le_refl _, fun _ _ _ => rfl⟩ (by simp)
          have hfr2 : Frm fp w W2 := by
            rw [hW2]
            exact (HF.out.trans hfr (fun b hb => .inl (by simp at hb; subst hb; exact hgf))).trans (S' := []) ⟨rfl, rfl, rfl, Nat.le_refl _, fun _ _ _ => rfl⟩ (by simp)
          clear hs1 hs2 hp1 hp2 hfr hmac hW2 hk0 hk1 hk2 hz1 hz2 hzx hc0
          obtain ⟨g2, lc2, cur2, e1, -, -, hgx2, -, -, -, hlc2, hlm2, -, -, hpop2, -⟩ := hmac2.last
          have hc0 := cell_of_heap (i := 0) e1 rfl
          have hzx := frozen_of_heap 0 e1
          have hset := heap_set_at (i := 0) (.slice (some ⟨g2, 0, none⟩) r.length lc2) e1
          have hfx := (Frm.refl [x] W2).setCell (p := ⟨x, 0, none⟩) (.inl (by simp)) (.slice (some ⟨g2, 0, none⟩) r.length lc2)
          have hm3 := hpop2 _ hfx hset
          have hxf : x ∈ fp := by
            obtain ⟨_, _, _, h3, _⟩ := hmac2
            exact h3
          have HM3 := Lib.hid hm3
          have HF3 := Lib.hid (hfr2.trans hfx (fun b hb => .inl (by simp at hb; subst hb; exact hxf)))
          clear e1 hset hfx hm3 hmac2 hfr2 hpop2
          have hbi : (r.length : Int) ≤ (lc2 : Int) := by omega
          have hbi0 : (0 : Int) ≤ (r.length : Int) := by omega
          have hwr : IntKind.i64.wrap (r.length : Int) = (r.length : Int) := by
            rw [IntKind.wrap_i64]
            omega
          have hbn : r.length ≤ lc2 := by omega
          have hbn2 : ¬ lc2 < r.length := by omega
          have hlc1 : ¬ (lc2 : Int) < (r.length : Int) := by omega
          have hlc3 : ¬ (lc2 : Int) = 0 := by omega
          have hsl : ∀ W, (Instr.slice 71 (.slice (some ⟨g2, 0, none⟩) (r.length + 1) lc2) none (some (.int .i64 (r.length : Int))) none).run Tryd.prog W = .ok (.slice (some ⟨g2, 0, none⟩) r.length lc2) W := fun W => by
            simp [go_sem, hbi]
          have hsl2 : ∀ W, (Instr.sliceAt 71 (.slice (some ⟨g2, 0, none⟩) (r.length + 1) lc2) none (some (.int .i64 (r.length : Int))) none).run Tryd.prog W = .ok (.slice (some ⟨g2, 0, none⟩) r.length lc2) W := fun W => by
            rw [run_sliceAt_slice W 71 _ _ _ _ (by kernel_rfl)]
            exact hsl W
          refine wp_region_tail 14 mixed (by kernel_rfl) ?_
          simp only [List.take_succ_cons, List.take_zero, List.drop_succ_cons, List.drop_zero]
          repeat still_step
          refine wpStill_nil ?_
          go_wp2_with fail
          go_roundw
          case rel =>
            refine ⟨r, HM3.out.frm (S := []) ⟨rfl, rfl, rfl, Nat.le_refl _, fun _ _ _ => rfl⟩ (by simp), fun f hf' => HG2.out f (List.mem_append_left _ hf'), by omega, ?_, HF3.out.trans (S' := []) ⟨rfl, rfl, rfl, Nat.le_refl _, fun _ _ _ => rfl⟩ (by simp)⟩
            rw [← HST.out]
            simp [settleL, hend]
          case measure =>
            have hl3 := HM3.out.lenAt
            rw [hla]
            show lenAt x ((W2.setCell ⟨x, 0, none⟩ (.slice (some ⟨g2, 0, none⟩) r.length lc2))) < _
            rw [hl3]
            omega
      · have htest : ((at' : Int) == (K.length : Int)) = false := by rw [beq_eq_false_iff_ne]; omega
        go_quiet (fail)
        go_wp2_with fail
        have hres : (settleL fs.reverse).reverse = r ++ [((.slice ka K.length kc, K, n, at') : Fr)] := by
          rw [← HST.out]
          simp [settleL, hend]
        rw [hres]
        refine bodyPost_ret (results_none rfl _ _ _) rfl ?_
        exact ⟨rfl, HM2.out.frm (S := []) ⟨rfl, rfl, rfl, Nat.le_refl _, fun _ _ _ => rfl⟩ (by simp), HF.out.trans (S' := []) ⟨rfl, rfl, rfl, Nat.le_refl _, fun _ _ _ => rfl⟩ (by simp)⟩

end Go.Proofs.YtaobohlcpgnebaaDoor
