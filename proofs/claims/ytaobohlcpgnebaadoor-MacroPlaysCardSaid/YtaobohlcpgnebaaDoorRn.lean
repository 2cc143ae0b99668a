/-
  CONTRACT OF foolscapref32.Stack's Next. Conditions: at most a million frames and keys; each frame has a key to play.
-/
import Derived.Test.YtaobohlcpgnebaaDoorRp
namespace Go.Proofs.YtaobohlcpgnebaaDoor
open Go.RowKit
open Go.Proofs (Tryd.prog)

theorem Ras.rested {w : World} {x : Nat} {fp : List Nat} {fs : List Fr} {fuel depth rest : Nat} (h : Ras w x fp fs fuel depth rest) (l2 : Nat) : Ras (w.setCell ⟨x, 3, none⟩ (.int .i64 (l2 : Int))) x fp fs fuel depth l2 := by
  obtain ⟨lv, h1, h2, h3, h4, h5, h6⟩ := h
  have hs := heap_set_at (i := 3) (.int .i64 (l2 : Int)) h1
  have hf := (Frm.refl [x] w).setCell (p := ⟨x, 3, none⟩) (.inl (by simp)) (.int .i64 (l2 : Int))
  exact ⟨lv, hs, ownsRow_frm h2 hf (fun b hb e => (h4 b e).2 (by simpa using hb)), h3, h4, fun b hb => Nat.lt_of_lt_of_le (h5 b hb) hf.size, fun f hm => ⟨Rd.frm (h6 f hm).1 hf (fun b hb e => ((h6 f hm).2 b e).2.1 (by simpa using hb)), (h6 f hm).2⟩⟩
set_option maxRecDepth 100000 in
theorem slice_cut0 (g m lc n : Nat) (hl : n ≤ lc) (W : World) : (Instr.slice 54 (.slice (some ⟨g, 0, none⟩) m lc) none (some (.int .i64 (n : Int))) none).run Tryd.prog W = .ok (.slice (some ⟨g, 0, none⟩) n lc) W := by
  rw [run_slice_h W 54 _ m lc Tryd.underlying54 .i64 (n : Int) (by omega) (by omega)]
  have hs : (sizeOf (Tryd.prog.elem 54)).run Tryd.prog W = .ok 3 W := by kernel_rfl
  rw [hs]
  simp [Result.andThen, sliced, Addr.add]

set_option maxRecDepth 100000 in
set_option maxHeartbeats 3200000 in
theorem refNext_none (w : World) (x : Nat) (fp : List Nat) (fs : List Fr) (fuel depth rest : Nat) (h : Ras w x fp fs fuel depth rest) (h0 : fs = [] ∨ rest = 0) :
    Calls Tryd.prog 38 #[.pointer (some ⟨x, 0, none⟩)] w fun e w' => e = .returned (.tuple #[.int .u8 0, .bool false]) ∧ Ras w' x fp fs fuel depth rest ∧ Frm [] w w' := by
  obtain ⟨la, lc, h1⟩ := h.form
  have hc0 := cell_of_heap (i := 0) h1 rfl
  have hc3 := cell_of_heap (i := 3) h1 rfl
  have H := Lib.hid h
  clear h1 h
  by_cases he : fs.length = 0
  · have ht : ((fs.length : Int) == 0) = true := by rw [he]; rfl
    clear he
    go_enter Tryd.func38, Tryd.ntmps38
    go_wp2_with fail
    go_ret2
    exact ⟨rfl, H.out, Frm.refl _ _⟩
  · have hl0 : rest = 0 := by
      rcases h0 with h | h
      · rw [h] at he; exact absurd rfl he
      · exact h
    subst hl0
    have ht : ((fs.length : Int) == 0) = false := by rw [beq_eq_false_iff_ne]; omega
    go_enter Tryd.func38, Tryd.ntmps38
    go_wp2_with fail
    go_ret2
    exact ⟨rfl, H.out, Frm.refl _ _⟩

def rnR (x g2 lc2 len : Nat) : Nat → Value → World → Prop := fun q u w => (([(fun u _ => u = .pointer (some ⟨x, 0, none⟩)),
    (fun u _ => u = .pointer (some ⟨x, 0, none⟩)),
    (fun u _ => u = .pointer (some ⟨x, 0, none⟩)),
    (fun u _ => u = .pointer (some ⟨x, 0, none⟩)),
    (fun u _ => u = .slice (some ⟨g2, 0, none⟩) (len + 1) lc2),
    (fun u _ => u = .pointer (some ⟨x, 0, none⟩)),
    (fun u _ => u = .pointer (some ⟨x, 0, none⟩)),
    (fun u _ => u = .pointer (some ⟨x, 0, none⟩)),
    (fun u _ => u = .slice (some ⟨g2, 0, none⟩) (len + 1) lc2),
    (fun u _ => u = .int .i64 ((len + 1 : Nat) : Int)),
    (fun u _ => u = .int .i64 (len : Int)),
    (fun u _ => u = .slice (some ⟨g2, 0, none⟩) len lc2),
    (fun u _ => u = .pointer (some ⟨x, 0, none⟩)),
    (fun u _ => u = .pointer (some ⟨x, 0, none⟩))] : List (Value → World → Prop)).getD q fun _ _ => False) u w

set_option maxRecDepth 100000 in
set_option maxHeartbeats 6400000 in
theorem refNext_some (w : World) (x : Nat) (fp : List Nat) (r : List Fr) (kv : Value) (K : List UInt8) (n at' : Nat) (fuel depth rest : Nat) (h : Ras w x fp (r ++ [(kv, K, n, at')]) fuel depth (rest + 1)) (hl : r.length + 1 ≤ 1000000) (hlf : rest + 1 ≤ 9223372036854775807) (n1 : 1 ≤ n) (n2 : n ≤ 9223372036854775807) (hat : at' < K.length) (hKl : K.length ≤ 1000000) (c : UInt8) (hc : K[at']? = some c) :
    Calls Tryd.prog 38 #[.pointer (some ⟨x, 0, none⟩)] w fun e w' => e = .returned (.tuple #[.int .u8 (c.toNat : Int), .bool true]) ∧ (∃ fs', Ras w' x fp fs' fuel depth rest ∧ fs'.map (·.2) = r.map (·.2) ++ turnF (K, n, at')) ∧ Frm fp w w' := by
  obtain ⟨g, lc, cur, h1, hgc, hgf, hgx, k0, k1, k2, hlc, hlm, hrd, hput0, -, htk⟩ := h.last
  simp only at k0 k1 k2 hrd
  rcases hrd with ⟨q1, q2, _⟩ | ⟨ka, kc, rfl, hkc⟩
  · omega
  have hcc := hkc at' (encB c) (by simp [hc])
  simp only [encB] at hcc
  have hxf : x ∈ fp := by
    obtain ⟨_, _, _, h3, _⟩ := h
    exact h3
  have hc0 := cell_of_heap (i := 0) h1 rfl
  have hc3 := cell_of_heap (i := 3) h1 rfl
  have hk0 := cell_of_heap hgc k0
  have hk1 := cell_of_heap hgc k1
  have hk2 := cell_of_heap hgc k2
  have hz1 := frozen_of_heap (r.length * 3 + 1) hgc
  have hz2 := frozen_of_heap (r.length * 3 + 2) hgc
  have hzx := frozen_of_heap 3 h1
  have hgx' : ¬ x = g := fun e => hgx e.symm
  -- the worlds that come
  have hsx := heap_set_at (i := 3) (.int .i64 (rest : Int)) h1
  have hfx := (Frm.refl [x] w).setCell (p := ⟨x, 3, none⟩) (.inl (by simp)) (.int .i64 (rest : Int))
  have hmx := h.rested rest
  have hgx2 := hfx.heap hgc (by simpa using hgx)
  obtain ⟨g', lc', cur', h1', hgc', -, -, -, -, -, hlc', -, -, hput, -, htk'⟩ := hmx.last
  rw [hsx] at h1'
  obtain ⟨rfl, rfl⟩ : g' = g ∧ lc' = lc := by
    have e := Option.some.inj h1'
    simp at e
    exact ⟨e.1.symm, e.2.symm⟩
  obtain rfl : cur' = cur := by
    have e := Option.some.inj (hgc'.symm.trans hgx2)
    simpa using e
  have ht0 : (((r.length : Int) + 1) == 0) = false := by rw [beq_eq_false_iff_ne]; omega
  have ht2 : (((rest : Int) + 1) == 0) = false := by rw [beq_eq_false_iff_ne]; omega
  have hln : ((r ++ [((Value.slice (some ka) K.length kc, K, n, at') : Fr)]).length) = r.length + 1 := by simp
  have HPUT := Lib.hid hput
  have HTK := Lib.hid htk
  have HGC := Lib.hid hgx2
  have HFX := Lib.hid (hfx.mono (S' := fp) (fun b hb => .inl (by simp at hb; subst hb; exact hxf)))
  clear h hput0 htk' hput htk h1 hgc k0 k1 k2 hkc hsx hfx hmx hgx2 h1' hgc' hlc' hc
  go_enter Tryd.func38, Tryd.ntmps38
  go_wp2_with fail
  go_quiet (fail)
  go_wp2_with fail
  go_quiet (fail)
  go_wp2_with fail
  have hsA := heap_set_at (i := r.length * 3 + 1) (.int .i64 ((at' : Int) + 1)) HGC.out
  have hpA := rlast_put (f' := (.slice (some ka) K.length kc, K, n, at' + 1)) HTK.out 1 (by omega) (.int .i64 ((at' : Int) + 1)) (by simp [rcells])
  have hfA := (Frm.refl [g'] (w.setCell ⟨x, 3, none⟩ (.int .i64 (rest : Int)))).setCell (p := ⟨g', r.length * 3 + 1, none⟩) (.inl (by simp)) (.int .i64 ((at' : Int) + 1))
  by_cases hend : at' + 1 < K.length
  · have hmA := HPUT.out _ _ (.slice (some ka) K.length kc, K, n, at' + 1) hfA hsA (by simp) rfl rfl hpA
    have HMA := Lib.hid hmA
    have HFA := Lib.hid (HFX.out.trans hfA (fun b hb => .inl (by simp at hb; subst hb; exact hgf)))
    have HTURN := Lib.hid (show turnF (K, n, at') = [(K, n, at' + 1)] from if_pos hend)
    clear hsA hpA hfA hmA
    have htest : (((at' : Int) + 1) == (K.length : Int)) = false := by rw [beq_eq_false_iff_ne]; omega
    have hn0 : ((n : Int) == 0) = false := by rw [beq_eq_false_iff_ne]; omega
    go_quiet (fail)
    go_wp2_with fail
    go_ret2
    exact ⟨rfl, ⟨_, HMA.out.frm (S := []) ⟨rfl, rfl, rfl, Nat.le_refl _, fun _ _ _ => rfl⟩ (by simp), by rw [HTURN.out]; simp⟩, HFA.out.trans (S' := []) ⟨rfl, rfl, rfl, Nat.le_refl _, fun _ _ _ => rfl⟩ (by simp)⟩
  · have hal : at' + 1 = K.length := by omega
    have htest : (((at' : Int) + 1) == (K.length : Int)) = true := by rw [beq_iff_eq]; omega
    have hs1 := heap_set_at (i := r.length * 3 + 1) (.int .i64 0) hsA
    have hp1 := rlast_put (f' := (.slice (some ka) K.length kc, K, n, 0)) hpA 1 (by omega) (.int .i64 0) (by simp [rcells])
    have hf1 := hfA.setCell (p := ⟨g', r.length * 3 + 1, none⟩) (.inl (by simp)) (.int .i64 0)
    have hs2 := heap_set_at (i := r.length * 3 + 2) (.int .i64 ((n : Int) - 1)) hs1
    have hp2 := rlast_put (f' := (.slice (some ka) K.length kc, K, n - 1, 0)) hp1 2 (by omega) (.int .i64 ((n : Int) - 1)) (by simp [rcells]; omega)
    have hf2 := hf1.setCell (p := ⟨g', r.length * 3 + 2, none⟩) (.inl (by simp)) (.int .i64 ((n : Int) - 1))
    have hmB := HPUT.out _ _ (.slice (some ka) K.length kc, K, n - 1, 0) hf2 hs2 (by simp) rfl rfl hp2
    have HMB := Lib.hid hmB
    have HFB := Lib.hid (HFX.out.trans hf2 (fun b hb => .inl (by simp at hb; subst hb; exact hgf)))
    clear hsA hpA hfA hs1 hp1 hf1 hs2 hp2 hf2 hmB
    by_cases hn1 : 1 < n
    · have HTURN := Lib.hid (show turnF (K, n, at') = [(K, n - 1, 0)] from (if_neg hend).trans (if_pos hn1))
      have hn0 : (((n : Int) - 1) == 0) = false := by rw [beq_eq_false_iff_ne]; omega
      clear hal hend
      go_quiet (fail)
      go_wp2_with fail
      go_ret2
      exact ⟨rfl, ⟨_, HMB.out.frm (S := []) ⟨rfl, rfl, rfl, Nat.le_refl _, fun _ _ _ => rfl⟩ (by simp), by rw [HTURN.out]; simp⟩, HFB.out.trans (S' := []) ⟨rfl, rfl, rfl, Nat.le_refl _, fun _ _ _ => rfl⟩ (by simp)⟩
    · obtain rfl : n = 1 := by omega
      have HTURN := Lib.hid (show turnF (K, 1, at') = [] from (if_neg hend).trans (if_neg hn1))
      clear hal hend hn1
      go_quiet (fail)
      go_wp2_with fail
      refine wp_name fun W2 hW2 => ?_
      have hmac2 : Ras W2 x fp (r ++ [((.slice (some ka) K.length kc, K, 0, 0) : Fr)]) fuel depth rest := by
        rw [hW2]
        exact HMB.out.frm (S := []) ⟨rfl, rfl, rfl, Nat.le_refl _, fun _ _ _ => rfl⟩ (by simp)
      have hfr2 : Frm fp w W2 := by
        rw [hW2]
        exact HFB.out.trans (S' := []) ⟨rfl, rfl, rfl, Nat.le_refl _, fun _ _ _ => rfl⟩ (by simp)
      clear hW2 hk0 hk1 hk2 hz1 hz2 hzx hc0 hc3 hcc
      obtain ⟨g2, lc2, cur2, e1, -, -, hgx3, -, -, -, hlc2, hlm2, -, -, hpop2, -⟩ := hmac2.last
      have hc0 := cell_of_heap (i := 0) e1 rfl
      have E1 := Lib.hid e1
      have HPOP := Lib.hid hpop2
      have HF2 := Lib.hid hfr2
      have HTU := Lib.hid (show r.map (·.2) ++ turnF (K, 1, at') = r.map (·.2) by rw [HTURN.out, List.append_nil])
      clear e1 hmac2 hpop2 hfr2
      refine (wpIn_wide (n := 3)).1 ?_
      refine wpIn_region_joint (size := 95) wide_wide 14 (rnR x g2 lc2 r.length) (Frm []) (fun _ => Frm []) (fun _ _ => True) mixed (by kernel_rfl) (by kernel_rfl) (by decide) (by kernel_rfl) (by kernel_rfl) (by kernel_rfl) (by kernel_rfl) rfl (fun h k => h.trans k (by simp)) (Frm.refl _ _) (fun _ _ _ _ h => h) ?hR trivial ?hgd ?hrun ?htail
      case hR =>
        intro qi qj qv A B hi hj hij h hf
        rcases (by omega : qi = 0 ∨ qi = 1 ∨ qi = 2 ∨ qi = 3 ∨ qi = 4 ∨ qi = 5 ∨ qi = 6 ∨ qi = 7 ∨ qi = 8 ∨ qi = 9 ∨ qi = 10 ∨ qi = 11 ∨ qi = 12 ∨ qi = 13) with rfl | rfl | rfl | rfl | rfl | rfl | rfl | rfl | rfl | rfl | rfl | rfl | rfl | rfl
        all_goals exact h
      case hgd =>
        intro qi qo qg qb hi ho hgo qv A hv
        rcases (by omega : qi = 0 ∨ qi = 1 ∨ qi = 2 ∨ qi = 3 ∨ qi = 4 ∨ qi = 5 ∨ qi = 6 ∨ qi = 7 ∨ qi = 8 ∨ qi = 9 ∨ qi = 10 ∨ qi = 11 ∨ qi = 12 ∨ qi = 13) with rfl | rfl | rfl | rfl | rfl | rfl | rfl | rfl | rfl | rfl | rfl | rfl | rfl | rfl
        all_goals obtain rfl := Option.some.inj ho
        all_goals first
          | (cases hgo; done)
          | (cases hgo; exact hv)
      case hrun =>
        intro qi hi qo ho qa w' L hG ht hLi hJ
        rcases (by omega : qi = 0 ∨ qi = 1 ∨ qi = 2 ∨ qi = 3 ∨ qi = 4 ∨ qi = 5 ∨ qi = 6 ∨ qi = 7 ∨ qi = 8 ∨ qi = 9 ∨ qi = 10 ∨ qi = 11 ∨ qi = 12 ∨ qi = 13) with rfl | rfl | rfl | rfl | rfl | rfl | rfl | rfl | rfl | rfl | rfl | rfl | rfl | rfl
        all_goals obtain rfl := Option.some.inj ho
        · have h0 := ht.free 0 (by kernel_rfl)
          exact .inl ⟨_, _, by simp [execOp, go_sem, Act.eval, h0]; first | rfl | exact ⟨rfl, rfl⟩, by exact rfl, by exact Frm.refl _ _, trivial⟩
        · have h0 := ht.free 0 (by kernel_rfl)
          exact .inl ⟨_, _, by simp [execOp, go_sem, Act.eval, h0]; first | rfl | exact ⟨rfl, rfl⟩, by exact rfl, by exact Frm.refl _ _, trivial⟩
        · obtain ⟨v0, h0, e0⟩ := ht.dep 1 81 (by kernel_rfl) rfl
          obtain rfl : .pointer (some ⟨x, 0, none⟩) = v0 := Eq.symm e0
          exact .inl ⟨_, _, by simp [execOp, go_sem, Act.eval, h0]; first | rfl | exact ⟨rfl, rfl⟩, by exact rfl, by exact Frm.refl _ _, trivial⟩
        · obtain ⟨v0, h0, e0⟩ := ht.dep 2 82 (by kernel_rfl) rfl
          obtain rfl : .pointer (some ⟨x, 0, none⟩) = v0 := Eq.symm e0
          exact .inl ⟨_, _, by simp [execOp, go_sem, Act.eval, h0]; first | rfl | exact ⟨rfl, rfl⟩, by exact rfl, by exact Frm.refl _ _, trivial⟩
        · obtain ⟨v0, h0, e0⟩ := ht.dep 3 83 (by kernel_rfl) rfl
          obtain rfl : .pointer (some ⟨x, 0, none⟩) = v0 := Eq.symm e0
          have hcl := hG.cell hc0 (by simp)
          exact .inl ⟨_, _, by simp [execOp, go_sem, Act.eval, h0, hcl]; first | rfl | exact ⟨rfl, rfl⟩, by exact rfl, by exact Frm.refl _ _, trivial⟩
        · have h0 := ht.free 0 (by kernel_rfl)
          exact .inl ⟨_, _, by simp [execOp, go_sem, Act.eval, h0]; first | rfl | exact ⟨rfl, rfl⟩, by exact rfl, by exact Frm.refl _ _, trivial⟩
        · obtain ⟨v0, h0, e0⟩ := ht.dep 5 85 (by kernel_rfl) rfl
          obtain rfl : .pointer (some ⟨x, 0, none⟩) = v0 := Eq.symm e0
          exact .inl ⟨_, _, by simp [execOp, go_sem, Act.eval, h0]; first | rfl | exact ⟨rfl, rfl⟩, by exact rfl, by exact Frm.refl _ _, trivial⟩
        · obtain ⟨v0, h0, e0⟩ := ht.dep 6 86 (by kernel_rfl) rfl
          obtain rfl : .pointer (some ⟨x, 0, none⟩) = v0 := Eq.symm e0
          exact .inl ⟨_, _, by simp [execOp, go_sem, Act.eval, h0]; first | rfl | exact ⟨rfl, rfl⟩, by exact rfl, by exact Frm.refl _ _, trivial⟩
        · obtain ⟨v0, h0, e0⟩ := ht.dep 7 87 (by kernel_rfl) rfl
          obtain rfl : .pointer (some ⟨x, 0, none⟩) = v0 := Eq.symm e0
          have hcl := hG.cell hc0 (by simp)
          exact .inl ⟨_, _, by simp [execOp, go_sem, Act.eval, h0, hcl]; first | rfl | exact ⟨rfl, rfl⟩, by exact rfl, by exact Frm.refl _ _, trivial⟩
        · obtain ⟨v0, h0, e0⟩ := ht.dep 8 88 (by kernel_rfl) rfl
          obtain rfl : .slice (some ⟨g2, 0, none⟩) (r.length + 1) lc2 = v0 := Eq.symm e0
          exact .inl ⟨_, _, by simp [execOp, go_sem, Act.eval, h0]; first | rfl | exact ⟨rfl, rfl⟩, by exact rfl, by exact Frm.refl _ _, trivial⟩
        · obtain ⟨v0, h0, e0⟩ := ht.dep 9 89 (by kernel_rfl) rfl
          obtain rfl : .int .i64 ((r.length + 1 : Nat) : Int) = v0 := Eq.symm e0
          have hwr : IntKind.i64.wrap (r.length : Int) = (r.length : Int) := by rw [IntKind.wrap_i64]; omega
          exact .inl ⟨_, _, by simp [execOp, go_sem, Act.eval, h0, hwr]; first | rfl | exact ⟨rfl, rfl⟩, by exact rfl, by exact Frm.refl _ _, trivial⟩
        · obtain ⟨v0, h0, e0⟩ := ht.dep 4 84 (by kernel_rfl) rfl
          obtain rfl : .slice (some ⟨g2, 0, none⟩) (r.length + 1) lc2 = v0 := Eq.symm e0
          obtain ⟨v1, h1, e1⟩ := ht.dep 10 90 (by kernel_rfl) rfl
          obtain rfl : .int .i64 (r.length : Int) = v1 := Eq.symm e1
          have hsl := slice_cut0 g2 (r.length + 1) lc2 r.length (by omega) w'
          exact .inl ⟨_, _, by simp [execOp, go_sem, Act.eval, h0, h1, hsl]; first | rfl | exact ⟨rfl, rfl⟩, by exact rfl, Frm.refl _ _, trivial⟩
        · obtain ⟨v0, h0, e0⟩ := ht.dep 0 80 (by kernel_rfl) rfl
          obtain rfl : .pointer (some ⟨x, 0, none⟩) = v0 := Eq.symm e0
          exact .inl ⟨_, _, by simp [execOp, go_sem, Act.eval, h0]; first | rfl | exact ⟨rfl, rfl⟩, by exact rfl, by exact Frm.refl _ _, trivial⟩
        · obtain ⟨v0, h0, e0⟩ := ht.dep 12 92 (by kernel_rfl) rfl
          obtain rfl : .pointer (some ⟨x, 0, none⟩) = v0 := Eq.symm e0
          exact .inl ⟨_, _, by simp [execOp, go_sem, Act.eval, h0]; first | rfl | exact ⟨rfl, rfl⟩, by exact rfl, by exact Frm.refl _ _, trivial⟩
      case htail =>
        intro a' w' L hde hsz hG hL hJ hall hfree
        obtain ⟨u0, k0, e0⟩ := hall 0 _ 80 (by omega) rfl rfl
        obtain rfl : .pointer (some ⟨x, 0, none⟩) = u0 := Eq.symm e0
        obtain ⟨u1, k1, e1⟩ := hall 1 _ 81 (by omega) rfl rfl
        obtain rfl : .pointer (some ⟨x, 0, none⟩) = u1 := Eq.symm e1
        obtain ⟨u2, k2, e2⟩ := hall 2 _ 82 (by omega) rfl rfl
        obtain rfl : .pointer (some ⟨x, 0, none⟩) = u2 := Eq.symm e2
        obtain ⟨u3, k3, e3⟩ := hall 3 _ 83 (by omega) rfl rfl
        obtain rfl : .pointer (some ⟨x, 0, none⟩) = u3 := Eq.symm e3
        obtain ⟨u4, k4, e4⟩ := hall 4 _ 84 (by omega) rfl rfl
        obtain rfl : .slice (some ⟨g2, 0, none⟩) (r.length + 1) lc2 = u4 := Eq.symm e4
        obtain ⟨u5, k5, e5⟩ := hall 5 _ 85 (by omega) rfl rfl
        obtain rfl : .pointer (some ⟨x, 0, none⟩) = u5 := Eq.symm e5
        obtain ⟨u6, k6, e6⟩ := hall 6 _ 86 (by omega) rfl rfl
        obtain rfl : .pointer (some ⟨x, 0, none⟩) = u6 := Eq.symm e6
        obtain ⟨u7, k7, e7⟩ := hall 7 _ 87 (by omega) rfl rfl
        obtain rfl : .pointer (some ⟨x, 0, none⟩) = u7 := Eq.symm e7
        obtain ⟨u8, k8, e8⟩ := hall 8 _ 88 (by omega) rfl rfl
        obtain rfl : .slice (some ⟨g2, 0, none⟩) (r.length + 1) lc2 = u8 := Eq.symm e8
        obtain ⟨u9, k9, e9⟩ := hall 9 _ 89 (by omega) rfl rfl
        obtain rfl : .int .i64 ((r.length + 1 : Nat) : Int) = u9 := Eq.symm e9
        obtain ⟨u10, k10, e10⟩ := hall 10 _ 90 (by omega) rfl rfl
        obtain rfl : .int .i64 (r.length : Int) = u10 := Eq.symm e10
        obtain ⟨u11, k11, e11⟩ := hall 11 _ 91 (by omega) rfl rfl
        obtain rfl : .slice (some ⟨g2, 0, none⟩) r.length lc2 = u11 := Eq.symm e11
        obtain ⟨u12, k12, e12⟩ := hall 12 _ 92 (by omega) rfl rfl
        obtain rfl : .pointer (some ⟨x, 0, none⟩) = u12 := Eq.symm e12
        obtain ⟨u13, k13, e13⟩ := hall 13 _ 93 (by omega) rfl rfl
        obtain rfl : .pointer (some ⟨x, 0, none⟩) = u13 := Eq.symm e13
        obtain ⟨tm, df⟩ := a'
        simp only at hde hsz hfree k0 k1 k2 k3 k4 k5 k6 k7 k8 k9 k10 k11 k12 k13
        have htm := tmps_of [(80, .pointer (some ⟨x, 0, none⟩)), (81, .pointer (some ⟨x, 0, none⟩)), (82, .pointer (some ⟨x, 0, none⟩)), (83, .pointer (some ⟨x, 0, none⟩)), (84, .slice (some ⟨g2, 0, none⟩) (r.length + 1) lc2), (85, .pointer (some ⟨x, 0, none⟩)), (86, .pointer (some ⟨x, 0, none⟩)), (87, .pointer (some ⟨x, 0, none⟩)), (88, .slice (some ⟨g2, 0, none⟩) (r.length + 1) lc2), (89, .int .i64 ((r.length + 1 : Nat) : Int)), (90, .int .i64 (r.length : Int)), (91, .slice (some ⟨g2, 0, none⟩) r.length lc2), (92, .pointer (some ⟨x, 0, none⟩)), (93, .pointer (some ⟨x, 0, none⟩))] _ (hsz.trans (show 95 = _ from rfl)) (by
          intro q hq
          simp only [List.mem_cons, List.not_mem_nil, or_false] at hq
          rcases hq with rfl | rfl | rfl | rfl | rfl | rfl | rfl | rfl | rfl | rfl | rfl | rfl | rfl | rfl
          all_goals assumption) (fun d hd => hfree d (fun j q hj hq => (by
            rcases (by omega : j = 0 ∨ j = 1 ∨ j = 2 ∨ j = 3 ∨ j = 4 ∨ j = 5 ∨ j = 6 ∨ j = 7 ∨ j = 8 ∨ j = 9 ∨ j = 10 ∨ j = 11 ∨ j = 12 ∨ j = 13) with rfl | rfl | rfl | rfl | rfl | rfl | rfl | rfl | rfl | rfl | rfl | rfl | rfl | rfl
            all_goals (obtain rfl := Option.some.inj hq; exact fun e => hd (by have e2 := Option.some.inj e; subst e2; simp)))))
        subst hde
        simp only [List.foldl_cons, List.foldl_nil, List.setIfInBounds_toArray, List.set_cons_succ, List.set_cons_zero] at htm
        subst htm
        clear hall hfree k0 k1 k2 k3 k4 k5 k6 k7 k8 k9 k10 k11 k12 k13
        have hbl := Frm.ofDrew hG
        have hx' := hbl.heap E1.out (by simp)
        have hcx := cell_of_heap (i := 0) hx' rfl
        have hzx := frozen_of_heap 0 hx'
        have hset := heap_set_at (i := 0) (.slice (some ⟨g2, 0, none⟩) r.length lc2) hx'
        have hfx := (Frm.refl [x] w').setCell (p := ⟨x, 0, none⟩) (.inl (by simp)) (.slice (some ⟨g2, 0, none⟩) r.length lc2)
        have hall2 := (HPOP.out _ ((hbl.mono (S' := [x]) (by simp)).trans hfx (fun b hb => .inl hb)) hset)
        have HM3 := Lib.hid hall2
        have HF3 := Lib.hid ((HF2.out.trans hbl (by simp)).trans hfx (fun b hb => .inl (by simp at hb; subst hb; exact hxf)))
        clear hG hJ hL hbl hx' hset hfx hall2
        gi_wp2_with fail
        go_wp2_with fail
        go_ret2
        exact ⟨rfl, ⟨_, HM3.out, HTU.out.symm⟩, HF3.out⟩

end Go.Proofs.YtaobohlcpgnebaaDoor
