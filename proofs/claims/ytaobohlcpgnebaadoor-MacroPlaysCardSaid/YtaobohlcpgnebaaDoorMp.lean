/-
  CONTRACTS OF slices.Clone AT bytes AND OF macro.Stack's Push. Conditions: fewer than 2^40 frames and keys.
-/
import Derived.Test.YtaobohlcpgnebaaDoorMc
import Derived.Test.YtaobohlcpgnebaaDoorBase5
namespace Go.Proofs.YtaobohlcpgnebaaDoor
open Go.RowKit
open Go.Proofs (Tryd.prog)

set_option maxRecDepth 100000 in
set_option maxHeartbeats 1600000 in
theorem cloneBytes (w : World) (v : Value) (K : List UInt8) (hK : K ≠ []) (hl : K.length ≤ 1099511627776) (hv : RdB w v K) :
    Calls Tryd.prog 45 #[v] w fun e w' => (∃ u, e = .returned u ∧ w'.ownsRow w.heap.size 5 1 u K.length (K.map encB)) ∧ Frm [] w w' := by
  obtain ⟨i0, hi, hz0, hz1, hz2⟩ := info_parts (show (Tryd.prog.info? 5).map (fun i => (i.zero, i.size, i.bytes)) = some (some (.int .u8 0), 1, 1) by kernel_rfl)
  obtain ⟨a, c, rfl⟩ : ∃ a c, v = .slice (some a) K.length c := by
    rcases hv with ⟨_, h0, _⟩ | ⟨a, c, h, _⟩
    · exact absurd (List.eq_nil_of_length_eq_zero h0) hK
    · exact ⟨a, c, h⟩
  have hfa : Frm [] w (w.alloc (.cells #[] 5)) := (Frm.refl _ _).alloc _
  have hr2 := hv.frm hfa
  have hown : (w.alloc (.cells #[] 5)).ownsRow w.heap.size 5 1 (.slice (some ⟨w.heap.size, 0, none⟩) 0 0) 0 [] :=
    ⟨rfl, .inr ⟨w.heap.size, 0, #[], rfl, Nat.le_refl _, heap_alloc_at _ _, Nat.le_refl _, by simp [maxLen], rfl, rfl⟩⟩
  have hnil : ∀ W, (binOp .eql 22 (.slice (some a) K.length c) (.slice none 0 0)).run Tryd.prog W = .ok (.bool false) W := fun W => by
    have := Lib.run_eql_slice_nil (P := Tryd.prog) W 22 5 (some a) K.length c 0 0 Tryd.underlying22
    simpa using this
  go_enter Tryd.func45, Tryd.ntmps45
  go_wp2_with (at_builtin; refine wpList_append_row rfl (.tmp 5) (.tmp 6) 22 rfl w.heap.size 5 i0 (.int .u8 0) 1 1 Tryd.underlying22 hi hz0 hz1 hz2 rfl (by decide) _ 0 [] rfl hown _ K.length (K.map encB) rfl hr2 (by simp) (fun u hu => (by obtain ⟨b, _, rfl⟩ := List.mem_map.1 hu; rfl)) (by unfold maxLen; omega) (by omega) (by simp) ?_)
  intro v2 w2 hown2 hf2 _ _
  have hf2' := hfa.trans hf2 (fun b hb => .inr (by
    obtain rfl : b = w.heap.size := by simpa [Value.ownBlock] using hb
    exact Nat.le_refl _))
  have HO := Lib.hid hown2
  have HF := Lib.hid hf2'
  clear hown2 hf2 hf2' hown hr2
  go_wp2_with fail
  go_ret
  exact ⟨⟨_, rfl, by simpa using HO.out⟩, HF.out⟩

/-- What is told of the values of Push's one statement. -/
def pushR (x N : Nat) (lv v : Value) (K : List UInt8) (n : Nat) (len : Nat) (flat : List Value) (i : Nat) (u : Value) (w : World) : Prop :=
  if i = 6 then w.ownsRow N 5 1 u K.length (K.map encB)
  else if i = 8 then ∃ k, u = .agg #[k, .int .i64 (n : Int), .int .i64 0] ∧ w.ownsRow N 5 1 k K.length (K.map encB)
  else if i = 9 then ∃ k g, u = .slice (some ⟨g, 0, none⟩) 1 1 ∧ N ≤ g ∧ w.heap[g]? = some (.cells #[k, .int .i64 (n : Int), .int .i64 0] 76 (0, 0)) ∧ w.ownsRow N 5 1 k K.length (K.map encB)
  else if i = 10 then ∃ k, w.ownsRow N 5 1 k K.length (K.map encB) ∧ w.ownsRow 0 76 3 u (len + 1) (flat ++ [k, .int .i64 (n : Int), .int .i64 0]) ∧ ∀ b, u.ownBlock = some b → (lv.ownBlock = some b ∨ N ≤ b) ∧ k.ownBlock ≠ some b
  else u = [Value.pointer (some ⟨x, 0, none⟩), .pointer (some ⟨x, 0, none⟩), .pointer (some ⟨x, 0, none⟩), .pointer (some ⟨x, 0, none⟩), lv, v, undef, .int .i64 (n : Int), undef, undef, undef, .pointer (some ⟨x, 0, none⟩), .pointer (some ⟨x, 0, none⟩)].getD i undef
theorem own_kept {S : List Nat} {A B : World} {N : Nat} {e size n : Nat} {u : Value} {cs : List Value} (h : A.ownsRow N e size u n cs) (hf : Frm S A B) (hS : ∀ b ∈ S, b < N) : B.ownsRow N e size u n cs :=
  ownsRow_frm h hf (fun b hb he => by
    have := own_ge h b (by simp [he])
    have := hS b hb
    omega)

set_option maxRecDepth 100000 in
set_option maxHeartbeats 3200000 in
theorem macPush (w : World) (x : Nat) (fp : List Nat) (fs : List Fr) (fuel left depth : Nat) (h : Mac w x fp fs fuel left depth) (v : Value) (K : List UInt8) (n : Nat) (hn : 1 ≤ n) (hn2 : n ≤ 9223372036854775807) (hK : K ≠ []) (hl : K.length ≤ 1000000) (hv : RdB w v K) (hvl : ∀ b ∈ fp, v.ownBlock ≠ some b) (hlt : fs.length < depth) (hdp : depth ≤ 1000000) :
    Calls Tryd.prog 23 #[.pointer (some ⟨x, 0, none⟩), v, .int .i64 (n : Int)] w fun e w' => e = .returned (.bool true) ∧ ∃ u fp', Mac w' x fp' (fs ++ [(u, K, n, 0)]) fuel left depth ∧ Frm fp w w' ∧ ∀ b ∈ fp', b ∈ fp ∨ w.heap.size ≤ b := by
  obtain ⟨i0, hi, hz0, hz1, hz2⟩ := info_parts (show (Tryd.prog.info? 76).map (fun i => (i.zero, i.size, i.bytes)) = some (some (.agg #[.slice none 0 0, .int .i64 0, .int .i64 0]), 3, 40) by kernel_rfl)
  obtain ⟨a, c, rfl⟩ : ∃ a c, v = .slice (some a) K.length c := by
    rcases hv with ⟨_, h0, _⟩ | ⟨a, c, h, _⟩
    · exact absurd (List.eq_nil_of_length_eq_zero h0) hK
    · exact ⟨a, c, h⟩
  have hK1 : 0 < K.length := List.length_pos_iff.2 hK
  obtain ⟨lv, h1, h2, h3, h4, h5, h6⟩ := h
  obtain ⟨la, lc, rfl⟩ : ∃ la lc, lv = .slice la fs.length lc := by
    rcases h2.2 with ⟨rfl, h0⟩ | ⟨g, c, cur, rfl, _⟩
    · exact ⟨none, 0, by rw [h0]⟩
    · exact ⟨_, _, rfl⟩
  have hc0 := cell_of_heap (i := 0) h1 rfl
  have hc3 := cell_of_heap (i := 3) h1 rfl
  have hlt1 : decide ((n : Int) < 1) = false := decide_eq_false (by omega)
  have hk0 : ((K.length : Int) == 0) = false := beq_eq_false_iff_ne.2 (by omega)
  have H1 := Lib.hid h1
  have H2 := Lib.hid h2
  have H4 := Lib.hid h4
  have H6 := Lib.hid h6
  have HV := Lib.hid hv
  clear h1 h2 h4 h6 hv
  go_enter Tryd.func23, Tryd.ntmps23
  go_wp2_with fail
  go_quiet (fail)
  go_wp2_with fail
  have HX := Lib.hid (show x ∉ (Value.slice la fs.length lc).ownBlock.toList from fun hm => (H4.out x (by simpa using hm)).2 rfl)
  refine (wpIn_wide (n := 3)).1 ?_
  refine wpIn_region_rel2 (size := 37) wide_wide 10 (fun X : World => X.ownsRow 0 76 3 (.slice la fs.length lc) fs.length (fs.flatMap fcells)) (Frm []) 13 (pushR x w.heap.size (.slice la fs.length lc) (.slice (some a) K.length c) K n fs.length (fs.flatMap fcells)) (Frm (Value.slice la fs.length lc).ownBlock.toList)
    (by kernel_rfl) (by kernel_rfl) (by kernel_rfl) (by decide) (by kernel_rfl) (by kernel_rfl) (by kernel_rfl) (by kernel_rfl) rfl (fun h k => h.trans k (fun b hb => .inl hb)) (Frm.refl _ _) ?hC0 ?hR0 ?hR1 (fun A B h hf => ownsRow_frm h hf (by simp)) ?hgd ?hrun ?htail
  case hC0 => exact ownsRow_frm H2.out (((Frm.refl [] w).drewN nq).drew) (by simp)
  case hR0 =>
    intro i u A B hR hf
    unfold pushR at hR ⊢
    split at hR
    · rename_i h; rw [if_pos h]; exact ownsRow_frm hR hf (by simp)
    · rename_i h; rw [if_neg h]
      split at hR
      · rename_i h; rw [if_pos h]
        obtain ⟨k, hk1, hk2⟩ := hR
        exact ⟨k, hk1, ownsRow_frm hk2 hf (by simp)⟩
      · rename_i h; rw [if_neg h]
        split at hR
        · rename_i h; rw [if_pos h]
          obtain ⟨k, g, hk1, hk2, hk3, hk4⟩ := hR
          exact ⟨k, g, hk1, hk2, hf.heap hk3 (by simp), ownsRow_frm hk4 hf (by simp)⟩
        · rename_i h; rw [if_neg h]
          split at hR
          · rename_i h; rw [if_pos h]
            obtain ⟨k, hk1, hk2, hk3⟩ := hR
            exact ⟨k, ownsRow_frm hk1 hf (by simp), ownsRow_frm hk2 hf (by simp), hk3⟩
          · rename_i h; rw [if_neg h]
            exact hR
  case hR1 =>
    intro i u A B hi10 hR hf
    have hS : ∀ b ∈ (Value.slice la fs.length lc).ownBlock.toList, b < w.heap.size := fun b hb => h5 b (H4.out b (by simpa using hb)).1
    unfold pushR at hR ⊢
    split at hR
    · rename_i h; rw [if_pos h]; exact own_kept hR hf hS
    · rename_i h; rw [if_neg h]
      split at hR
      · rename_i h; rw [if_pos h]
        obtain ⟨k, hk1, hk2⟩ := hR
        exact ⟨k, hk1, own_kept hk2 hf hS⟩
      · rename_i h; rw [if_neg h]
        split at hR
        · rename_i h; rw [if_pos h]
          obtain ⟨k, g, hk1, hk2, hk3, hk4⟩ := hR
          exact ⟨k, g, hk1, hk2, hf.heap hk3 (fun hm => by have := hS g hm; omega), own_kept hk4 hf hS⟩
        · rename_i h; rw [if_neg h]
          rw [if_neg hi10]
          exact hR
  case hgd =>
    intro i o g b hi ho hgo v A hv
    rcases (by omega : i = 0 ∨ i = 1 ∨ i = 2 ∨ i = 3 ∨ i = 4 ∨ i = 5 ∨ i = 6 ∨ i = 7 ∨ i = 8 ∨ i = 9 ∨ i = 10 ∨ i = 11 ∨ i = 12) with rfl | rfl | rfl | rfl | rfl | rfl | rfl | rfl | rfl | rfl | rfl | rfl | rfl
    all_goals obtain rfl := Option.some.inj ho
    all_goals cases hgo
  case hrun =>
    intro i hi9 o ho a' w' hG ht hC
    rcases (by omega : i = 0 ∨ i = 1 ∨ i = 2 ∨ i = 3 ∨ i = 4 ∨ i = 5 ∨ i = 6 ∨ i = 7 ∨ i = 8 ∨ i = 9 ∨ i = 10 ∨ i = 11 ∨ i = 12) with rfl | rfl | rfl | rfl | rfl | rfl | rfl | rfl | rfl | rfl | rfl | rfl | rfl
    all_goals obtain rfl := Option.some.inj ho
    · have h1 := ht.free 0 (by kernel_rfl)
      exact .inl ⟨_, _, by simp [execOp, go_sem, Act.eval, h1]; rfl, by simp [pushR], Frm.refl _ _, fun _ => Frm.refl _ _⟩
    · have h1 := ht.free 0 (by kernel_rfl)
      exact .inl ⟨_, _, by simp [execOp, go_sem, Act.eval, h1]; rfl, by simp [pushR], Frm.refl _ _, fun _ => Frm.refl _ _⟩
    · obtain ⟨u0, h0, e0⟩ := ht.dep 1 25 (by kernel_rfl) rfl
      simp [pushR] at e0
      subst e0
      exact .inl ⟨_, _, by simp [execOp, go_sem, Act.eval, h0]; rfl, by simp [pushR], Frm.refl _ _, fun _ => Frm.refl _ _⟩
    · obtain ⟨u0, h0, e0⟩ := ht.dep 2 26 (by kernel_rfl) rfl
      simp [pushR] at e0
      subst e0
      exact .inl ⟨_, _, by simp [execOp, go_sem, Act.eval, h0]; rfl, by simp [pushR], Frm.refl _ _, fun _ => Frm.refl _ _⟩
    · obtain ⟨u0, h0, e0⟩ := ht.dep 3 27 (by kernel_rfl) rfl
      simp [pushR] at e0
      subst e0
      have hcx := hG.cell (p := ⟨x, 0, none⟩) hc0 (fun hm => HX.out hm)
      exact .inl ⟨_, _, by simp [execOp, go_sem, Act.eval, h0, hcx]; rfl, by simp [pushR], Frm.refl _ _, fun _ => Frm.refl _ _⟩
    · have h1 := ht.free 1 (by kernel_rfl)
      exact .inl ⟨_, _, by simp [execOp, go_sem, Act.eval, h1]; rfl, by simp [pushR], Frm.refl _ _, fun _ => Frm.refl _ _⟩
    · obtain ⟨u0, h0, e0⟩ := ht.dep 5 29 (by kernel_rfl) rfl
      simp [pushR] at e0
      subst e0
      right
      have hvw := Rd.frm HV.out (show Frm [] w w.drew from (Frm.refl _ _).drew) (by simp)
      refine ⟨45, #[.slice (some a) K.length c], by simp [execOp, go_sem, Act.eval, h0], ?_⟩
      have hvv : RdB w' (.slice (some a) K.length c) K := Rd.frm HV.out (Frm.ofDrewN (n := nq) (Frm.ofDrew hG)) (fun b hb => hvl b (H4.out b (by simpa using hb)).1)
      refine (cloneBytes w' _ K hK (by omega) hvv).mono ?_
      rintro e w'' ⟨⟨u, rfl, hu⟩, hf⟩
      have hge : w.heap.size ≤ w'.heap.size := hG.size
      have hu' : w''.ownsRow w.heap.size 5 1 u K.length (K.map encB) := ⟨hu.1, hu.2.imp id fun ⟨g, cap, cur, q1, q2, q3⟩ => ⟨g, cap, cur, q1, by omega, q3⟩⟩
      exact ⟨u, rfl, by simpa [pushR] using hu', hf.mono (by simp), fun _ => hf⟩
    · have h1 := ht.free 2 (by kernel_rfl)
      exact .inl ⟨_, _, by simp [execOp, go_sem, Act.eval, h1]; rfl, by simp [pushR], Frm.refl _ _, fun _ => Frm.refl _ _⟩
    · obtain ⟨u0, h0, e0⟩ := ht.dep 6 30 (by kernel_rfl) rfl
      simp only [pushR] at e0
      obtain ⟨u1, h1, e1⟩ := ht.dep 7 31 (by kernel_rfl) rfl
      simp [pushR] at e1
      subst e1
      obtain ⟨u1, h1, e1⟩ : ∃ u1, a'.tmps[31]? = some u1 ∧ u1 = .int .i64 (n : Int) := ⟨_, h1, rfl⟩
      subst e1
      simp at e0
      obtain ⟨ka, kn, kc, rfl⟩ : ∃ ka kn kc, u0 = .slice ka kn kc := by
        rcases e0.2 with ⟨q, _⟩ | ⟨g, c, cur, q, _⟩
        · exact ⟨_, _, _, q⟩
        · exact ⟨_, _, _, q⟩
      exact .inl ⟨.agg #[.slice ka kn kc, .int .i64 (n : Int), .int .i64 0], w', by simp [execOp, go_sem, Act.eval, h0, h1], by simp [pushR]; exact e0, Frm.refl _ _, fun _ => Frm.refl _ _⟩
    · obtain ⟨u0, h0, e0⟩ := ht.dep 8 32 (by kernel_rfl) rfl
      simp only [pushR] at e0
      simp at e0
      obtain ⟨k, rfl, hk⟩ := e0
      obtain ⟨ka, kn, kc, rfl⟩ : ∃ ka kn kc, k = .slice ka kn kc := by
        rcases hk.2 with ⟨q, _⟩ | ⟨g, c, cur, q, _⟩
        · exact ⟨_, _, _, q⟩
        · exact ⟨_, _, _, q⟩
      have hfa : Frm [] w' (w'.alloc (.cells #[.slice ka kn kc, .int .i64 (n : Int), .int .i64 0] 76)) := (Frm.refl _ _).alloc _
      refine .inl ⟨.slice (some ⟨w'.heap.size, 0, none⟩) 1 1, w'.alloc (.cells #[.slice ka kn kc, .int .i64 (n : Int), .int .i64 0] 76), by simp [execOp, go_sem, Act.eval, h0], ?_, hfa.mono (by simp), fun _ => hfa⟩
      simp only [pushR]
      exact ⟨_, w'.heap.size, rfl, hG.size, heap_alloc_at _ _, ownsRow_frm hk hfa (by simp)⟩
    · obtain ⟨u0, h0, e0⟩ := ht.dep 4 28 (by kernel_rfl) rfl
      simp [pushR] at e0
      subst e0
      obtain ⟨u1, h1, e1⟩ := ht.dep 9 33 (by kernel_rfl) rfl
      simp only [pushR] at e1
      simp at e1
      obtain ⟨k, g, rfl, hg, hcell, hk⟩ := e1
      obtain ⟨ka, kn, kc, rfl⟩ : ∃ ka kn kc, k = .slice ka kn kc := by
        rcases hk.2 with ⟨q, _⟩ | ⟨g, c, cur, q, _⟩
        · exact ⟨_, _, _, q⟩
        · exact ⟨_, _, _, q⟩
      obtain ⟨v', w2, hrun, r1, r2, r3, _⟩ := run_append_row (P := Tryd.prog) w' 0 71 71 76 i0 (.agg #[.slice none 0 0, .int .i64 0, .int .i64 0]) 3 40 Tryd.underlying71 hi hz0 hz1 hz2 rfl (by decide) (.slice la fs.length lc) fs.length (fs.flatMap fcells) (hC rfl) (.slice (some ⟨g, 0, none⟩) 1 1) 1 [.slice ka kn kc, .int .i64 (n : Int), .int .i64 0]
        (.inr ⟨_, _, rfl, fun j u hj => by rw [addr_add, Nat.zero_add]; exact cell_of_heap hcell (by simpa using hj)⟩) rfl (by
          intro u hu
          simp at hu
          rcases hu with rfl | rfl | rfl <;> rfl) (by unfold maxLen; omega) (by omega) (by omega)
      refine .inl ⟨v', w2, by simp [execOp, resolve, invoke, builtin, Act.eval, h0, h1, hrun, Result.andThen], ?_, r2, fun h => absurd rfl h⟩
      simp only [pushR]
      have hS : ∀ b ∈ (Value.slice la fs.length lc).ownBlock.toList, b < w.heap.size := fun b hb => h5 b (H4.out b (by simpa using hb)).1
      refine ⟨_, own_kept hk r2 hS, r1, fun b hb => ?_⟩
      have hkb : ∀ q, (Value.slice ka kn kc).ownBlock = some q → w.heap.size ≤ q ∧ q < w'.heap.size := fun q hq => by
        rcases hk.2 with ⟨q1, _⟩ | ⟨g2, c2, cur, q1, q2, q3, _⟩
        · cases q1; simp [Value.ownBlock] at hq
        · cases q1
          obtain rfl : g2 = q := by simpa [Value.ownBlock] using hq
          exact ⟨q2, lt_of_heap q3⟩
      have hsz' : w.heap.size ≤ w'.heap.size := hG.size
      rcases r3 b hb with h | h
      · refine ⟨.inl h.symm, fun hq => ?_⟩
        have h7 := hS b (by rw [← h]; simp)
        have h8 := (hkb b hq).1
        omega
      · refine ⟨.inr (by omega), fun hq => ?_⟩
        have h8 := (hkb b hq).2
        omega
    · obtain ⟨u0, h0, e0⟩ := ht.dep 0 24 (by kernel_rfl) rfl
      simp [pushR] at e0
      subst e0
      exact .inl ⟨_, _, by simp [execOp, go_sem, Act.eval, h0]; rfl, by simp [pushR], Frm.refl _ _, fun _ => Frm.refl _ _⟩
    · obtain ⟨u0, h0, e0⟩ := ht.dep 11 35 (by kernel_rfl) rfl
      simp [pushR] at e0
      subst e0
      exact .inl ⟨_, _, by simp [execOp, go_sem, Act.eval, h0]; rfl, by simp [pushR], Frm.refl _ _, fun _ => Frm.refl _ _⟩
  case htail =>
    intro a' w' hde hsz hG hall
    obtain ⟨p, hp1, hp2⟩ := hall 12 _ 36 (by omega) rfl rfl
    simp [pushR] at hp2
    subst hp2
    obtain ⟨v', hv1, hv2⟩ := hall 10 _ 34 (by omega) rfl rfl
    simp [pushR] at hv2
    obtain ⟨k, hk, hrow, hbl⟩ := hv2
    obtain ⟨av, cv, rfl⟩ : ∃ av cv, v' = .slice av (fs.length + 1) cv := by
      rcases hrow.2 with ⟨q1, q2⟩ | ⟨g2, c2, cur, q1, q2⟩
      · omega
      · exact ⟨_, _, q1⟩
    have hF0 : Frm (Value.slice la fs.length lc).ownBlock.toList w w' := Frm.ofDrewN (n := nq) (Frm.ofDrew hG)
    have hx' := hF0.heap H1.out HX.out
    have hxl : x < w.heap.size := h5 x h3
    have hnx : ∀ b, (Value.slice av (fs.length + 1) cv).ownBlock = some b → b ≠ x := fun b hb e => by
      subst e
      rcases (hbl b hb).1 with h | h
      · exact (H4.out b h).2 rfl
      · omega
    have hcx := cell_of_heap (i := 0) hx' rfl
    have hzx := frozen_of_heap 0 hx'
    have hset := heap_set_at (i := 0) (.slice av (fs.length + 1) cv) hx'
    have hfs := (Frm.refl [x] w').setCell (p := ⟨x, 0, none⟩) (.inl (by simp)) (.slice av (fs.length + 1) cv)
    have hrow2 := ownsRow_frm hrow hfs (fun b hb e => hnx b e (by simpa using hb))
    have hkx : ∀ b, k.ownBlock = some b → w.heap.size ≤ b ∧ b < w'.heap.size := fun q hq => by
      rcases hk.2 with ⟨q1, _⟩ | ⟨g2, c2, cur, q1, q2, q3, _⟩
      · subst q1; simp [Value.ownBlock] at hq
      · subst q1
        obtain rfl : g2 = q := by simpa [Value.ownBlock] using hq
        exact ⟨q2, lt_of_heap q3⟩
    have hk2 := ownsRow_frm hk hfs (fun b hb e => by
      have := (hkx b e).1
      simp at hb
      omega)
    have HSET := Lib.hid hset
    have HROW := Lib.hid hrow2
    have HK := Lib.hid hk2
    have HKX := Lib.hid hkx
    have HF0 := Lib.hid hF0
    have HFS := Lib.hid hfs
    have HBL := Lib.hid hbl
    have HNX := Lib.hid hnx
    obtain ⟨tm, df⟩ := a'
    simp only at hde hsz hv1 hp1
    subst hde
    obtain ⟨l36, h36⟩ := Array.getElem?_eq_some_iff.1 hp1
    obtain ⟨l34, h34⟩ := Array.getElem?_eq_some_iff.1 hv1
    clear hG hall hk hrow hbl hF0 hx' hnx hset hfs hrow2 hkx hk2
    gi_wp2_with fail
    go_wp2_with fail
    go_ret
    have hF : Frm fp w (w'.setCell ⟨x, 0, none⟩ (.slice av (fs.length + 1) cv)) :=
      (HF0.out.mono (S' := fp) (fun b hb => .inl (H4.out b (by simpa using hb)).1)).trans HFS.out (fun b hb => .inl (by simp at hb; subst hb; exact h3))
    refine ⟨by simp [hsz], k, fp ++ ((Value.slice av (fs.length + 1) cv).ownBlock.toList ++ k.ownBlock.toList), ⟨_, HSET.out, ?_, by simp [h3], fun b hb => ⟨by simp [hb], HNX.out b hb⟩, ?_, ?_⟩, hF, ?_⟩
    · simpa [fcells, List.flatMap_append] using HROW.out
    · intro b hb
      have hs := hF.size
      rcases List.mem_append.1 hb with h | h
      · have := h5 b h; omega
      · rcases List.mem_append.1 h with h | h
        · have h7 := HROW.out.2
          rcases h7 with ⟨q1, _⟩ | ⟨g2, c2, cur, q1, q2, q3, _⟩
          · cases q1
          · rw [q1] at h
            obtain rfl : b = g2 := by simpa [Value.ownBlock] using h
            exact lt_of_heap q3
        · have := (HKX.out b (by simpa using h)).2
          have : (w'.setCell ⟨x, 0, none⟩ (.slice av (fs.length + 1) cv)).heap.size = w'.heap.size := by simp
          omega
    · intro f hf
      rcases List.mem_append.1 hf with h | h
      · obtain ⟨q1, q2⟩ := H6.out f h
        refine ⟨Rd.frm (Rd.frm q1 HF0.out (fun b hb e => (q2 b e).2.2 (by simpa using hb))) HFS.out (fun b hb e => (q2 b e).2.1 (by simpa using hb)), fun b hb => ⟨by simp [(q2 b hb).1], (q2 b hb).2.1, fun e => ?_⟩⟩
        rcases (HBL.out b e).1 with h8 | h8
        · exact (q2 b hb).2.2 h8
        · have := h5 b (q2 b hb).1
          omega
      · obtain rfl : f = (k, K, n, 0) := by simpa using h
        refine ⟨Rd.ofOwn HK.out, fun b hb => ⟨by simp [hb], ?_, fun e => (HBL.out b e).2 hb⟩⟩
        have := (HKX.out b hb).1
        have := h5 x h3
        omega
    · intro b hb
      rcases List.mem_append.1 hb with h | h
      · exact .inl h
      · rcases List.mem_append.1 h with h | h
        · rcases (HBL.out b (by simpa using h)).1 with h8 | h8
          · exact .inl (H4.out b h8).1
          · exact .inr h8
        · exact .inr (HKX.out b (by simpa using h)).1

end Go.Proofs.YtaobohlcpgnebaaDoor
