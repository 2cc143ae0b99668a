/-
  slices.All over texts: the iterator that it hands back; textbuf.Buf's All. Conditions: as each says.
-/
import Derived.Test.YtnajkjgjeiodmaaGreatDoorSs
import Derived.Test.YtnajkjgjeiodmaaGreatDoorTbc
import Derived.Test.YtnajkjgjeiodmaaGreatDoorIdx7
import Derived.Test.YtnajkjgjeiodmaaGreatDoorVedI
namespace Go.Proofs.YtnajkjgjeiodmaaGreatDoor
open Go.RowKit
open Go.Proofs (Tryz.prog)

/-- A buffer of the text T in the blocks fp. -/
def Buf (w : World) (b : Nat) (fp : List Nat) (T : List UInt8) (edits np cap : Nat) : Prop :=
  ∃ t ft x fx, w.heap[b]? = some (.cells #[.pointer (some ⟨t, 0, none⟩), .pointer (some ⟨x, 0, none⟩)] 60 (0, 0)) ∧ Pp.Tbl w t ft T 4095 edits np cap ∧ Idx w x fx T ∧ fp = b :: (ft ++ fx) ∧ b ∉ ft ∧ b ∉ fx ∧ ∀ q ∈ ft, q ∉ fx
theorem Buf.frm {w w' : World} {b : Nat} {fp S : List Nat} {T : List UInt8} {edits np cap : Nat} (h : Buf w b fp T edits np cap) (hf : Frm S w w') (hd : ∀ q ∈ fp, q ∉ S) : Buf w' b fp T edits np cap := by
  obtain ⟨t, ft, x, fx, h1, h2, h3, rfl, h5, h6, h7⟩ := h
  exact ⟨t, ft, x, fx, hf.heap h1 (hd b (by simp)), h2.frm hf (fun q hq => hd q (by simp [hq])), h3.frm hf (fun q hq => hd q (by simp [hq])), rfl, h5, h6, h7⟩
theorem Buf.frm0 {w w' : World} {b : Nat} {fp : List Nat} {T : List UInt8} {edits np cap : Nat} (h : Buf w b fp T edits np cap) (hf : Frm [] w w') : Buf w' b fp T edits np cap := h.frm hf (by simp)
theorem Buf.lt {w : World} {b : Nat} {fp : List Nat} {T : List UInt8} {edits np cap : Nat} (h : Buf w b fp T edits np cap) : ∀ q ∈ fp, q < w.heap.size := by
  obtain ⟨t, ft, x, fx, h1, h2, h3, rfl, -⟩ := h
  intro q hq
  rcases List.mem_cons.1 hq with rfl | hq
  · exact lt_of_heap h1
  · rcases List.mem_append.1 hq with hq | hq
    · exact h2.lt q hq
    · exact h3.lt q hq
theorem Buf.most {w : World} {b : Nat} {fp : List Nat} {T : List UInt8} {edits np cap : Nat} (h : Buf w b fp T edits np cap) : T.length ≤ 4095 ∧ np ≤ 2 * edits + 1 ∧ T.length ≤ cap ∧ edits ≤ cap := by
  obtain ⟨t, ft, x, fx, h1, h2, -⟩ := h
  have := h2.few
  omega
theorem Buf.mem {w : World} {b : Nat} {fp : List Nat} {T : List UInt8} {edits np cap : Nat} (h : Buf w b fp T edits np cap) : b ∈ fp := by
  obtain ⟨t, ft, x, fx, h1, h2, h3, rfl, -⟩ := h
  simp

section
variable {w : World} {b : Nat} {fp : List Nat} {T : List UInt8} {edits np cap : Nat}
theorem bCount (h : Buf w b fp T edits np cap) : Calls Tryz.prog 22 #[.pointer (some ⟨b, 0, none⟩)] w fun e w' => e = .returned (.int .i64 ((cutL T).length : Nat)) ∧ w = w' := by
  obtain ⟨t, ft, x, fx, h1, h2, h3, rfl, -⟩ := h
  have hc := idxLines w x fx T h3
  rw [nl_cutL] at hc
  have hb := cell_of_heap (i := 1) h1 rfl
  clear h1 h2 h3
  go_enter Tryz.func22, Tryz.ntmps22
  go_wp2_with fail
  refine hc.mono ?_
  rintro e w' ⟨rfl, rfl⟩
  clear hc
  go_wp2_with fail
  go_ret
  exact ⟨rfl, rfl⟩
theorem bBytes (h : Buf w b fp T edits np cap) : Calls Tryz.prog 20 #[.pointer (some ⟨b, 0, none⟩)] w fun e w' => e = .returned (.int .i64 ((T.length : Int) + 1)) ∧ w = w' := by
  have hm := h.most
  obtain ⟨t, ft, x, fx, h1, h2, h3, rfl, -⟩ := h
  have hc := idxLen w x fx T h3
  have hb := cell_of_heap (i := 1) h1 rfl
  clear h1 h2 h3
  generalize T.length = n at *
  go_enter Tryz.func20, Tryz.ntmps20
  go_wp2_with fail
  refine hc.mono ?_
  rintro e w' ⟨rfl, rfl⟩
  clear hc
  go_wp2_with fail
  go_ret
  exact ⟨by go_num, rfl⟩
theorem bPieces (h : Buf w b fp T edits np cap) : Calls Tryz.prog 23 #[.pointer (some ⟨b, 0, none⟩)] w fun e w' => e = .returned (.int .i64 np) ∧ w = w' := by
  obtain ⟨t, ft, x, fx, h1, h2, h3, rfl, -⟩ := h
  have hc := Pp.tPieces h2
  have hb := cell_of_heap (i := 0) h1 rfl
  clear h1 h2 h3
  go_enter Tryz.func23, Tryz.ntmps23
  go_wp2_with fail
  refine hc.mono ?_
  rintro e w' ⟨rfl, rfl⟩
  clear hc
  go_wp2_with fail
  go_ret
  exact ⟨rfl, rfl⟩
theorem bEdits (h : Buf w b fp T edits np cap) : Calls Tryz.prog 24 #[.pointer (some ⟨b, 0, none⟩)] w fun e w' => e = .returned (.int .i64 edits) ∧ w = w' := by
  obtain ⟨t, ft, x, fx, h1, h2, h3, rfl, -⟩ := h
  have hc := Pp.tEdits h2
  have hb := cell_of_heap (i := 0) h1 rfl
  clear h1 h2 h3
  go_enter Tryz.func24, Tryz.ntmps24
  go_wp2_with fail
  refine hc.mono ?_
  rintro e w' ⟨rfl, rfl⟩
  clear hc
  go_wp2_with fail
  go_ret
  exact ⟨rfl, rfl⟩
theorem bLine_no (h : Buf w b fp T edits np cap) (k : Int) (hk : ¬ (0 ≤ k ∧ k < ((cutL T).length : Nat))) : Calls Tryz.prog 21 #[.pointer (some ⟨b, 0, none⟩), .int .i64 k] w fun e w' => e = .returned (.tuple #[.string ⟨#[]⟩, .bool false]) ∧ w = w' := by
  obtain ⟨t, ft, x, fx, h1, h2, h3, rfl, -⟩ := h
  have hc := idxStart_no w x fx T h3 k (by rw [nl_cutL]; exact hk)
  have hb := cell_of_heap (i := 1) h1 rfl
  clear h1 h2 h3
  clear hk
  go_enter Tryz.func21, Tryz.ntmps21
  go_wp2_with fail
  refine hc.mono ?_
  rintro e w' ⟨rfl, rfl⟩
  clear hc
  go_wp2_with fail
  go_ret2
  exact ⟨rfl, rfl⟩
theorem bLine (h : Buf w b fp T edits np cap) (hcap : cap ≤ 268435456) (k : Nat) (l : List UInt8) (hl : (cutL T)[k]? = some l) : Calls Tryz.prog 21 #[.pointer (some ⟨b, 0, none⟩), .int .i64 k] w fun e w' => e = .returned (.tuple #[strV l, .bool true]) ∧ Frm [] w w' := by
  have hm := h.most
  obtain ⟨t, ft, x, fx, h1, h2, h3, rfl, -⟩ := h
  have hk := (List.getElem?_eq_some_iff.1 hl).1
  have hp := pos_succ hl
  have hle := pos_le (cutL_ne T) (k + 1)
  rw [join_cutL] at hle
  have hln := line_at hl
  rw [join_cutL] at hln
  have hc := idxStart_yes w x fx T h3 k _ (starts_pos hk)
  have hc2 := idxSize_yes w x fx T h3 (by omega) k _ _ (by rw [nl_cutL]; exact hk) (bnd_pos (Nat.le_of_lt hk)) (bnd_pos hk)
  have hc3 := Pp.tSlice h2 (pos (cutL T) k) l.length hcap (by omega)
  rw [hln] at hc3
  rw [show ((pos (cutL T) (k + 1) : Nat) : Int) - 1 - ((pos (cutL T) k : Nat) : Int) = (l.length : Nat) by omega] at hc2
  have hb := cell_of_heap (i := 1) h1 rfl
  have hb0 := cell_of_heap (i := 0) h1 rfl
  clear h1 h2 h3 hln hp hle
  generalize pos (cutL T) k = p at *
  generalize hsv : strV l = sv
  unfold strV at hsv
  rw [hsv] at hc3
  clear hl hk
  generalize l.length = n at *
  go_enter Tryz.func21, Tryz.ntmps21
  go_wp2_with fail
  refine hc.mono ?_
  rintro e w' ⟨rfl, rfl⟩
  clear hc
  go_wp2_with fail
  refine hc2.mono ?_
  rintro e w' ⟨rfl, rfl⟩
  clear hc2
  go_wp2_with fail
  refine hc3.mono ?_
  rintro e w' ⟨rfl, hf⟩
  clear hc3
  go_wp2_with fail
  go_ret2
  exact ⟨rfl, hf⟩
end

end Go.Proofs.YtnajkjgjeiodmaaGreatDoor

namespace Go.Proofs.YtnajkjgjeiodmaaGreatDoor
open Go.RowKit
open Go.Proofs (Tryz.prog)

def blR (b t n : Nat) (s : ByteArray) : Nat → Value → World → Prop := fun q u w => (([(fun u _ => u = .pointer (some ⟨b, 0, none⟩)),
    (fun u _ => u = .pointer (some ⟨b, 0, none⟩)),
    (fun u _ => u = .pointer (some ⟨b, 0, none⟩)),
    (fun u _ => u = .pointer (some ⟨t, 0, none⟩)),
    (fun u _ => u = .pointer (some ⟨b, 0, none⟩)),
    (fun u _ => u = .pointer (some ⟨b, 0, none⟩)),
    (fun u _ => u = .pointer (some ⟨b, 0, none⟩)),
    (fun u _ => u = .pointer (some ⟨t, 0, none⟩)),
    (fun u _ => u = .int .i64 (n : Int)),
    (fun u _ => u = .tuple #[.string s, .int .i64 0]),
    (fun u _ => u = .tuple #[.string s, .int .i64 0]),
    (fun u _ => u = .string s),
    (fun u _ => u = .int .i64 0),
    (fun u _ => u = .string s)] : List (Value → World → Prop)).getD q fun _ _ => False) u w
set_option maxRecDepth 100000 in
set_option maxHeartbeats 1600000 in
theorem bLinesRow {w : World} {b : Nat} {fp : List Nat} {T : List UInt8} {edits np cap : Nat} (h : Buf w b fp T edits np cap) (hcap : cap ≤ 268435456) (hm : MaxLenIs w) : Calls Tryz.prog 30 #[.pointer (some ⟨b, 0, none⟩)] w fun e w' => ∃ u base, e = .returned u ∧ w'.ownsRow base 9 1 u (cutL T).length ((cutL T).map strV) ∧ w.heap.size ≤ base ∧ Frm [] w w' ∧ MaxLenIs w' := by
  have hmo := h.most
  obtain ⟨t, ft, x, fx, h1, h2, h3, rfl, -⟩ := h
  have hc := fun w2 (hf : Frm [] w.drew w2) => Pp.tLen (h2.frm hf.ofDrew (by simp))
  have hc3 := fun w2 (hf : Frm [] w.drew w2) => Pp.tSlice (h2.frm hf.ofDrew (by simp)) 0 T.length hcap (by omega)
  rw [List.drop_zero, List.take_length] at hc3
  have hsp := fun w2 (hf : Frm [] w w2) => strSplit w2 T (hm.frm hf) (by omega)
  have hb0 := cell_of_heap (i := 0) h1 rfl
  clear h1 h2 h3
  generalize (⟨T.toArray⟩ : ByteArray) = s at *
  generalize T.length = n at *
  have HSP := Lib.hid hsp
  have HC3 := Lib.hid hc3
  have HC := Lib.hid hc
  have HM := Lib.hid hm
  clear hsp hc3 hc hm
  have mixed : Tryz.prog.follows .mixedOrders = true := by kernel_rfl
  go_enter Tryz.func30, Tryz.ntmps30
  go_wp2_with fail
  refine (wpIn_wide (n := 3)).1 ?_
  refine wpIn_region_joint (size := 20) wide_wide 14 (blR b t n s) (Frm []) (fun _ => Frm []) (fun _ _ => True) mixed (by kernel_rfl) (by kernel_rfl) (by decide) (by kernel_rfl) (by kernel_rfl) (by kernel_rfl) (by kernel_rfl) rfl (fun h k => h.trans k (by simp)) (Frm.refl _ _) (fun _ _ _ _ h => h) ?hR trivial ?hgd ?hrun ?htail
  case hR =>
    intro qi qj qv A B hi hj hij h hf
    rcases (by omega : qi = 0 ∨ qi = 1 ∨ qi = 2 ∨ qi = 3 ∨ qi = 4 ∨ qi = 5 ∨ qi = 6 ∨ qi = 7 ∨ qi = 8 ∨ qi = 9 ∨ qi = 10 ∨ qi = 11 ∨ qi = 12 ∨ qi = 13) with rfl | rfl | rfl | rfl | rfl | rfl | rfl | rfl | rfl | rfl | rfl | rfl | rfl | rfl
    all_goals exact h
  case hgd =>
    intro qi qo qg qb hi ho hgo qv A hv
    rcases (by omega : qi = 0 ∨ qi = 1 ∨ qi = 2 ∨ qi = 3 ∨ qi = 4 ∨ qi = 5 ∨ qi = 6 ∨ qi = 7 ∨ qi = 8 ∨ qi = 9 ∨ qi = 10 ∨ qi = 11 ∨ qi = 12 ∨ qi = 13) with rfl | rfl | rfl | rfl | rfl | rfl | rfl | rfl | rfl | rfl | rfl | rfl | rfl | rfl
    all_goals obtain rfl := Option.some.inj ho
    all_goals first
      | (cases hgo; done)
      | (cases hgo; exact hv)
  case hrun =>
    intro qi hi qo ho qa w' L hG ht hLi hJ
    rcases (by omega : qi = 0 ∨ qi = 1 ∨ qi = 2 ∨ qi = 3 ∨ qi = 4 ∨ qi = 5 ∨ qi = 6 ∨ qi = 7 ∨ qi = 8 ∨ qi = 9 ∨ qi = 10 ∨ qi = 11 ∨ qi = 12 ∨ qi = 13) with rfl | rfl | rfl | rfl | rfl | rfl | rfl | rfl | rfl | rfl | rfl | rfl | rfl | rfl
    all_goals obtain rfl := Option.some.inj ho
    · have h0 := ht.free 0 (by kernel_rfl)
      exact .inl ⟨_, _, by simp [execOp, go_sem, Act.eval, h0]; first | rfl | exact ⟨rfl, rfl⟩, by exact rfl, by exact Frm.refl _ _, trivial⟩
    · obtain ⟨v0, h0, e0⟩ := ht.dep 0 6 (by kernel_rfl) rfl
      obtain rfl : .pointer (some ⟨b, 0, none⟩) = v0 := Eq.symm e0
      exact .inl ⟨_, _, by simp [execOp, go_sem, Act.eval, h0]; first | rfl | exact ⟨rfl, rfl⟩, by exact rfl, by exact Frm.refl _ _, trivial⟩
    · obtain ⟨v0, h0, e0⟩ := ht.dep 1 7 (by kernel_rfl) rfl
      obtain rfl : .pointer (some ⟨b, 0, none⟩) = v0 := Eq.symm e0
      exact .inl ⟨_, _, by simp [execOp, go_sem, Act.eval, h0]; first | rfl | exact ⟨rfl, rfl⟩, by exact rfl, by exact Frm.refl _ _, trivial⟩
    · obtain ⟨v0, h0, e0⟩ := ht.dep 2 8 (by kernel_rfl) rfl
      obtain rfl : .pointer (some ⟨b, 0, none⟩) = v0 := Eq.symm e0
      have hcl := hG.cell hb0 (by simp)
      exact .inl ⟨_, _, by simp [execOp, go_sem, Act.eval, h0, hcl]; first | rfl | exact ⟨rfl, rfl⟩, by exact rfl, by exact Frm.refl _ _, trivial⟩
    · have h0 := ht.free 0 (by kernel_rfl)
      exact .inl ⟨_, _, by simp [execOp, go_sem, Act.eval, h0]; first | rfl | exact ⟨rfl, rfl⟩, by exact rfl, by exact Frm.refl _ _, trivial⟩
    · obtain ⟨v0, h0, e0⟩ := ht.dep 4 10 (by kernel_rfl) rfl
      obtain rfl : .pointer (some ⟨b, 0, none⟩) = v0 := Eq.symm e0
      exact .inl ⟨_, _, by simp [execOp, go_sem, Act.eval, h0]; first | rfl | exact ⟨rfl, rfl⟩, by exact rfl, by exact Frm.refl _ _, trivial⟩
    · obtain ⟨v0, h0, e0⟩ := ht.dep 5 11 (by kernel_rfl) rfl
      obtain rfl : .pointer (some ⟨b, 0, none⟩) = v0 := Eq.symm e0
      exact .inl ⟨_, _, by simp [execOp, go_sem, Act.eval, h0]; first | rfl | exact ⟨rfl, rfl⟩, by exact rfl, by exact Frm.refl _ _, trivial⟩
    · obtain ⟨v0, h0, e0⟩ := ht.dep 6 12 (by kernel_rfl) rfl
      obtain rfl : .pointer (some ⟨b, 0, none⟩) = v0 := Eq.symm e0
      have hcl := hG.cell hb0 (by simp)
      exact .inl ⟨_, _, by simp [execOp, go_sem, Act.eval, h0, hcl]; first | rfl | exact ⟨rfl, rfl⟩, by exact rfl, by exact Frm.refl _ _, trivial⟩
    · obtain ⟨v0, h0, e0⟩ := ht.dep 7 13 (by kernel_rfl) rfl
      obtain rfl : .pointer (some ⟨t, 0, none⟩) = v0 := Eq.symm e0
      refine .inr ⟨52, #[.pointer (some ⟨t, 0, none⟩)], by simp [execOp, go_sem, Act.eval, h0], ?_⟩
      refine (HC.out w' hG).mono ?_
      rintro e w2 ⟨rfl, rfl⟩
      exact ⟨_, rfl, by exact rfl, Frm.refl _ _, trivial⟩
    · obtain ⟨v0, h0, e0⟩ := ht.dep 3 9 (by kernel_rfl) rfl
      obtain rfl : .pointer (some ⟨t, 0, none⟩) = v0 := Eq.symm e0
      obtain ⟨v1, h1, e1⟩ := ht.dep 8 14 (by kernel_rfl) rfl
      obtain rfl : .int .i64 (n : Int) = v1 := Eq.symm e1
      refine .inr ⟨38, #[.pointer (some ⟨t, 0, none⟩), .int .i64 ((0 : Nat) : Int), .int .i64 (n : Int)], by simp [execOp, go_sem, Act.eval, h0, h1], ?_⟩
      refine (HC3.out w' hG).mono ?_
      rintro e w2 ⟨rfl, hf2⟩
      exact ⟨_, rfl, by exact rfl, hf2, trivial⟩
    · obtain ⟨v0, h0, e0⟩ := ht.dep 9 15 (by kernel_rfl) rfl
      obtain rfl : .tuple #[.string s, .int .i64 0] = v0 := Eq.symm e0
      exact .inl ⟨_, _, by simp [execOp, go_sem, Act.eval, h0]; first | rfl | exact ⟨rfl, rfl⟩, by exact rfl, by exact Frm.refl _ _, trivial⟩
    · obtain ⟨v0, h0, e0⟩ := ht.dep 10 5 (by kernel_rfl) rfl
      obtain rfl : .tuple #[.string s, .int .i64 0] = v0 := Eq.symm e0
      exact .inl ⟨_, _, by simp [execOp, go_sem, Act.eval, h0]; first | rfl | exact ⟨rfl, rfl⟩, by exact rfl, by exact Frm.refl _ _, trivial⟩
    · obtain ⟨v0, h0, e0⟩ := ht.dep 10 5 (by kernel_rfl) rfl
      obtain rfl : .tuple #[.string s, .int .i64 0] = v0 := Eq.symm e0
      exact .inl ⟨_, _, by simp [execOp, go_sem, Act.eval, h0]; first | rfl | exact ⟨rfl, rfl⟩, by exact rfl, by exact Frm.refl _ _, trivial⟩
    · obtain ⟨v0, h0, e0⟩ := ht.dep 11 16 (by kernel_rfl) rfl
      obtain rfl : .string s = v0 := Eq.symm e0
      exact .inl ⟨_, _, by simp [execOp, go_sem, Act.eval, h0]; first | rfl | exact ⟨rfl, rfl⟩, by exact rfl, by exact Frm.refl _ _, trivial⟩
  case htail =>
    intro a' w' L hde hsz hG hL hJ hall hfree
    obtain ⟨u0, k0, e0⟩ := hall 0 _ 6 (by omega) rfl rfl
    obtain rfl : .pointer (some ⟨b, 0, none⟩) = u0 := Eq.symm e0
    obtain ⟨u1, k1, e1⟩ := hall 1 _ 7 (by omega) rfl rfl
    obtain rfl : .pointer (some ⟨b, 0, none⟩) = u1 := Eq.symm e1
    obtain ⟨u2, k2, e2⟩ := hall 2 _ 8 (by omega) rfl rfl
    obtain rfl : .pointer (some ⟨b, 0, none⟩) = u2 := Eq.symm e2
    obtain ⟨u3, k3, e3⟩ := hall 3 _ 9 (by omega) rfl rfl
    obtain rfl : .pointer (some ⟨t, 0, none⟩) = u3 := Eq.symm e3
    obtain ⟨u4, k4, e4⟩ := hall 4 _ 10 (by omega) rfl rfl
    obtain rfl : .pointer (some ⟨b, 0, none⟩) = u4 := Eq.symm e4
    obtain ⟨u5, k5, e5⟩ := hall 5 _ 11 (by omega) rfl rfl
    obtain rfl : .pointer (some ⟨b, 0, none⟩) = u5 := Eq.symm e5
    obtain ⟨u6, k6, e6⟩ := hall 6 _ 12 (by omega) rfl rfl
    obtain rfl : .pointer (some ⟨b, 0, none⟩) = u6 := Eq.symm e6
    obtain ⟨u7, k7, e7⟩ := hall 7 _ 13 (by omega) rfl rfl
    obtain rfl : .pointer (some ⟨t, 0, none⟩) = u7 := Eq.symm e7
    obtain ⟨u8, k8, e8⟩ := hall 8 _ 14 (by omega) rfl rfl
    obtain rfl : .int .i64 (n : Int) = u8 := Eq.symm e8
    obtain ⟨u9, k9, e9⟩ := hall 9 _ 15 (by omega) rfl rfl
    obtain rfl : .tuple #[.string s, .int .i64 0] = u9 := Eq.symm e9
    obtain ⟨u10, k10, e10⟩ := hall 10 _ 5 (by omega) rfl rfl
    obtain rfl : .tuple #[.string s, .int .i64 0] = u10 := Eq.symm e10
    obtain ⟨u11, k11, e11⟩ := hall 11 _ 16 (by omega) rfl rfl
    obtain rfl : .string s = u11 := Eq.symm e11
    obtain ⟨u12, k12, e12⟩ := hall 12 _ 17 (by omega) rfl rfl
    obtain rfl : .int .i64 0 = u12 := Eq.symm e12
    obtain ⟨u13, k13, e13⟩ := hall 13 _ 3 (by omega) rfl rfl
    obtain rfl : .string s = u13 := Eq.symm e13
    obtain ⟨tm, df⟩ := a'
    simp only at hde hsz hfree k0 k1 k2 k3 k4 k5 k6 k7 k8 k9 k10 k11 k12 k13
    have htm := tmps_of [(6, .pointer (some ⟨b, 0, none⟩)), (7, .pointer (some ⟨b, 0, none⟩)), (8, .pointer (some ⟨b, 0, none⟩)), (9, .pointer (some ⟨t, 0, none⟩)), (10, .pointer (some ⟨b, 0, none⟩)), (11, .pointer (some ⟨b, 0, none⟩)), (12, .pointer (some ⟨b, 0, none⟩)), (13, .pointer (some ⟨t, 0, none⟩)), (14, .int .i64 (n : Int)), (15, .tuple #[.string s, .int .i64 0]), (5, .tuple #[.string s, .int .i64 0]), (16, .string s), (17, .int .i64 0), (3, .string s)] _ (hsz.trans (show 20 = _ from rfl)) (by
      intro q hq
      simp only [List.mem_cons, List.not_mem_nil, or_false] at hq
      rcases hq with rfl | rfl | rfl | rfl | rfl | rfl | rfl | rfl | rfl | rfl | rfl | rfl | rfl | rfl
      all_goals assumption) (fun d hd => hfree d (fun j q hj hq => (by
        rcases (by omega : j = 0 ∨ j = 1 ∨ j = 2 ∨ j = 3 ∨ j = 4 ∨ j = 5 ∨ j = 6 ∨ j = 7 ∨ j = 8 ∨ j = 9 ∨ j = 10 ∨ j = 11 ∨ j = 12 ∨ j = 13) with rfl | rfl | rfl | rfl | rfl | rfl | rfl | rfl | rfl | rfl | rfl | rfl | rfl | rfl
        all_goals (obtain rfl := Option.some.inj hq; exact fun e => hd (by have e2 := Option.some.inj e; subst e2; simp)))))
    subst hde
    simp only [List.foldl_cons, List.foldl_nil, List.setIfInBounds_toArray, List.set_cons_succ, List.set_cons_zero] at htm
    subst htm
    clear hall hfree k0 k1 k2 k3 k4 k5 k6 k7 k8 k9 k10 k11 k12 k13
    have HG := Lib.hid hG.ofDrew
    clear hG hJ hL
    gi_wp2_with fail
    go_wp2_with fail
    refine (HSP.out w' HG.out).mono ?_
    rintro e w2 ⟨⟨u, rfl, hr⟩, hf2⟩
    have HF2 := Lib.hid hf2
    have HR := Lib.hid hr
    clear hr hf2
    go_wp2_with fail
    go_ret
    have hF := HG.out.trans HF2.out (by simp)
    exact ⟨u, _, rfl, HR.out, HG.out.size, hF, HM.out.frm hF⟩
theorem bLines {w : World} {b : Nat} {fp : List Nat} {T : List UInt8} {edits np cap : Nat} (h : Buf w b fp T edits np cap) (hcap : cap ≤ 268435456) (hm : MaxLenIs w) : Calls Tryz.prog 30 #[.pointer (some ⟨b, 0, none⟩)] w fun e w' => ∃ u, e = .returned u ∧ RdL w' u (cutL T) ∧ Frm [] w w' ∧ (∀ q, u.ownBlock = some q → w.heap.size ≤ q) ∧ MaxLenIs w' := by
  refine (bLinesRow h hcap hm).mono ?_
  rintro e w' ⟨u, base, rfl, h1, h2, h3, h4⟩
  exact ⟨u, rfl, rdL_row h1, h3, fun q hq => Nat.le_trans h2 (h1.lt q hq).1, h4⟩

end Go.Proofs.YtnajkjgjeiodmaaGreatDoor

namespace Go.Proofs.YtnajkjgjeiodmaaGreatDoor
open Go.RowKit
open Go.Proofs (Tryz.prog)

attribute [local go_sem] Oper.semAt_some

def elemsS (zs : List (List UInt8)) : List (Array Value) := zs.mapIdx fun i x => #[.int .i64 i, strV x]
theorem elemsS_length (zs : List (List UInt8)) : (elemsS zs).length = zs.length := by simp [elemsS]
theorem elemsS_get {zs : List (List UInt8)} {k : Nat} {z : List UInt8} (h : zs[k]? = some z) : (elemsS zs)[k]? = some #[.int .i64 k, strV z] := by simp [elemsS, h]
theorem elemsS_inv {zs : List (List UInt8)} {k : Nat} {x : Array Value} (h : (elemsS zs)[k]? = some x) : ∃ z, zs[k]? = some z ∧ x = #[.int .i64 k, strV z] := by
  rw [elemsS, List.getElem?_mapIdx] at h
  cases hz : zs[k]? with
  | none => simp [hz] at h
  | some z => exact ⟨z, rfl, by simpa [hz] using h.symm⟩

set_option maxRecDepth 100000 in
set_option maxHeartbeats 1000000 in
theorem allIterS (w : World) (Bs : Nat) (sv : Value) (base : Nat) (zs : List (List UInt8)) (hBs : w.heap[Bs]? = some (.cells #[sv] 22 (0, 0))) (hr : w.ownsRow base 9 1 sv zs.length (zs.map strV)) (hne : zs ≠ []) (hn : zs.length ≤ 1099511627776) :
    IterOver Tryz.prog 81 #[.pointer (some ⟨Bs, 0, none⟩)] (elemsS zs) (Keep (Bs :: sv.ownBlock.toList)) w := by
  intro l J Jx W hW hJ hJx hY h0
  rw [elemsS_length]
  have hBs' := hW.cells hBs
  rcases hr.2 with ⟨rfl, hz0⟩ | ⟨g, c, cur, rfl, hgb, hg, h1, h2, h3, h4⟩
  · exact absurd (List.eq_nil_of_length_eq_zero hz0) hne
  · have hg' := hW.cells hg
    have hcs : ∀ k z, zs[k]? = some z → W.cell? ⟨g, k, none⟩ = some (strV z) := fun k z hz => by
      have hrow : W.ownsRow base 9 1 (.slice (some ⟨g, 0, none⟩) zs.length c) zs.length (zs.map strV) := ⟨hr.1, .inr ⟨g, c, cur, rfl, hgb, hg', h1, h2, h3, h4⟩⟩
      have := hrow.cells (g := g) rfl k (strV z) (by rw [List.getElem?_map, hz]; rfl)
      rw [Addr.add_lit] at this
      simpa using this
    have hc := cell_of_heap (i := 0) hBs' rfl
    have hY' := fun k z W1 (hz : zs[k]? = some z) hj => hY k _ W1 (elemsS_get hz) hj
    have hcells := hcs
    have HCS := Lib.hid hcells
    have HY := Lib.hid hY'
    have HJ := Lib.hid hJ
    have HJX := Lib.hid hJx
    clear hr hg h2 h3 h4 hY hY' hcs hcells hW hBs hJ hJx hne
    have HN := Lib.hid (show ∀ k, k < zs.length → ∃ z, zs[k]? = some z from fun k hk => ⟨_, List.getElem?_eq_getElem hk⟩)
    have HBS := Lib.hid hBs'
    have HG := Lib.hid hg'
    clear hBs' hg'
    generalize zs.length = n at *
    refine callsIn_wide.1 (callsIn_of_wp (n := 3) Tryz.func81 rfl trivial ?_ rfl)
    simp only [Tryz.ntmps81, List.size_toArray, List.length_cons, List.length_nil, Nat.reduceAdd, Nat.reduceSub, Array.replicate_succ, Array.replicate_zero, List.push_toArray, List.append_toArray, List.nil_append, List.cons_append]
    gi_wp2
    gi_loopw [3, 4, 7] (fun _ _ i wr => ∃ k : Nat, k ≤ n ∧ i = .int .i64 k ∧ J k wr ∧ Keep [Bs, g] W wr) (fun _ _ i _ => n - (intOf i).toNat)
    case atStart => exact ⟨0, Nat.zero_le _, rfl, h0, Keep.refl _ _⟩
    case round =>
      obtain ⟨k, hk, rfl, hJs, hkp⟩ := hrel
      by_cases hlt : k < n
      · obtain ⟨z, hz⟩ := HN.out k hlt
        have hcx : wr.cell? ⟨g, k, none⟩ = some (strV z) := (World.cell?_of_block (show wr.heap[(⟨g, k, none⟩ : Addr).block]? = W.heap[(⟨g, k, none⟩ : Addr).block]? from hkp g (by simp))).trans (HCS.out k z hz)
        obtain ⟨fn, tmps, assign, body, hy, hR⟩ := HY.out k z wr hz hJs
        have HZ := Lib.hid hz
        have HR := Lib.hid hR
        have HKP := Lib.hid hkp
        have HJS := Lib.hid hJs
        clear hz hR hkp hJs
        generalize strV z = sz at *
        gi_wp2
        refine (roundIn_any HR.out).mono ?_
        rintro e W3 (⟨rfl, hJ3, hk3, -⟩ | ⟨rfl, hJx3, -⟩)
        · have HJ3 := Lib.hid hJ3
          have HK3 := Lib.hid hk3
          clear hJ3 hk3
          gi_wp2
          go_roundw
          case rel => exact ⟨k + 1, by omega, by simp, HJ3.out, HKP.out.trans HK3.out⟩
          case measure => simp [intOf]; omega
        · gi_wp2
          refine bodyPost_ret (results_none rfl _ _ _) rfl ?_
          exact ⟨⟨_, rfl⟩, .inr ⟨k, hlt, hJx3⟩⟩
      · obtain rfl : k = n := by omega
        gi_wp2
        go_end0
        exact ⟨⟨_, rfl⟩, .inl hJs⟩

set_option maxHeartbeats 400000 in
theorem slAllS (w : World) (a : Option Addr) (n c : Nat) :
    Calls Tryz.prog 57 #[.slice a n c] w fun e w' => e = .returned (.func (.func 81) #[] #[.pointer (some ⟨w.heap.size, 0, none⟩)]) ∧ w.alloc (.cells #[.slice a n c] 22) = w' := by
  go_enter Tryz.func57, Tryz.ntmps57
  go_wp2
  go_ret
  exact ⟨rfl, rfl⟩

set_option maxRecDepth 100000 in
set_option maxHeartbeats 800000 in
theorem bAll {w : World} {b : Nat} {fp : List Nat} {T : List UInt8} {edits np cap : Nat} (h : Buf w b fp T edits np cap) (hcap : cap ≤ 268435456) (hm : MaxLenIs w) :
    Calls Tryz.prog 34 #[.pointer (some ⟨b, 0, none⟩)] w fun e w' => ∃ Bs L, e = .returned (.func (.func 81) #[] #[.pointer (some ⟨Bs, 0, none⟩)]) ∧
      IterOver Tryz.prog 81 #[.pointer (some ⟨Bs, 0, none⟩)] (elemsS (cutL T)) (Keep L) w' ∧ Frm [] w w' ∧ ∀ b ∈ L, w.heap.size ≤ b ∧ b < w'.heap.size := by
  have hl := bLinesRow h hcap hm
  have hmo := h.most
  have hne := cutL_ne T
  have hcn := nl_cutL T
  have hnl := nl_le T
  have hbound : (cutL T).length ≤ 1099511627776 := by omega
  clear h hm hmo hcn hnl
  generalize cutL T = C at *
  have HN := Lib.hid hbound
  have HNE := Lib.hid hne
  have HL := Lib.hid hl
  clear hbound hne hl
  go_enter Tryz.func34, Tryz.ntmps34
  go_wp2_with fail
  refine HL.out.mono ?_
  rintro e w1 ⟨u, base, rfl, hr1, hb1, hf1, -⟩
  obtain ⟨a1, c1, rfl, _, _⟩ := ownsRow_form hr1
  have HR := Lib.hid hr1
  have HF := Lib.hid hf1
  clear hr1 hf1
  generalize hnn : C.length = n at *
  have HNN := Lib.hid hnn
  clear hnn
  go_wp2_with (go_at_call 57; refine (slAllS _ _ _ _).mono ?_; rintro e w' ⟨rfl, rfl⟩)
  go_ret
  have hal := heap_alloc_at w1 (.cells #[.slice a1 n c1] 22)
  have hsz := HF.out.size
  have hrow := HR.out.alloc (.cells #[.slice a1 n c1] 22)
  refine ⟨w1.heap.size, w1.heap.size :: (Value.slice a1 n c1).ownBlock.toList, by simp, allIterS _ _ _ base C hal (by rw [HNN.out]; exact hrow) HNE.out (by rw [HNN.out]; exact HN.out), HF.out.alloc _, ?_⟩
  intro b hb
  simp only [World.size_alloc]
  rcases List.mem_cons.1 hb with rfl | hb
  · omega
  · have := HR.out.lt b (by simpa using hb)
    omega

end Go.Proofs.YtnajkjgjeiodmaaGreatDoor
