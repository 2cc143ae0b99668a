/-
  WALK: the law's whole. Conditions: the slice holds just the buffer's lines.
-/
import Derived.Test.YtnajkjgjeiodmaaGreatDoorBa
import Derived.Test.YtnajkjgjeiodmaaGreatDoorBg
namespace Go.Proofs.YtnajkjgjeiodmaaGreatDoor
open Go.RowKit
open Go.Proofs (Tryz.prog)

attribute [local go_sem] Oper.semAt_some

def bwR (b cnt TL np ed : Nat) (va : Option Addr) (vc : Nat) (C : List (List UInt8)) : Nat → Value → World → Prop := fun q u w => (([(fun u _ => u = .pointer (some ⟨b, 0, none⟩)),
    (fun u X => RdL X u C),
    (fun u _ => u = .slice va cnt vc),
    (fun u _ => u = .bool true),
    (fun u _ => u = .bool false),
    (fun u _ => u = .bool false),
    (fun u _ => u = .pointer (some ⟨b, 0, none⟩)),
    (fun u _ => u = .int .i64 (cnt : Int)),
    (fun u _ => u = .slice va cnt vc),
    (fun u _ => u = .int .i64 (cnt : Int)),
    (fun u _ => u = .bool false),
    (fun u _ => u = .bool false),
    (fun u _ => u = .bool false),
    (fun u _ => u = .pointer (some ⟨b, 0, none⟩)),
    (fun u _ => u = .int .i64 ((TL : Int) + 1)),
    (fun u _ => u = .slice va cnt vc),
    (fun u _ => u = .int .i64 ((TL : Int) + 1)),
    (fun u _ => u = .bool false),
    (fun u _ => u = .bool false),
    (fun u _ => u = .bool false),
    (fun u _ => u = .pointer (some ⟨b, 0, none⟩)),
    (fun u _ => u = .int .i64 (np : Int)),
    (fun u _ => u = .pointer (some ⟨b, 0, none⟩)),
    (fun u _ => u = .int .i64 (ed : Int)),
    (fun u _ => u = .int .i64 (2 * (ed : Int))),
    (fun u _ => u = .int .i64 (2 * (ed : Int) + 1)),
    (fun u _ => u = .bool false)] : List (Value → World → Prop)).getD q fun _ _ => False) u w
set_option maxRecDepth 100000 in
set_option maxHeartbeats 16000000 in
theorem bWhole {w : World} {b : Nat} {fp : List Nat} {T : List UInt8} {ed np cap : Nat} (h : Buf w b fp T ed np cap) (hcap : cap ≤ 268435456) (hm : MaxLenIs w) (v : Value) (hv : RdL w v (cutL T)) :
    Calls Tryz.prog 14 #[.pointer (some ⟨b, 0, none⟩), v] w fun e w' => e = .returned (.bool true) ∧ Frm [] w w' := by
  obtain ⟨hmo1, hmo2, hmo3, hmo4⟩ := h.most
  obtain ⟨va, vc, rfl⟩ := hv.form
  have hTs := sizeL_cutL T
  have hcn := nl_cutL T
  have hnl := nl_le T
  obtain ⟨C, hC⟩ : ∃ C, C = cutL T := ⟨_, rfl⟩
  obtain ⟨cnt, hcnt⟩ : ∃ cnt, C.length = cnt := ⟨_, rfl⟩
  obtain ⟨TL, hTL⟩ : ∃ TL, T.length = TL := ⟨_, rfl⟩
  have hcb : cnt ≤ 4096 := by rw [← hcnt, hC]; omega
  obtain ⟨W0, hW0⟩ : ∃ W0, W0 = (w.alloc (.cells #[.slice va cnt vc] 22)).alloc (.cells #[.bool false] 4) := ⟨_, rfl⟩
  have hF0 : Frm [] w W0 := by rw [hW0]; exact ((Frm.refl _ w).alloc _).alloc _
  have hs0 : W0.heap.size = w.heap.size + 2 := by rw [hW0]; simp
  have hbx : W0.heap[w.heap.size]? = some (.cells #[.slice va cnt vc] 22 (0, 0)) := by rw [hW0, heap_alloc_below _ (by simp)]; exact heap_alloc_at w _
  have hb0 : W0.heap[w.heap.size + 1]? = some (.cells #[.bool false] 4 (0, 0)) := by
    have := heap_alloc_at (w.alloc (.cells #[.slice va cnt vc] 22)) (.cells #[.bool false] 4)
    rw [World.size_alloc] at this
    rw [hW0]; exact this
  have hB := h.frm0 hF0
  have hV := hv.frm hF0
  have hM := hm.frm hF0
  rw [← hC] at hV hTs hcn
  have hvw := hv
  rw [← hC, hcnt] at hvw
  rw [hcnt] at hV
  rw [← hC, hcnt]
  have hli := fun X (hf : Frm [] W0 X) => bLines (hB.frm0 hf) hcap (hM.frm hf)
  have hco := fun X (hf : Frm [] W0 X) => bCount (hB.frm0 hf)
  have hby := fun X (hf : Frm [] W0 X) => bBytes (hB.frm0 hf)
  have hpi := fun X (hf : Frm [] W0 X) => bPieces (hB.frm0 hf)
  have hed := fun X (hf : Frm [] W0 X) => bEdits (hB.frm0 hf)
  have hal := fun X (hf : Frm [] W0 X) => bAll (hB.frm0 hf) hcap (hM.frm hf)
  have hsi := fun X (hf : Frm [] W0 X) => refSize X _ C (hV.frm hf) (by omega) (by rw [hcnt]; omega)
  rw [← hC] at hli hco hal
  rw [hcnt] at hco
  rw [hTL] at hby hmo1 hmo3 hTs
  rw [hTs] at hsi
  rw [show ((TL + 1 : Nat) : Int) = (TL : Int) + 1 by omega] at hsi
  have hbx0 : W0.drew.cell? ⟨w.heap.size, 0, none⟩ = some (.slice va cnt vc) := cell_of_heap (i := 0) hbx rfl
  have HLI := Lib.hid hli
  have HCO := Lib.hid hco
  have HBY := Lib.hid hby
  have HPI := Lib.hid hpi
  have HED := Lib.hid hed
  have HAL := Lib.hid hal
  have HSI := Lib.hid hsi
  have HV := Lib.hid hV
  have HM := Lib.hid hM
  have HBU := Lib.hid hB
  have HBX := Lib.hid hbx
  have HB0 := Lib.hid hb0
  have HF0 := Lib.hid hF0
  have HS0 := Lib.hid hs0
  have HCB := Lib.hid (show C.length ≤ 140737488355328 by rw [hcnt]; omega)
  have HCN := Lib.hid hcnt
  have HCC := Lib.hid hC
  have HVW := Lib.hid hvw
  have HBW := Lib.hid h
  subst hW0
  clear hC h hm hv hvw hli hco hby hpi hed hal hsi hV hM hB hbx hb0 hF0 hs0 hcnt hTs hcn hnl hTL
  have mixed : Tryz.prog.follows .mixedOrders = true := by kernel_rfl
  refine callsIn_wide.1 (callsIn_of_wp_marks (n := 3) Tryz.func14 rfl trivial ?_ rfl)
  simp only [Tryz.ntmps14, List.size_toArray, List.length_cons, List.length_nil, Nat.reduceAdd, Nat.reduceSub, Array.replicate_succ, Array.replicate_zero, List.push_toArray, List.append_toArray, List.nil_append, List.cons_append]
  gi_wp2_with fail
  refine wpIn_region_joint (size := 91) wide_wide 27 (bwR b cnt TL np ed va vc C) (Frm []) (fun _ => Frm []) (fun _ _ => True) mixed (by kernel_rfl) (by kernel_rfl) (by decide) (by kernel_rfl) (by kernel_rfl) (by kernel_rfl) (by kernel_rfl) rfl (fun h k => h.trans k (by simp)) (Frm.refl _ _) (fun _ _ _ _ h => h) ?hR trivial ?hgd ?hrun ?htail
  case hR =>
    intro qi qj qv A B hi hj hij h hf
    rcases (by omega : qi = 0 ∨ qi = 1 ∨ qi = 2 ∨ qi = 3 ∨ qi = 4 ∨ qi = 5 ∨ qi = 6 ∨ qi = 7 ∨ qi = 8 ∨ qi = 9 ∨ qi = 10 ∨ qi = 11 ∨ qi = 12 ∨ qi = 13 ∨ qi = 14 ∨ qi = 15 ∨ qi = 16 ∨ qi = 17 ∨ qi = 18 ∨ qi = 19 ∨ qi = 20 ∨ qi = 21 ∨ qi = 22 ∨ qi = 23 ∨ qi = 24 ∨ qi = 25 ∨ qi = 26) with rfl | rfl | rfl | rfl | rfl | rfl | rfl | rfl | rfl | rfl | rfl | rfl | rfl | rfl | rfl | rfl | rfl | rfl | rfl | rfl | rfl | rfl | rfl | rfl | rfl | rfl | rfl
    all_goals first
        | exact h
        | exact RdL.frm h hf
  case hgd =>
    intro qi qo qg qb hi ho hgo qv A hv
    rcases (by omega : qi = 0 ∨ qi = 1 ∨ qi = 2 ∨ qi = 3 ∨ qi = 4 ∨ qi = 5 ∨ qi = 6 ∨ qi = 7 ∨ qi = 8 ∨ qi = 9 ∨ qi = 10 ∨ qi = 11 ∨ qi = 12 ∨ qi = 13 ∨ qi = 14 ∨ qi = 15 ∨ qi = 16 ∨ qi = 17 ∨ qi = 18 ∨ qi = 19 ∨ qi = 20 ∨ qi = 21 ∨ qi = 22 ∨ qi = 23 ∨ qi = 24 ∨ qi = 25 ∨ qi = 26) with rfl | rfl | rfl | rfl | rfl | rfl | rfl | rfl | rfl | rfl | rfl | rfl | rfl | rfl | rfl | rfl | rfl | rfl | rfl | rfl | rfl | rfl | rfl | rfl | rfl | rfl | rfl
    all_goals obtain rfl := Option.some.inj ho
    all_goals first
      | (cases hgo; done)
      | (cases hgo; exact hv)
  case hrun =>
    intro qi hi qo ho qa w' L hG ht hLi hJ
    rcases (by omega : qi = 0 ∨ qi = 1 ∨ qi = 2 ∨ qi = 3 ∨ qi = 4 ∨ qi = 5 ∨ qi = 6 ∨ qi = 7 ∨ qi = 8 ∨ qi = 9 ∨ qi = 10 ∨ qi = 11 ∨ qi = 12 ∨ qi = 13 ∨ qi = 14 ∨ qi = 15 ∨ qi = 16 ∨ qi = 17 ∨ qi = 18 ∨ qi = 19 ∨ qi = 20 ∨ qi = 21 ∨ qi = 22 ∨ qi = 23 ∨ qi = 24 ∨ qi = 25 ∨ qi = 26) with rfl | rfl | rfl | rfl | rfl | rfl | rfl | rfl | rfl | rfl | rfl | rfl | rfl | rfl | rfl | rfl | rfl | rfl | rfl | rfl | rfl | rfl | rfl | rfl | rfl | rfl | rfl
    all_goals obtain rfl := Option.some.inj ho
    · have h0 := ht.free 0 (by kernel_rfl)
      exact .inl ⟨_, _, by simp [execOp, go_sem, Act.eval, h0]; first | rfl | exact ⟨rfl, rfl⟩, by exact rfl, by exact Frm.refl _ _, trivial⟩
    · obtain ⟨v0, h0, e0⟩ := ht.dep 0 13 (by kernel_rfl) rfl
      obtain rfl : .pointer (some ⟨b, 0, none⟩) = v0 := Eq.symm e0
      refine .inr ⟨30, #[.pointer (some ⟨b, 0, none⟩)], by simp [execOp, go_sem, Act.eval, h0], ?_⟩
      refine (HLI.out w' hG.ofDrew).mono ?_
      rintro e w2 ⟨u, rfl, hr, hf, -, -⟩
      exact ⟨u, rfl, hr, hf, trivial⟩
    · have h0 := ht.free 3 (by kernel_rfl)
      have hcl := hG.cell hbx0 (by simp)
      exact .inl ⟨_, _, by simp [execOp, go_sem, Act.eval, h0, hcl]; first | rfl | exact ⟨rfl, rfl⟩, by exact rfl, by exact Frm.refl _ _, trivial⟩
    · obtain ⟨v0, h0, e0⟩ := ht.dep 1 14 (by kernel_rfl) rfl
      replace e0 : (fun u X => RdL X u C) v0 w' := e0
      obtain ⟨v1, h1, e1⟩ := ht.dep 2 15 (by kernel_rfl) rfl
      obtain rfl : .slice va cnt vc = v1 := Eq.symm e1
      refine .inr ⟨15, #[v0, .slice va cnt vc], by simp [execOp, go_sem, Act.eval, h0, h1], ?_⟩
      refine (hlpStrings w' v0 (.slice va cnt vc) C e0 (HV.out.frm hG.ofDrew) HCB.out).mono ?_
      rintro e w2 ⟨rfl, hf⟩
      exact ⟨_, rfl, by exact rfl, hf, trivial⟩
    · obtain ⟨v0, h0, e0⟩ := ht.dep 3 16 (by kernel_rfl) rfl
      obtain rfl : .bool true = v0 := Eq.symm e0
      exact .inl ⟨_, _, by simp [execOp, go_sem, Act.eval, h0]; first | rfl | exact ⟨rfl, rfl⟩, by exact rfl, by exact Frm.refl _ _, trivial⟩
    · obtain ⟨v0, h0, e0⟩ := ht.dep 4 17 (by kernel_rfl) rfl
      obtain rfl : .bool false = v0 := Eq.symm e0
      exact .inl ⟨_, _, by simp [execOp, go_sem, Act.eval, h0]; first | rfl | exact ⟨rfl, rfl⟩, by exact rfl, by exact Frm.refl _ _, trivial⟩
    · have h0 := ht.free 0 (by kernel_rfl)
      exact .inl ⟨_, _, by simp [execOp, go_sem, Act.eval, h0]; first | rfl | exact ⟨rfl, rfl⟩, by exact rfl, by exact Frm.refl _ _, trivial⟩
    · obtain ⟨v0, h0, e0⟩ := ht.dep 6 19 (by kernel_rfl) rfl
      obtain rfl : .pointer (some ⟨b, 0, none⟩) = v0 := Eq.symm e0
      refine .inr ⟨22, #[.pointer (some ⟨b, 0, none⟩)], by simp [execOp, go_sem, Act.eval, h0], ?_⟩
      refine (HCO.out w' hG.ofDrew).mono ?_
      rintro e w2 ⟨rfl, rfl⟩
      exact ⟨_, rfl, by exact rfl, Frm.refl _ _, trivial⟩
    · have h0 := ht.free 3 (by kernel_rfl)
      have hcl := hG.cell hbx0 (by simp)
      exact .inl ⟨_, _, by simp [execOp, go_sem, Act.eval, h0, hcl]; first | rfl | exact ⟨rfl, rfl⟩, by exact rfl, by exact Frm.refl _ _, trivial⟩
    · obtain ⟨v0, h0, e0⟩ := ht.dep 8 21 (by kernel_rfl) rfl
      obtain rfl : .slice va cnt vc = v0 := Eq.symm e0
      exact .inl ⟨_, _, by simp [execOp, go_sem, Act.eval, h0]; first | rfl | exact ⟨rfl, rfl⟩, by exact rfl, by exact Frm.refl _ _, trivial⟩
    · obtain ⟨v0, h0, e0⟩ := ht.dep 7 20 (by kernel_rfl) rfl
      obtain rfl : .int .i64 (cnt : Int) = v0 := Eq.symm e0
      obtain ⟨v1, h1, e1⟩ := ht.dep 9 22 (by kernel_rfl) rfl
      obtain rfl : .int .i64 (cnt : Int) = v1 := Eq.symm e1
      exact .inl ⟨_, _, by simp [execOp, go_sem, Act.eval, h0, h1]; first | rfl | exact ⟨rfl, rfl⟩, by exact rfl, by exact Frm.refl _ _, trivial⟩
    · obtain ⟨v0, h0, e0⟩ := ht.dep 5 18 (by kernel_rfl) rfl
      obtain rfl : .bool false = v0 := Eq.symm e0
      obtain ⟨v1, h1, e1⟩ := ht.dep 10 23 (by kernel_rfl) rfl
      obtain rfl : .bool false = v1 := Eq.symm e1
      exact .inl ⟨_, _, by simp [execOp, go_sem, Act.eval, h0, h1]; first | rfl | exact ⟨rfl, rfl⟩, by exact rfl, by exact Frm.refl _ _, trivial⟩
    · obtain ⟨v0, h0, e0⟩ := ht.dep 11 24 (by kernel_rfl) rfl
      obtain rfl : .bool false = v0 := Eq.symm e0
      exact .inl ⟨_, _, by simp [execOp, go_sem, Act.eval, h0]; first | rfl | exact ⟨rfl, rfl⟩, by exact rfl, by exact Frm.refl _ _, trivial⟩
    · have h0 := ht.free 0 (by kernel_rfl)
      exact .inl ⟨_, _, by simp [execOp, go_sem, Act.eval, h0]; first | rfl | exact ⟨rfl, rfl⟩, by exact rfl, by exact Frm.refl _ _, trivial⟩
    · obtain ⟨v0, h0, e0⟩ := ht.dep 13 26 (by kernel_rfl) rfl
      obtain rfl : .pointer (some ⟨b, 0, none⟩) = v0 := Eq.symm e0
      refine .inr ⟨20, #[.pointer (some ⟨b, 0, none⟩)], by simp [execOp, go_sem, Act.eval, h0], ?_⟩
      refine (HBY.out w' hG.ofDrew).mono ?_
      rintro e w2 ⟨rfl, rfl⟩
      exact ⟨_, rfl, by exact rfl, Frm.refl _ _, trivial⟩
    · have h0 := ht.free 3 (by kernel_rfl)
      have hcl := hG.cell hbx0 (by simp)
      exact .inl ⟨_, _, by simp [execOp, go_sem, Act.eval, h0, hcl]; first | rfl | exact ⟨rfl, rfl⟩, by exact rfl, by exact Frm.refl _ _, trivial⟩
    · obtain ⟨v0, h0, e0⟩ := ht.dep 15 28 (by kernel_rfl) rfl
      obtain rfl : .slice va cnt vc = v0 := Eq.symm e0
      refine .inr ⟨11, #[.slice va cnt vc], by simp [execOp, go_sem, Act.eval, h0], ?_⟩
      refine (HSI.out w' hG.ofDrew).mono ?_
      rintro e w2 ⟨rfl, rfl⟩
      exact ⟨_, rfl, by exact rfl, Frm.refl _ _, trivial⟩
    · obtain ⟨v0, h0, e0⟩ := ht.dep 14 27 (by kernel_rfl) rfl
      obtain rfl : .int .i64 ((TL : Int) + 1) = v0 := Eq.symm e0
      obtain ⟨v1, h1, e1⟩ := ht.dep 16 29 (by kernel_rfl) rfl
      obtain rfl : .int .i64 ((TL : Int) + 1) = v1 := Eq.symm e1
      exact .inl ⟨_, _, by simp [execOp, go_sem, Act.eval, h0, h1]; first | rfl | exact ⟨rfl, rfl⟩, by exact rfl, by exact Frm.refl _ _, trivial⟩
    · obtain ⟨v0, h0, e0⟩ := ht.dep 12 25 (by kernel_rfl) rfl
      obtain rfl : .bool false = v0 := Eq.symm e0
      obtain ⟨v1, h1, e1⟩ := ht.dep 17 30 (by kernel_rfl) rfl
      obtain rfl : .bool false = v1 := Eq.symm e1
      exact .inl ⟨_, _, by simp [execOp, go_sem, Act.eval, h0, h1]; first | rfl | exact ⟨rfl, rfl⟩, by exact rfl, by exact Frm.refl _ _, trivial⟩
    · obtain ⟨v0, h0, e0⟩ := ht.dep 18 31 (by kernel_rfl) rfl
      obtain rfl : .bool false = v0 := Eq.symm e0
      exact .inl ⟨_, _, by simp [execOp, go_sem, Act.eval, h0]; first | rfl | exact ⟨rfl, rfl⟩, by exact rfl, by exact Frm.refl _ _, trivial⟩
    · have h0 := ht.free 0 (by kernel_rfl)
      exact .inl ⟨_, _, by simp [execOp, go_sem, Act.eval, h0]; first | rfl | exact ⟨rfl, rfl⟩, by exact rfl, by exact Frm.refl _ _, trivial⟩
    · obtain ⟨v0, h0, e0⟩ := ht.dep 20 33 (by kernel_rfl) rfl
      obtain rfl : .pointer (some ⟨b, 0, none⟩) = v0 := Eq.symm e0
      refine .inr ⟨23, #[.pointer (some ⟨b, 0, none⟩)], by simp [execOp, go_sem, Act.eval, h0], ?_⟩
      refine (HPI.out w' hG.ofDrew).mono ?_
      rintro e w2 ⟨rfl, rfl⟩
      exact ⟨_, rfl, by exact rfl, Frm.refl _ _, trivial⟩
    · have h0 := ht.free 0 (by kernel_rfl)
      exact .inl ⟨_, _, by simp [execOp, go_sem, Act.eval, h0]; first | rfl | exact ⟨rfl, rfl⟩, by exact rfl, by exact Frm.refl _ _, trivial⟩
    · obtain ⟨v0, h0, e0⟩ := ht.dep 22 35 (by kernel_rfl) rfl
      obtain rfl : .pointer (some ⟨b, 0, none⟩) = v0 := Eq.symm e0
      refine .inr ⟨24, #[.pointer (some ⟨b, 0, none⟩)], by simp [execOp, go_sem, Act.eval, h0], ?_⟩
      refine (HED.out w' hG.ofDrew).mono ?_
      rintro e w2 ⟨rfl, rfl⟩
      exact ⟨_, rfl, by exact rfl, Frm.refl _ _, trivial⟩
    · obtain ⟨v0, h0, e0⟩ := ht.dep 23 36 (by kernel_rfl) rfl
      obtain rfl : .int .i64 (ed : Int) = v0 := Eq.symm e0
      have hwr : IntKind.i64.wrap (2 * (ed : Int)) = 2 * (ed : Int) := by rw [IntKind.wrap_i64]; omega
      exact .inl ⟨_, _, by simp [execOp, go_sem, Act.eval, h0, hwr]; first | rfl | exact ⟨rfl, rfl⟩, by exact rfl, by exact Frm.refl _ _, trivial⟩
    · obtain ⟨v0, h0, e0⟩ := ht.dep 24 37 (by kernel_rfl) rfl
      obtain rfl : .int .i64 (2 * (ed : Int)) = v0 := Eq.symm e0
      have hwr : IntKind.i64.wrap (2 * (ed : Int) + 1) = 2 * (ed : Int) + 1 := by rw [IntKind.wrap_i64]; omega
      exact .inl ⟨_, _, by simp [execOp, go_sem, Act.eval, h0, hwr]; first | rfl | exact ⟨rfl, rfl⟩, by exact rfl, by exact Frm.refl _ _, trivial⟩
    · obtain ⟨v0, h0, e0⟩ := ht.dep 21 34 (by kernel_rfl) rfl
      obtain rfl : .int .i64 (np : Int) = v0 := Eq.symm e0
      obtain ⟨v1, h1, e1⟩ := ht.dep 25 38 (by kernel_rfl) rfl
      obtain rfl : .int .i64 (2 * (ed : Int) + 1) = v1 := Eq.symm e1
      have hgt : ¬ (2 * (ed : Int) + 1 < (np : Int)) := by omega
      exact .inl ⟨_, _, by simp [execOp, go_sem, Act.eval, h0, h1, hgt]; first | rfl | exact ⟨rfl, rfl⟩, by exact rfl, by exact Frm.refl _ _, trivial⟩
  case htail =>
    intro a' w' Lq hde hsz hG hLq hJ hall hfree
    obtain ⟨u0, k0, e0⟩ := hall 0 _ 13 (by omega) rfl rfl
    obtain rfl : .pointer (some ⟨b, 0, none⟩) = u0 := Eq.symm e0
    obtain ⟨u1, k1, -⟩ := hall 1 _ 14 (by omega) rfl rfl
    obtain ⟨u2, k2, e2⟩ := hall 2 _ 15 (by omega) rfl rfl
    obtain rfl : .slice va cnt vc = u2 := Eq.symm e2
    obtain ⟨u3, k3, e3⟩ := hall 3 _ 16 (by omega) rfl rfl
    obtain rfl : .bool true = u3 := Eq.symm e3
    obtain ⟨u4, k4, e4⟩ := hall 4 _ 17 (by omega) rfl rfl
    obtain rfl : .bool false = u4 := Eq.symm e4
    obtain ⟨u5, k5, e5⟩ := hall 5 _ 18 (by omega) rfl rfl
    obtain rfl : .bool false = u5 := Eq.symm e5
    obtain ⟨u6, k6, e6⟩ := hall 6 _ 19 (by omega) rfl rfl
    obtain rfl : .pointer (some ⟨b, 0, none⟩) = u6 := Eq.symm e6
    obtain ⟨u7, k7, e7⟩ := hall 7 _ 20 (by omega) rfl rfl
    obtain rfl : .int .i64 (cnt : Int) = u7 := Eq.symm e7
    obtain ⟨u8, k8, e8⟩ := hall 8 _ 21 (by omega) rfl rfl
    obtain rfl : .slice va cnt vc = u8 := Eq.symm e8
    obtain ⟨u9, k9, e9⟩ := hall 9 _ 22 (by omega) rfl rfl
    obtain rfl : .int .i64 (cnt : Int) = u9 := Eq.symm e9
    obtain ⟨u10, k10, e10⟩ := hall 10 _ 23 (by omega) rfl rfl
    obtain rfl : .bool false = u10 := Eq.symm e10
    obtain ⟨u11, k11, e11⟩ := hall 11 _ 24 (by omega) rfl rfl
    obtain rfl : .bool false = u11 := Eq.symm e11
    obtain ⟨u12, k12, e12⟩ := hall 12 _ 25 (by omega) rfl rfl
    obtain rfl : .bool false = u12 := Eq.symm e12
    obtain ⟨u13, k13, e13⟩ := hall 13 _ 26 (by omega) rfl rfl
    obtain rfl : .pointer (some ⟨b, 0, none⟩) = u13 := Eq.symm e13
    obtain ⟨u14, k14, e14⟩ := hall 14 _ 27 (by omega) rfl rfl
    obtain rfl : .int .i64 ((TL : Int) + 1) = u14 := Eq.symm e14
    obtain ⟨u15, k15, e15⟩ := hall 15 _ 28 (by omega) rfl rfl
    obtain rfl : .slice va cnt vc = u15 := Eq.symm e15
    obtain ⟨u16, k16, e16⟩ := hall 16 _ 29 (by omega) rfl rfl
    obtain rfl : .int .i64 ((TL : Int) + 1) = u16 := Eq.symm e16
    obtain ⟨u17, k17, e17⟩ := hall 17 _ 30 (by omega) rfl rfl
    obtain rfl : .bool false = u17 := Eq.symm e17
    obtain ⟨u18, k18, e18⟩ := hall 18 _ 31 (by omega) rfl rfl
    obtain rfl : .bool false = u18 := Eq.symm e18
    obtain ⟨u19, k19, e19⟩ := hall 19 _ 32 (by omega) rfl rfl
    obtain rfl : .bool false = u19 := Eq.symm e19
    obtain ⟨u20, k20, e20⟩ := hall 20 _ 33 (by omega) rfl rfl
    obtain rfl : .pointer (some ⟨b, 0, none⟩) = u20 := Eq.symm e20
    obtain ⟨u21, k21, e21⟩ := hall 21 _ 34 (by omega) rfl rfl
    obtain rfl : .int .i64 (np : Int) = u21 := Eq.symm e21
    obtain ⟨u22, k22, e22⟩ := hall 22 _ 35 (by omega) rfl rfl
    obtain rfl : .pointer (some ⟨b, 0, none⟩) = u22 := Eq.symm e22
    obtain ⟨u23, k23, e23⟩ := hall 23 _ 36 (by omega) rfl rfl
    obtain rfl : .int .i64 (ed : Int) = u23 := Eq.symm e23
    obtain ⟨u24, k24, e24⟩ := hall 24 _ 37 (by omega) rfl rfl
    obtain rfl : .int .i64 (2 * (ed : Int)) = u24 := Eq.symm e24
    obtain ⟨u25, k25, e25⟩ := hall 25 _ 38 (by omega) rfl rfl
    obtain rfl : .int .i64 (2 * (ed : Int) + 1) = u25 := Eq.symm e25
    obtain ⟨u26, k26, e26⟩ := hall 26 _ 39 (by omega) rfl rfl
    obtain rfl : .bool false = u26 := Eq.symm e26
    obtain ⟨tm, df⟩ := a'
    simp only at hde hsz hfree k0 k1 k2 k3 k4 k5 k6 k7 k8 k9 k10 k11 k12 k13 k14 k15 k16 k17 k18 k19 k20 k21 k22 k23 k24 k25 k26
    have htm := tmps_of [(13, .pointer (some ⟨b, 0, none⟩)), (14, u1), (15, .slice va cnt vc), (16, .bool true), (17, .bool false), (18, .bool false), (19, .pointer (some ⟨b, 0, none⟩)), (20, .int .i64 (cnt : Int)), (21, .slice va cnt vc), (22, .int .i64 (cnt : Int)), (23, .bool false), (24, .bool false), (25, .bool false), (26, .pointer (some ⟨b, 0, none⟩)), (27, .int .i64 ((TL : Int) + 1)), (28, .slice va cnt vc), (29, .int .i64 ((TL : Int) + 1)), (30, .bool false), (31, .bool false), (32, .bool false), (33, .pointer (some ⟨b, 0, none⟩)), (34, .int .i64 (np : Int)), (35, .pointer (some ⟨b, 0, none⟩)), (36, .int .i64 (ed : Int)), (37, .int .i64 (2 * (ed : Int))), (38, .int .i64 (2 * (ed : Int) + 1)), (39, .bool false)] _ (hsz.trans (show 91 = _ from rfl)) (by
      intro q hq
      simp only [List.mem_cons, List.not_mem_nil, or_false] at hq
      rcases hq with rfl | rfl | rfl | rfl | rfl | rfl | rfl | rfl | rfl | rfl | rfl | rfl | rfl | rfl | rfl | rfl | rfl | rfl | rfl | rfl | rfl | rfl | rfl | rfl | rfl | rfl | rfl
      all_goals assumption) (fun d hd => hfree d (fun j q hj hq => (by
        rcases (by omega : j = 0 ∨ j = 1 ∨ j = 2 ∨ j = 3 ∨ j = 4 ∨ j = 5 ∨ j = 6 ∨ j = 7 ∨ j = 8 ∨ j = 9 ∨ j = 10 ∨ j = 11 ∨ j = 12 ∨ j = 13 ∨ j = 14 ∨ j = 15 ∨ j = 16 ∨ j = 17 ∨ j = 18 ∨ j = 19 ∨ j = 20 ∨ j = 21 ∨ j = 22 ∨ j = 23 ∨ j = 24 ∨ j = 25 ∨ j = 26) with rfl | rfl | rfl | rfl | rfl | rfl | rfl | rfl | rfl | rfl | rfl | rfl | rfl | rfl | rfl | rfl | rfl | rfl | rfl | rfl | rfl | rfl | rfl | rfl | rfl | rfl | rfl
        all_goals (obtain rfl := Option.some.inj hq; exact fun e => hd (by have e2 := Option.some.inj e; subst e2; simp)))))
    subst hde
    simp only [List.foldl_cons, List.foldl_nil, List.setIfInBounds_toArray, List.set_cons_succ, List.set_cons_zero] at htm
    subst htm
    clear hall hfree k0 k1 k2 k3 k4 k5 k6 k7 k8 k9 k10 k11 k12 k13 k14 k15 k16 k17 k18 k19 k20 k21 k22 k23 k24 k25 k26
    have hFW := hG.ofDrew
    have hall := HAL.out w' hFW
    have HFW := Lib.hid hFW
    have HALL := Lib.hid hall
    clear hG hJ hLq hall hFW
    gi_wp2_with fail
    refine ⟨trivial, (callsIn_wide.2 HALL.out).mono ?_⟩
    rintro e w2 ⟨Bs, Lk, rfl, hit, hf2, hLk⟩
    obtain ⟨W3, hW3⟩ : ∃ W3, W3 = w2.alloc (.cells #[.int .i64 0] 3) := ⟨_, rfl⟩
    have hF02 := HFW.out.trans hf2 (by simp)
    have hF23 : Frm [] w2 W3 := by rw [hW3]; exact (Frm.refl _ w2).alloc _
    have hF3 := hF02.trans hF23 (by simp)
    have hbi : W3.heap[w2.heap.size]? = some (.cells #[.int .i64 0] 3 (0, 0)) := by rw [hW3]; exact heap_alloc_at w2 _
    have hs3 : W3.heap.size = w2.heap.size + 1 := by rw [hW3]; simp
    have hbx3 := hF3.heap HBX.out (by simp)
    have hb03 := hF3.heap HB0.out (by simp)
    have hrd3 := HV.out.frm hF3
    have hit3 : IterOver Tryz.prog 81 #[.pointer (some ⟨Bs, 0, none⟩)] (elemsS C) (Keep Lk) W3 := fun l J Jx W hW => hit l J Jx W ((Ext.ofFrm hF23).trans (hW.mono hF23.size))
    have hsz02 := hF02.size
    have hsz0 := HS0.out
    have hszw : w.heap.size + 2 ≤ w2.heap.size := by omega
    have hszl : ∀ q ∈ Lk, q < W3.heap.size ∧ q ≠ w2.heap.size ∧ w.heap.size + 1 < q := fun q hq => by
      have := hLk q hq
      have h9 := HFW.out.size
      omega
    have hbuf3 := HBU.out.frm0 hF3
    have hm3 := HM.out.frm hF3
    have HIT := Lib.hid hit3
    have HW3 := Lib.hid hW3
    have HF3 := Lib.hid hF3
    have HBI := Lib.hid hbi
    have HS3 := Lib.hid hs3
    have HBX3 := Lib.hid hbx3
    have HB03 := Lib.hid hb03
    have HRD3 := Lib.hid hrd3
    have HLK := Lib.hid hszl
    have HBU3 := Lib.hid hbuf3
    clear hF02 hF23 hF3 hbi hs3 hbx3 hb03 hrd3 hit hit3 hf2 hLk hszl hbuf3 hm3 hsz0
    have hnil : ∀ W : World, (binOp .eql 66 (.func (.func 81) #[] #[.pointer (some ⟨Bs, 0, none⟩)]) .nilFunc).run Tryz.prog W = .ok (.bool false) W := fun _ => by kernel_rfl
    gi_wp2_with fail
    rw [← hW3]
    clear hW3
    refine wp_range (gf := 81) (lb := #[.pointer (some ⟨Bs, 0, none⟩)]) rfl (enters_of Tryz.func81 (by kernel_rfl) rfl) HIT.out Keep.trans (Keep.putObj (fun b hb => (HLK.out b hb).1)) ?hps
      (fun k X => X.heap[w.heap.size]? = some (.cells #[.slice va cnt vc] 22 (0, 0)) ∧ X.heap[w.heap.size + 1]? = some (.cells #[.bool false] 4 (0, 0)) ∧ X.heap[w2.heap.size]? = some (.cells #[.int .i64 k] 3 (0, 0)) ∧ Frm [] w X ∧ W3.heap.size ≤ X.heap.size)
      (fun _ _ _ => False) ?hI (fun _ _ _ _ h _ => h) ?h0 ?hround ?hdone ?hstop
    case hps =>
      intro z hz
      obtain ⟨k, hk⟩ := List.mem_iff_getElem?.1 hz
      obtain ⟨s, _, rfl⟩ := elemsS_inv hk
      rfl
    case hI =>
      rintro k X Y ⟨i1, i2, i3, i4, i5⟩ hE
      exact ⟨hE.cells i1, hE.cells i2, hE.cells i3, i4.ext hE (by have := HS3.out; omega), Nat.le_trans i5 hE.size⟩
    case h0 => exact ⟨HBX3.out, HB03.out, HBI.out, HF0.out.trans HF3.out (by simp), Nat.le_refl _⟩
    case hround =>
      rintro l k z X hl hz ⟨i1, i2, i3, i4, i5⟩ K' hK'
      obtain ⟨s, hs, rfl⟩ := elemsS_inv hz
      clear hz
      unfold strV
      gi_wp2_with fail
      refine hK' _ _ (KeepsFrom.refl _ _) (Keep.refl _ _) ?_
      intro w5 hE2 hs2
      have j1 := hE2.cells i1
      have j2 := hE2.cells i2
      have j3 := hE2.cells i3
      have j4 := i4.ext hE2 (by have := HS3.out; omega)
      have j5 := Nat.le_trans i5 hE2.size
      clear i1 i2 i3 i4 i5 hE2 hs2 hK'
      have hkl := (List.getElem?_eq_some_iff.1 hs).1
      rw [HCN.out] at hkl
      have hrd := HVW.out.frm j4
      rw [← HCN.out] at hrd
      obtain ⟨b1, o1, c1, e1, k1⟩ := hrd.at hs
      rw [HCN.out] at e1
      obtain ⟨rfl, -, rfl⟩ : va = some ⟨b1, o1, none⟩ ∧ True ∧ vc = c1 := by simpa using e1
      have c0 := cell_of_heap (i := 0) j1 rfl
      have c3 := cell_of_heap (i := 0) j3 rfl
      have z3 := frozen_of_heap 0 j3
      have HJ1 := Lib.hid j1
      have HJ2 := Lib.hid j2
      have HJ3 := Lib.hid j3
      have HJ4 := Lib.hid j4
      clear j1 j2 j3 j4 hrd e1 hs
      unfold strV at k1
      generalize (⟨s.toArray⟩ : ByteArray) = sb at *
      gi_wp2_with fail
      have hfs : Frm [w2.heap.size] w5 (w5.setCell ⟨w2.heap.size, 0, none⟩ (.int .i64 ((k : Int) + 1))) := (Frm.refl _ w5).setCell (.inl (by simp)) _
      have hd3 := heap_set_at (i := 0) (.int .i64 ((k : Int) + 1)) HJ3.out
      have h3 := HS3.out
      have hw := HFW.out.size
      refine ⟨KeepsFrom.frm hfs (fun q hq => .inl (by simp at hq; omega)), Keep.frm hfs (fun q hq => ⟨by have := HLK.out q hq; omega, fun hm => by have := HLK.out q hq; simp at hm; omega⟩), hfs.heap HJ1.out (by simp; omega), hfs.heap HJ2.out (by simp; omega), by simpa using hd3, HJ4.out.trans hfs (fun q hq => .inr (by simp at hq; omega)), Nat.le_trans j5 hfs.size⟩
    case hdone =>
      rintro D X hD ⟨i1, i2, i3, i4, i5⟩ hK
      rw [elemsS_length, HCN.out] at i3
      have hb1 := bLine_no (HBW.out.frm0 i4) (cnt : Int) (by rw [← HCC.out, HCN.out]; omega)
      have hb2 := bLine_no (HBW.out.frm0 i4) (-1) (by omega)
      have c0 := cell_of_heap (i := 0) i1 rfl
      have c3 := cell_of_heap (i := 0) i3 rfl
      have c2 := cell_of_heap (i := 0) i2 rfl
      have z2 := frozen_of_heap 0 i2
      have HB1 := Lib.hid hb1
      have HB2 := Lib.hid hb2
      have HI2 := Lib.hid i2
      have HI4 := Lib.hid i4
      have HK := Lib.hid hK
      have h3 := HS3.out
      have hw := HFW.out.size
      clear i1 i2 i3 i4 hK hb1 hb2
      gi_wp2_with fail
      refine ⟨trivial, (callsIn_wide.2 HB1.out).mono ?_⟩
      rintro e wq ⟨rfl, rfl⟩
      gi_wp2_with fail
      refine ⟨trivial, (callsIn_wide.2 HB2.out).mono ?_⟩
      rintro e wq ⟨rfl, rfl⟩
      gi_wp2_with fail
      have hfs : Frm [w.heap.size + 1] X (X.setCell ⟨w.heap.size + 1, 0, none⟩ (.bool true)) := (Frm.refl _ X).setCell (.inl (by simp)) _
      have h2 : (X.setCell ⟨w.heap.size + 1, 0, none⟩ (.bool true)).heap[w.heap.size + 1]? = some (.cells #[.bool true] 4 (0, 0)) := heap_set_at (w := X) (i := 0) (.bool true) HI2.out
      have hK2 := hfs.heap HK.out (by simp; omega)
      have h5 : ((X.setCell ⟨w.heap.size + 1, 0, none⟩ (.bool true)).putObj D (.deferred none)).cell? ⟨w.heap.size + 1, 0, none⟩ = some (.bool true) :=
        cell_of_heap (i := 0) ((World.putObj_heap_other (by omega)).trans h2) rfl
      refine ⟨by simp, .inl ⟨_, _, rfl, run_takeDeferred hK2, ?_⟩⟩
      exact ⟨.bool true, by simp [results, Tryz.results14, go_sem, h5], rfl, (HI4.out.trans hfs (fun q hq => .inr (by simp at hq; omega))).putObj (.inr (by omega)) _⟩
    case hstop =>
      rintro D q k W _ _ h _
      exact h.elim

end Go.Proofs.YtnajkjgjeiodmaaGreatDoor
