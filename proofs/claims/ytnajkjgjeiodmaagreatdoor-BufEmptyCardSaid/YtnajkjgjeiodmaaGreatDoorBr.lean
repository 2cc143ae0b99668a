/-
  CONTRACT OF textbuf.Buf's Replace. Conditions: as it says.
-/
import Derived.Test.YtnajkjgjeiodmaaGreatDoorBn
import Derived.Test.YtnajkjgjeiodmaaGreatDoorBrl
import Derived.Deep.DeepCutAuto
namespace Go.Proofs.YtnajkjgjeiodmaaGreatDoor
open Go.RowKit
open Go.Proofs (Tryz.prog)

set_option maxRecDepth 100000 in
set_option maxHeartbeats 6400000 in
theorem bReplace_place {w : World} {b : Nat} {fp : List Nat} {T : List UInt8} {edits np cap : Nat} (h : Buf w b fp T edits np cap) (v : Value) (L : List (List UInt8)) (hv : RdL w v L)
    (a m : Int) (hbad : a < 0 ∨ m < 0 ∨ ((cutL T).length : Int) < a ∨ ((cutL T).length : Int) - a < m ∨ ¬ Clean L) (hL : L.length ≤ 1099511627776) :
    Calls Tryz.prog 13 #[.pointer (some ⟨b, 0, none⟩), .int .i64 a, .int .i64 m, v] w fun e w' => e = .returned (.int .i64 20) ∧ w' = w := by
  have hmo := h.most
  have hcnt := bCount h
  have hbr := tbBroken w v L hv (by omega)
  obtain ⟨va, vc, rfl⟩ := hv.form
  have hcn := nl_cutL T
  have hcle := nl_le T
  clear h hv
  obtain ⟨d, hd⟩ : ∃ d, d = decide (¬ Clean L) := ⟨_, rfl⟩
  rw [← hd] at hbr
  have HD := Lib.hid hd
  clear hd
  generalize L.length = ln at *
  generalize (cutL T).length = cnt at *
  have hcb : (cnt : Int) ≤ 4096 := by omega
  have HBAD := Lib.hid hbad
  clear hbad hcn hcle
  by_cases c1 : a < 0
  · go_enter Tryz.func13, Tryz.ntmps13
    go_wp2_with fail
    refine hcnt.mono ?_
    rintro e w' ⟨rfl, rfl⟩
    clear hcnt
    go_wp2_with fail
    go_ret
    exact ⟨rfl, rfl⟩
  by_cases c2 : m < 0
  · go_enter Tryz.func13, Tryz.ntmps13
    go_wp2_with fail
    refine hcnt.mono ?_
    rintro e w' ⟨rfl, rfl⟩
    clear hcnt
    go_wp2_with fail
    go_ret
    exact ⟨rfl, rfl⟩
  by_cases c3 : (cnt : Int) < a
  · go_enter Tryz.func13, Tryz.ntmps13
    go_wp2_with fail
    refine hcnt.mono ?_
    rintro e w' ⟨rfl, rfl⟩
    clear hcnt
    go_wp2_with fail
    go_ret
    exact ⟨rfl, rfl⟩
  by_cases c4 : (cnt : Int) - a < m
  · go_enter Tryz.func13, Tryz.ntmps13
    go_wp2_with fail
    refine hcnt.mono ?_
    rintro e w' ⟨rfl, rfl⟩
    clear hcnt
    go_wp2_with fail
    go_ret
    exact ⟨rfl, rfl⟩
  have hdt : d = true := by
    rw [HD.out]
    refine decide_eq_true ?_
    rcases HBAD.out with h | h | h | h | h
    · exact absurd h c1
    · exact absurd h c2
    · exact absurd h c3
    · exact absurd h c4
    · exact h
  rw [hdt] at hbr
  clear hdt HD
  go_enter Tryz.func13, Tryz.ntmps13
  go_wp2_with fail
  refine hcnt.mono ?_
  rintro e w' ⟨rfl, rfl⟩
  clear hcnt
  go_wp2_with fail
  refine hbr.mono ?_
  rintro e w' ⟨rfl, hww⟩
  obtain rfl := hww.symm
  clear hbr hww
  go_wp2_with fail
  go_ret
  exact ⟨rfl, rfl⟩

end Go.Proofs.YtnajkjgjeiodmaaGreatDoor

namespace Go.Proofs.YtnajkjgjeiodmaaGreatDoor
open Go.RowKit
open Go.Proofs (Tryz.prog)

def brR (b TL cnt a m z1 z2 ln2 : Nat) (ua : Option Addr) (uc : Nat) (sa : Option Addr) (sc : Nat) (P1 : List (List UInt8)) : Nat → Value → World → Prop := fun q u w => (([(fun u _ => u = .pointer (some ⟨b, 0, none⟩)),
    (fun u _ => u = .int .i64 ((TL : Int) + 1)),
    (fun u _ => u = .slice ua cnt uc),
    (fun u _ => u = .int .i64 (a : Int)),
    (fun u _ => u = .int .i64 (a : Int)),
    (fun u _ => u = .int .i64 (m : Int)),
    (fun u _ => u = .int .i64 ((a : Int) + (m : Int))),
    (fun u X => RdL X u P1),
    (fun u _ => u = .int .i64 (z1 : Int)),
    (fun u _ => u = .int .i64 ((TL : Int) + 1 - (z1 : Int))),
    (fun u _ => u = .slice sa ln2 sc),
    (fun u _ => u = .int .i64 (z2 : Int)),
    (fun u _ => u = .int .i64 ((TL : Int) + 1 - (z1 : Int) + (z2 : Int)))] : List (Value → World → Prop)).getD q fun _ _ => False) u w
theorem Buf.cap {w : World} {b : Nat} {fp : List Nat} {T : List UInt8} {edits np cap cap' : Nat} (h : Buf w b fp T edits np cap) (hc : cap ≤ cap') : Buf w b fp T edits np cap' := by
  obtain ⟨t, ft, x, fx, h1, h2, h3⟩ := h
  exact ⟨t, ft, x, fx, h1, h2.mono hc, h3⟩
theorem bPutZ {w : World} {b : Nat} {fp : List Nat} {T Z : List UInt8} {edits np cap : Nat} (h : Buf w b fp T edits np cap) (off n : Nat) (s : ByteArray) (hin : off + n ≤ T.length) (hz : T.take off ++ s.data.toList ++ T.drop (off + n) = Z) (hZ : Z.length ≤ 4095) (hc : cap + 8200 ≤ 268435456) :
    Calls Tryz.prog 33 #[.pointer (some ⟨b, 0, none⟩), .int .i64 off, .int .i64 n, .string s] w fun e w' => e = .returned (.int .i64 0) ∧
      ∃ fp' ed' np', Buf w' b fp' Z ed' np' (cap + 4100) ∧ Frm fp w w' ∧ ∀ q ∈ fp', q ∈ fp ∨ w.heap.size ≤ q := by
  have hl := congrArg List.length hz
  simp only [List.length_append, List.length_take, List.length_drop, Array.length_toList] at hl
  have hs : s.data.size = s.size := rfl
  refine (bPut h off n s hin (by omega) (by omega)).mono ?_
  rintro e w' ⟨rfl, fp', ed', np', k1, k2, k3⟩
  exact ⟨rfl, fp', ed', np', by rw [← hz]; exact k1.cap (by omega), k2, k3⟩

set_option maxRecDepth 100000 in
set_option maxHeartbeats 64000000 in
theorem bReplace {w : World} {b : Nat} {fp : List Nat} {T : List UInt8} {edits np cap : Nat} (h : Buf w b fp T edits np cap) (hcap : cap + 8200 ≤ 268435456) (hm : MaxLenIs w) (v : Value) (L : List (List UInt8)) (hv : RdL w v L)
    (a m : Nat) (hin : a + m ≤ (cutL T).length) (hcl : Clean L) (hL : L.length ≤ 1099511627776) (hs : sizeL L ≤ 1099511627776) :
    Calls Tryz.prog 13 #[.pointer (some ⟨b, 0, none⟩), .int .i64 a, .int .i64 m, v] w fun e w' =>
      (4096 < sizeL (some1 (repl (cutL T) a m L)) → e = .returned (.int .i64 21) ∧ Frm [] w w') ∧
      (sizeL (some1 (repl (cutL T) a m L)) ≤ 4096 → e = .returned (.int .i64 0) ∧ ∃ fp' ed' np', Buf w' b fp' (Lib.join (some1 (repl (cutL T) a m L)) [10]) ed' np' (cap + 4100) ∧ Frm fp w w' ∧ ∀ q ∈ fp', q ∈ fp ∨ w.heap.size ≤ q) := by
  obtain ⟨NS, hNS⟩ : ∃ NS, NS = sizeL (some1 (repl (cutL T) a m L)) := ⟨_, rfl⟩
  obtain ⟨Z, hZ⟩ : ∃ Z, Z = Lib.join (some1 (repl (cutL T) a m L)) [10] := ⟨_, rfl⟩
  rw [← hNS, ← hZ]
  have HNS := Lib.hid hNS
  have HZ := Lib.hid hZ
  clear hNS hZ
  have hmo := h.most
  have hcnt := bCount h
  have hbr := tbBroken w v L hv (by omega)
  rw [decide_eq_false (fun h => h hcl)] at hbr
  have hlines := bLines h (by omega) hm
  have hB := h
  obtain ⟨va, vc, rfl⟩ := hv.form
  have HB := Lib.hid hB
  have HV := Lib.hid hv
  have HCL := Lib.hid hcl
  have HM := Lib.hid hm
  have hTs := sizeL_cutL T
  have HTS := Lib.hid hTs
  have hcn := nl_cutL T
  clear hB h hv hcl hm hTs
  obtain ⟨cnt, hce⟩ : ∃ cnt, cnt = (cutL T).length := ⟨_, rfl⟩
  have hcpos : 0 < cnt := by omega
  have hcle : cnt ≤ T.length + 1 := by have := nl_le T; omega
  rw [← hce] at hcnt hin
  have HCE := Lib.hid hce
  clear hce hcn
  obtain ⟨TL, hTL⟩ : ∃ TL, TL = T.length := ⟨_, rfl⟩
  rw [← hTL] at hmo hcle
  have HTL := Lib.hid hTL
  clear hTL
  obtain ⟨ln, hln⟩ : ∃ ln, ln = L.length := ⟨_, rfl⟩
  rw [← hln] at hL hbr
  rw [← hln]
  have HLN := Lib.hid hln
  have HS := Lib.hid hs
  clear hln hs
  have hf1 : ¬ (cnt : Int) < (a : Int) := by omega
  have hf2 : ¬ (cnt : Int) - (a : Int) < (m : Int) := by omega
  have mixed : Tryz.prog.follows .mixedOrders = true := by kernel_rfl
  go_enter Tryz.func13, Tryz.ntmps13
  go_wp2_with fail
  refine hcnt.mono ?_
  rintro e w' ⟨rfl, rfl⟩
  clear hcnt
  go_wp2_with fail
  refine hbr.mono ?_
  rintro e w' ⟨rfl, hww⟩
  obtain rfl := hww.symm
  clear hbr hww
  go_wp2_with fail
  refine hlines.mono ?_
  rintro e w1 ⟨u, rfl, hu, hf1, -, hml⟩
  obtain ⟨ua, uc, rfl⟩ := hu.form
  have HU := Lib.hid hu
  have HF1 := Lib.hid hf1
  have HML := Lib.hid hml
  clear hlines hu hf1 hml
  rw [← HCE.out]
  obtain ⟨d5, h5⟩ : ∃ d5, d5 = decide (m = cnt ∧ ln = 0) := ⟨_, rfl⟩
  have H5 := Lib.hid h5
  clear h5
  go_upto_region 5 with fail
  go_cut [49] (fun s49 wx => s49 = .bool d5 ∧ w1 = wx)
  case first =>
    by_cases c1 : m = cnt
    · have e1 : ((m : Int) == (cnt : Int)) = true := by rw [c1]; simp
      by_cases c2 : ln = 0
      · have e2 : ((ln : Int) == 0) = true := by rw [c2]; rfl
        have C := Lib.hid (show m = cnt ∧ ln = 0 from ⟨c1, c2⟩)
        clear c1 c2
        go_wp2_with fail
        go_meet
        exact ⟨congrArg Value.bool (H5.out.trans (decide_eq_true C.out)).symm, rfl⟩
      · have e2 : ((ln : Int) == 0) = false := by rw [beq_eq_false_iff_ne]; omega
        have C := Lib.hid (show ¬ (m = cnt ∧ ln = 0) from fun h => c2 h.2)
        clear c1 c2
        go_wp2_with fail
        go_meet
        exact ⟨congrArg Value.bool (H5.out.trans (decide_eq_false C.out)).symm, rfl⟩
    · have e1 : ((m : Int) == (cnt : Int)) = false := by rw [beq_eq_false_iff_ne]; omega
      have C := Lib.hid (show ¬ (m = cnt ∧ ln = 0) from fun h => c1 h.1)
      clear c1
      go_wp2_with fail
      go_meet
      exact ⟨congrArg Value.bool (H5.out.trans (decide_eq_false C.out)).symm, rfl⟩
  case rest =>
  obtain ⟨rfl, rfl⟩ := hcut
  go_upto_if 49 with fail
  go_cut [3] (fun s3 wx => ∃ sa sc, s3 = .slice sa (putL cnt m L).length sc ∧ RdL wx s3 (putL cnt m L) ∧ Frm [] w1 wx)
  case first =>
    cases d5 with
    | true =>
      have c1 : m = cnt ∧ ln = 0 := of_decide_eq_true H5.out.symm
      have hp : putL cnt m L = [[]] := by rw [putL, if_pos (by rw [← HLN.out]; exact c1)]
      have HP := Lib.hid hp
      clear c1 hp
      go_wp2_with fail
      go_meet
      rw [HP.out]
      exact ⟨_, _, rfl, rdL_lit w1 _ [[]] _ 1 rfl (by decide) (0, 0), (Frm.refl [] w1).alloc _⟩
    | false =>
      have c1 : ¬ (m = cnt ∧ ln = 0) := of_decide_eq_false H5.out.symm
      have hp : putL cnt m L = L := by rw [putL, if_neg (by rw [← HLN.out]; exact c1)]
      have HP := Lib.hid hp
      clear c1 hp
      go_wp2_with fail
      go_meet
      rw [HP.out]
      exact ⟨_, _, by rw [← HLN.out], by rw [HLN.out]; exact HV.out.frm HF1.out, Frm.refl _ _⟩
  case rest =>
  obtain ⟨sa, sc, rfl, hr2, hf2⟩ := hcut
  have hFC := HF1.out.trans hf2 (by simp)
  have hsz := size_repl (T := T) (L := L) (a := a) (m := m) (by rw [← HCE.out]; exact hin)
  rw [← HCE.out, ← HTL.out] at hsz
  have hpl : sizeL (putL cnt m L) ≤ 1099511627777 := by
    have := HS.out
    unfold putL
    split
    · exact (by decide : sizeL [[]] ≤ 1099511627777)
    · omega
  have hpl2 : (putL cnt m L).length ≤ 1099511627777 := by
    unfold putL
    split
    · exact (by decide : ([[]] : List (List UInt8)).length ≤ 1099511627777)
    · rw [← HLN.out]; omega
  have hz1b : sizeL (((cutL T).take (a + m)).drop a) ≤ TL + 1 := by
    have := congrArg sizeL (cut_parts (cutL T) a m)
    rw [sizeL_append, sizeL_append, HTS.out, ← HTL.out] at this
    omega
  have hp1l : (((cutL T).take (a + m)).drop a).length ≤ cnt := by
    rw [List.length_drop, List.length_take, ← HCE.out]; omega
  have hby := fun X (hf : Frm [] wc X) => bBytes (HB.out.frm0 (hFC.trans hf (by simp)))
  rw [← HTL.out] at hby
  have hcut2 := fun X (hf : Frm [] wc X) => rdL_cut (HU.out.frm (hf2.trans hf (by simp))) (i := a) (j := a + m) (by omega) (by rw [← HCE.out]; exact hin)
  rw [← HCE.out] at hcut2
  obtain ⟨P1, hP1⟩ : ∃ P1, P1 = ((cutL T).take (a + m)).drop a := ⟨_, rfl⟩
  rw [← hP1] at hcut2 hsz hz1b hp1l
  have hcut3 : ∀ X, Frm [] wc X → ∃ u, (Instr.slice 22 (.slice ua cnt uc) (some (.int .i64 (a : Int))) (some (.int .i64 ((a : Int) + (m : Int)))) none).run Tryz.prog X = .ok u X ∧ RdL X u P1 := fun X hf => by
    obtain ⟨u, e1, e2, -⟩ := hcut2 X hf
    exact ⟨u, e1, e2⟩
  obtain ⟨L2, hL2⟩ : ∃ L2, L2 = putL cnt m L := ⟨_, rfl⟩
  rw [← hL2] at hr2 hsz hpl hpl2
  rw [← hL2]
  obtain ⟨ln2, hln2⟩ : ∃ ln2, L2.length = ln2 := ⟨_, rfl⟩
  rw [hln2] at hr2 hpl2
  rw [hln2]
  obtain ⟨z1, hz1⟩ : ∃ z1, sizeL P1 = z1 := ⟨_, rfl⟩
  obtain ⟨z2, hz2⟩ : ∃ z2, sizeL L2 = z2 := ⟨_, rfl⟩
  rw [hz1] at hsz hz1b
  rw [hz2] at hsz hpl
  rw [← HNS.out] at hsz
  have HP1 := Lib.hid hP1
  have HL2E := Lib.hid hL2
  have HL2 := Lib.hid hln2
  have HZ1 := Lib.hid hz1
  have HZ2 := Lib.hid hz2
  have HBY := Lib.hid hby
  have HCUT := Lib.hid hcut3
  have HR2 := Lib.hid hr2
  have HFC := Lib.hid hFC
  have HF2 := Lib.hid hf2
  have HSZ := Lib.hid hsz
  have hszl : NS ≤ TL + 1 + z2 := by omega
  clear hP1 hL2 hln2 hz1 hz2 hby hcut2 hcut3 hr2 hFC hf2
  go_upto_region 7 with fail
  refine (wpIn_wide (n := 3)).1 ?_
  refine wpIn_region_joint (size := 171) wide_wide 13 (brR b TL cnt a m z1 z2 ln2 ua uc sa sc P1) (Frm []) (fun _ => Frm []) (fun _ _ => True) mixed (by kernel_rfl) (by kernel_rfl) (by decide) (by kernel_rfl) (by kernel_rfl) (by kernel_rfl) (by kernel_rfl) rfl (fun h k => h.trans k (by simp)) (Frm.refl _ _) (fun _ _ _ _ h => h) ?hR trivial ?hgd ?hrun ?htail
  case hR =>
    intro qi qj qv A B hi hj hij h hf
    rcases (by omega : qi = 0 ∨ qi = 1 ∨ qi = 2 ∨ qi = 3 ∨ qi = 4 ∨ qi = 5 ∨ qi = 6 ∨ qi = 7 ∨ qi = 8 ∨ qi = 9 ∨ qi = 10 ∨ qi = 11 ∨ qi = 12) with rfl | rfl | rfl | rfl | rfl | rfl | rfl | rfl | rfl | rfl | rfl | rfl | rfl
    all_goals first
        | exact h
        | exact RdL.frm h hf
  case hgd =>
    intro qi qo qg qb hi ho hgo qv A hv
    rcases (by omega : qi = 0 ∨ qi = 1 ∨ qi = 2 ∨ qi = 3 ∨ qi = 4 ∨ qi = 5 ∨ qi = 6 ∨ qi = 7 ∨ qi = 8 ∨ qi = 9 ∨ qi = 10 ∨ qi = 11 ∨ qi = 12) with rfl | rfl | rfl | rfl | rfl | rfl | rfl | rfl | rfl | rfl | rfl | rfl | rfl
    all_goals obtain rfl := Option.some.inj ho
    all_goals first
      | (cases hgo; done)
      | (cases hgo; exact hv)
  case hrun =>
    intro qi hi qo ho qa w' L hG ht hLi hJ
    rcases (by omega : qi = 0 ∨ qi = 1 ∨ qi = 2 ∨ qi = 3 ∨ qi = 4 ∨ qi = 5 ∨ qi = 6 ∨ qi = 7 ∨ qi = 8 ∨ qi = 9 ∨ qi = 10 ∨ qi = 11 ∨ qi = 12) with rfl | rfl | rfl | rfl | rfl | rfl | rfl | rfl | rfl | rfl | rfl | rfl | rfl
    all_goals obtain rfl := Option.some.inj ho
    · have h0 := ht.free 0 (by kernel_rfl)
      exact .inl ⟨_, _, by simp [execOp, go_sem, Act.eval, h0]; first | rfl | exact ⟨rfl, rfl⟩, by exact rfl, by exact Frm.refl _ _, trivial⟩
    · obtain ⟨v0, h0, e0⟩ := ht.dep 0 51 (by kernel_rfl) rfl
      obtain rfl : .pointer (some ⟨b, 0, none⟩) = v0 := Eq.symm e0
      refine .inr ⟨20, #[.pointer (some ⟨b, 0, none⟩)], by simp [execOp, go_sem, Act.eval, h0], ?_⟩
      refine (HBY.out w' hG.ofDrew).mono ?_
      rintro e w2 ⟨rfl, rfl⟩
      exact ⟨_, rfl, by exact rfl, Frm.refl _ _, trivial⟩
    · have h0 := ht.free 10 (by kernel_rfl)
      exact .inl ⟨_, _, by simp [execOp, go_sem, Act.eval, h0]; first | rfl | exact ⟨rfl, rfl⟩, by exact rfl, by exact Frm.refl _ _, trivial⟩
    · have h0 := ht.free 1 (by kernel_rfl)
      exact .inl ⟨_, _, by simp [execOp, go_sem, Act.eval, h0]; first | rfl | exact ⟨rfl, rfl⟩, by exact rfl, by exact Frm.refl _ _, trivial⟩
    · have h0 := ht.free 1 (by kernel_rfl)
      exact .inl ⟨_, _, by simp [execOp, go_sem, Act.eval, h0]; first | rfl | exact ⟨rfl, rfl⟩, by exact rfl, by exact Frm.refl _ _, trivial⟩
    · have h0 := ht.free 2 (by kernel_rfl)
      exact .inl ⟨_, _, by simp [execOp, go_sem, Act.eval, h0]; first | rfl | exact ⟨rfl, rfl⟩, by exact rfl, by exact Frm.refl _ _, trivial⟩
    · obtain ⟨v0, h0, e0⟩ := ht.dep 4 55 (by kernel_rfl) rfl
      obtain rfl : .int .i64 (a : Int) = v0 := Eq.symm e0
      obtain ⟨v1, h1, e1⟩ := ht.dep 5 56 (by kernel_rfl) rfl
      obtain rfl : .int .i64 (m : Int) = v1 := Eq.symm e1
      have hwr : IntKind.i64.wrap ((a : Int) + (m : Int)) = (a : Int) + (m : Int) := by rw [IntKind.wrap_i64]; omega
      exact .inl ⟨_, _, by simp [execOp, go_sem, Act.eval, h0, h1, hwr]; first | rfl | exact ⟨rfl, rfl⟩, by exact rfl, by exact Frm.refl _ _, trivial⟩
    · obtain ⟨v0, h0, e0⟩ := ht.dep 2 53 (by kernel_rfl) rfl
      obtain rfl : .slice ua cnt uc = v0 := Eq.symm e0
      obtain ⟨v1, h1, e1⟩ := ht.dep 3 54 (by kernel_rfl) rfl
      obtain rfl : .int .i64 (a : Int) = v1 := Eq.symm e1
      obtain ⟨v2, h2, e2⟩ := ht.dep 6 57 (by kernel_rfl) rfl
      obtain rfl : .int .i64 ((a : Int) + (m : Int)) = v2 := Eq.symm e2
      obtain ⟨u1, hsl, hrd⟩ := HCUT.out w' hG.ofDrew
      exact .inl ⟨u1, w', by simp [execOp, go_sem, Act.eval, h0, h1, h2, hsl], hrd, Frm.refl _ _, trivial⟩
    · obtain ⟨v0, h0, e0⟩ := ht.dep 7 58 (by kernel_rfl) rfl
      replace e0 : (fun u X => RdL X u P1) v0 w' := e0
      refine .inr ⟨26, #[v0], by simp [execOp, go_sem, Act.eval, h0], ?_⟩
      have hc := tbSize w' v0 P1 e0 (by rw [HZ1.out]; omega) (by omega)
      rw [HZ1.out] at hc
      refine hc.mono ?_
      rintro e w2 ⟨rfl, rfl⟩
      exact ⟨_, rfl, by exact rfl, Frm.refl _ _, trivial⟩
    · obtain ⟨v0, h0, e0⟩ := ht.dep 1 52 (by kernel_rfl) rfl
      obtain rfl : .int .i64 ((TL : Int) + 1) = v0 := Eq.symm e0
      obtain ⟨v1, h1, e1⟩ := ht.dep 8 59 (by kernel_rfl) rfl
      obtain rfl : .int .i64 (z1 : Int) = v1 := Eq.symm e1
      have hwr : IntKind.i64.wrap ((TL : Int) + 1 - (z1 : Int)) = (TL : Int) + 1 - (z1 : Int) := by rw [IntKind.wrap_i64]; omega
      exact .inl ⟨_, _, by simp [execOp, go_sem, Act.eval, h0, h1, hwr]; first | rfl | exact ⟨rfl, rfl⟩, by exact rfl, by exact Frm.refl _ _, trivial⟩
    · have h0 := ht.free 3 (by kernel_rfl)
      exact .inl ⟨_, _, by simp [execOp, go_sem, Act.eval, h0]; first | rfl | exact ⟨rfl, rfl⟩, by exact rfl, by exact Frm.refl _ _, trivial⟩
    · obtain ⟨v0, h0, e0⟩ := ht.dep 10 61 (by kernel_rfl) rfl
      obtain rfl : .slice sa ln2 sc = v0 := Eq.symm e0
      refine .inr ⟨26, #[.slice sa ln2 sc], by simp [execOp, go_sem, Act.eval, h0], ?_⟩
      have hc := tbSize w' (.slice sa ln2 sc) L2 (HR2.out.frm hG.ofDrew) (by rw [HZ2.out]; omega) (by rw [HL2.out]; omega)
      rw [HZ2.out] at hc
      refine hc.mono ?_
      rintro e w2 ⟨rfl, rfl⟩
      exact ⟨_, rfl, by exact rfl, Frm.refl _ _, trivial⟩
    · obtain ⟨v0, h0, e0⟩ := ht.dep 9 60 (by kernel_rfl) rfl
      obtain rfl : .int .i64 ((TL : Int) + 1 - (z1 : Int)) = v0 := Eq.symm e0
      obtain ⟨v1, h1, e1⟩ := ht.dep 11 62 (by kernel_rfl) rfl
      obtain rfl : .int .i64 (z2 : Int) = v1 := Eq.symm e1
      have hwr : IntKind.i64.wrap ((TL : Int) + 1 - (z1 : Int) + (z2 : Int)) = (TL : Int) + 1 - (z1 : Int) + (z2 : Int) := by rw [IntKind.wrap_i64]; omega
      exact .inl ⟨_, _, by simp [execOp, go_sem, Act.eval, h0, h1, hwr]; first | rfl | exact ⟨rfl, rfl⟩, by exact rfl, by exact Frm.refl _ _, trivial⟩
  case htail =>
    intro a' w' Lq hde hsz hG hLq hJ hall hfree
    obtain ⟨u0, k0, e0⟩ := hall 0 _ 51 (by omega) rfl rfl
    obtain rfl : .pointer (some ⟨b, 0, none⟩) = u0 := Eq.symm e0
    obtain ⟨u1, k1, e1⟩ := hall 1 _ 52 (by omega) rfl rfl
    obtain rfl : .int .i64 ((TL : Int) + 1) = u1 := Eq.symm e1
    obtain ⟨u2, k2, e2⟩ := hall 2 _ 53 (by omega) rfl rfl
    obtain rfl : .slice ua cnt uc = u2 := Eq.symm e2
    obtain ⟨u3, k3, e3⟩ := hall 3 _ 54 (by omega) rfl rfl
    obtain rfl : .int .i64 (a : Int) = u3 := Eq.symm e3
    obtain ⟨u4, k4, e4⟩ := hall 4 _ 55 (by omega) rfl rfl
    obtain rfl : .int .i64 (a : Int) = u4 := Eq.symm e4
    obtain ⟨u5, k5, e5⟩ := hall 5 _ 56 (by omega) rfl rfl
    obtain rfl : .int .i64 (m : Int) = u5 := Eq.symm e5
    obtain ⟨u6, k6, e6⟩ := hall 6 _ 57 (by omega) rfl rfl
    obtain rfl : .int .i64 ((a : Int) + (m : Int)) = u6 := Eq.symm e6
    obtain ⟨u7, k7, -⟩ := hall 7 _ 58 (by omega) rfl rfl
    obtain ⟨u8, k8, e8⟩ := hall 8 _ 59 (by omega) rfl rfl
    obtain rfl : .int .i64 (z1 : Int) = u8 := Eq.symm e8
    obtain ⟨u9, k9, e9⟩ := hall 9 _ 60 (by omega) rfl rfl
    obtain rfl : .int .i64 ((TL : Int) + 1 - (z1 : Int)) = u9 := Eq.symm e9
    obtain ⟨u10, k10, e10⟩ := hall 10 _ 61 (by omega) rfl rfl
    obtain rfl : .slice sa ln2 sc = u10 := Eq.symm e10
    obtain ⟨u11, k11, e11⟩ := hall 11 _ 62 (by omega) rfl rfl
    obtain rfl : .int .i64 (z2 : Int) = u11 := Eq.symm e11
    obtain ⟨u12, k12, e12⟩ := hall 12 _ 63 (by omega) rfl rfl
    obtain rfl : .int .i64 ((TL : Int) + 1 - (z1 : Int) + (z2 : Int)) = u12 := Eq.symm e12
    obtain ⟨tm, df⟩ := a'
    simp only at hde hsz hfree k0 k1 k2 k3 k4 k5 k6 k7 k8 k9 k10 k11 k12
    have htm := tmps_of [(51, .pointer (some ⟨b, 0, none⟩)), (52, .int .i64 ((TL : Int) + 1)), (53, .slice ua cnt uc), (54, .int .i64 (a : Int)), (55, .int .i64 (a : Int)), (56, .int .i64 (m : Int)), (57, .int .i64 ((a : Int) + (m : Int))), (58, u7), (59, .int .i64 (z1 : Int)), (60, .int .i64 ((TL : Int) + 1 - (z1 : Int))), (61, .slice sa ln2 sc), (62, .int .i64 (z2 : Int)), (63, .int .i64 ((TL : Int) + 1 - (z1 : Int) + (z2 : Int)))] _ (hsz.trans (show 171 = _ from rfl)) (by
      intro q hq
      simp only [List.mem_cons, List.not_mem_nil, or_false] at hq
      rcases hq with rfl | rfl | rfl | rfl | rfl | rfl | rfl | rfl | rfl | rfl | rfl | rfl | rfl
      all_goals assumption) (fun d hd => hfree d (fun j q hj hq => (by
        rcases (by omega : j = 0 ∨ j = 1 ∨ j = 2 ∨ j = 3 ∨ j = 4 ∨ j = 5 ∨ j = 6 ∨ j = 7 ∨ j = 8 ∨ j = 9 ∨ j = 10 ∨ j = 11 ∨ j = 12) with rfl | rfl | rfl | rfl | rfl | rfl | rfl | rfl | rfl | rfl | rfl | rfl | rfl
        all_goals (obtain rfl := Option.some.inj hq; exact fun e => hd (by have e2 := Option.some.inj e; subst e2; simp)))))
    subst hde
    simp only [List.foldl_cons, List.foldl_nil, List.setIfInBounds_toArray, List.set_cons_succ, List.set_cons_zero] at htm
    subst htm
    clear hall hfree k0 k1 k2 k3 k4 k5 k6 k7 k8 k9 k10 k11 k12
    have HD := Lib.hid hG.ofDrew
    have HG := Lib.hid (HFC.out.trans hG.ofDrew (by simp))
    clear hG hJ hLq
    by_cases hfull : 4096 < NS
    · have hgt : (4096 : Int) < (TL : Int) + 1 - (z1 : Int) + (z2 : Int) := by omega
      have HFULL := Lib.hid hfull
      clear hfull
      gi_wp2_with fail
      go_wp2_with fail
      go_ret
      exact ⟨fun _ => ⟨rfl, HG.out⟩, fun hh => absurd HFULL.out (by omega)⟩
    · have hgt : ¬ (4096 : Int) < (TL : Int) + 1 - (z1 : Int) + (z2 : Int) := by omega
      have hj := strJoin w' (.slice sa ln2 sc) L2 (HR2.out.frm HD.out) (by rw [HL2.out]; omega) (by have := join_le L2; rw [HZ2.out] at this; omega)
      have hjl : (Lib.join L2 [10]).length ≤ z2 := by rw [← HZ2.out]; exact join_le L2
      obtain ⟨js, hjs⟩ : ∃ js : ByteArray, js = ⟨(Lib.join L2 [10]).toArray⟩ := ⟨_, rfl⟩
      rw [← hjs] at hj
      have HJD := Lib.hid (show js.data.toList = Lib.join L2 [10] by rw [hjs])
      have hjz : js.size ≤ z2 := by rw [hjs]; exact hjl
      have hZl : Z.length + 1 = NS := by rw [HZ.out, HNS.out, sizeL_join (some1_ne _)]
      clear hjs hjl
      have HNF := Lib.hid hfull
      gi_wp2_with fail
      go_wp2_with fail
      refine hj.mono ?_
      rintro e w3 ⟨rfl, hf3⟩
      have hF3 := HG.out.trans hf3 (by simp)
      have hB3 := HB.out.frm0 hF3
      have HF3 := Lib.hid hF3
      have HB3 := Lib.hid hB3
      obtain ⟨t, ft, x, fx, q1, q2, q3, -⟩ := hB3
      have hxc := cell_of_heap (i := 1) q1 rfl
      have hlen := idxLen w3 x fx T q3
      rw [← HTL.out] at hlen
      have HI := Lib.hid q3
      have hsz9 := HSZ.out
      clear hj hf3 hF3 q1 q2 q3
      by_cases hac : a < cnt
      · have hst := idxStart_yes w3 x fx T HI.out a _ (starts_pos (by rw [← HCE.out]; exact hac))
        have hsp1 : pos (cutL T) a ≤ TL := by rw [HTL.out]; exact pos_lt (by rw [← HCE.out]; exact hac)
        have hsp2 : 0 < a → 1 ≤ pos (cutL T) a := fun h => pos_one h (by rw [← HCE.out]; omega)
        obtain ⟨st, hst0⟩ : ∃ st, st = pos (cutL T) a := ⟨_, rfl⟩
        rw [← hst0] at hst hsp1 hsp2
        have HST := Lib.hid hst0
        clear hst0
        by_cases hm0 : m = 0
        · by_cases hl0 : ln2 = 0
          · have hL0 : L = [] := (by
              have := HL2E.out
              rw [putL_other (by omega)] at this
              rw [← this]
              exact List.eq_nil_of_length_eq_zero (HL2.out.trans hl0))
            have hZT : Z = T := by rw [HZ.out, hm0, hL0, txt_none]
            have HZT := Lib.hid hZT
            have e_m0 : ((m : Int) == 0) = true := (by rw [beq_iff_eq]; omega)
            have e_l0 : ((ln2 : Int) == 0) = true := (by rw [beq_iff_eq]; omega)
            clear hL0 hZT hm0 hl0
            go_wp2_with fail
            refine hst.mono ?_
            rintro e wq ⟨rfl, rfl⟩
            clear hst
            go_wp2_with fail
            go_ret
            exact ⟨fun hh => absurd hh HNF.out, fun _ => ⟨rfl, fp, edits, np, by rw [HZT.out]; exact HB3.out.cap (by omega), HF3.out.mono (by simp), fun q hq => .inl hq⟩⟩
          · have hlt : a + m < cnt := by omega
            have hen := idxStart_yes w3 x fx T HI.out (a + m) _ (starts_pos (by rw [← HCE.out]; exact hlt))
            have hen1 : pos (cutL T) (a + m) ≤ TL := by rw [HTL.out]; exact pos_lt (by rw [← HCE.out]; exact hlt)
            have hen2 : st ≤ pos (cutL T) (a + m) := by rw [HST.out]; exact pos_mono _ (by omega)
            have htx : T.take st ++ (js ++ (⟨#[10]⟩ : ByteArray) : ByteArray).data.toList ++ T.drop (st + (pos (cutL T) (a + m) - st)) = Z := (by
              have hL2L := HL2E.out
              rw [putL_other (by omega)] at hL2L
              rw [HZ.out, txt_in (by rw [← HCE.out]; exact hlt), ← HST.out, show st + (pos (cutL T) (a + m) - st) = pos (cutL T) (a + m) by omega]
              rw [ByteArray.data_append, Array.toList_append, HJD.out, hL2L, joinT_join (by rw [← hL2L]; intro e; have := HL2.out; rw [e] at this; simp at this; omega)]
              all_goals simp [List.append_assoc])
            obtain ⟨en, hen0⟩ : ∃ en, en = pos (cutL T) (a + m) := ⟨_, rfl⟩
            rw [← hen0] at hen hen1 hen2 htx
            rw [show ((a + m : Nat) : Int) = (a : Int) + (m : Int) by omega] at hen
            have hp := bPutZ HB3.out st (en - st) (js ++ (⟨#[10]⟩ : ByteArray)) (by rw [← HTL.out]; omega) htx (by omega) (by omega)
            rw [show ((en - st : Nat) : Int) = (en : Int) - (st : Int) by omega] at hp
            have hw4 : IntKind.i64.wrap ((en : Int) - (st : Int)) = (en : Int) - (st : Int) := by rw [IntKind.wrap_i64]; omega
            have e_m0 : ((m : Int) == 0) = true := (by rw [beq_iff_eq]; omega)
            have e_l0 : ((ln2 : Int) == 0) = false := (by rw [beq_eq_false_iff_ne]; omega)
            have e_mc : ((m : Int) == (cnt : Int)) = false := (by rw [beq_eq_false_iff_ne]; omega)
            have e_ac : ((a : Int) + (m : Int) == (cnt : Int)) = false := (by rw [beq_eq_false_iff_ne]; omega)
            have hw1 : IntKind.i64.wrap ((st : Int) - 1) = (st : Int) - 1 := by rw [IntKind.wrap_i64]; omega
            have hw2 : IntKind.i64.wrap ((TL : Int) - ((st : Int) - 1)) = (TL : Int) - ((st : Int) - 1) := by rw [IntKind.wrap_i64]; omega
            have hw3 : IntKind.i64.wrap ((a : Int) + (m : Int)) = (a : Int) + (m : Int) := by rw [IntKind.wrap_i64]; omega
            have e_lp : (0 : Int) < (ln2 : Int) := by omega
            have HTX := Lib.hid htx
            have HEN0 := Lib.hid hen0
            clear htx hen0 hm0 hl0
            go_wp2_with fail
            refine hst.mono ?_
            rintro e wq ⟨rfl, rfl⟩
            clear hst
            go_wp2_with fail
            refine hen.mono ?_
            rintro e wq ⟨rfl, rfl⟩
            clear hen
            go_wp2_with fail
            refine hp.mono ?_
            rintro e w4 ⟨rfl, fp2, ed2, np2, k1, k2, k3⟩
            have K1 := Lib.hid k1
            have K2 := Lib.hid k2
            have K3 := Lib.hid k3
            clear hp k1 k2 k3
            go_wp2_with fail
            go_ret
            exact ⟨fun hh => absurd hh HNF.out, fun _ => ⟨rfl, fp2, ed2, np2, K1.out, (HF3.out.mono (S' := fp) (by simp)).trans K2.out (fun q hq => .inl hq), fun q hq => (K3.out q hq).imp id (fun h => Nat.le_trans HF3.out.size h)⟩⟩
        · by_cases hmc : m = cnt
          · have htx : T.take 0 ++ js.data.toList ++ T.drop (0 + TL) = Z := (by
              rw [HZ.out, txt_all (hmc.trans HCE.out) (by rw [← HCE.out]; exact hin), ← HCE.out, ← HL2E.out, HJD.out, List.drop_of_length_le (by rw [← HTL.out]; omega)]
              simp)
            have hp := bPutZ HB3.out 0 TL js (by rw [← HTL.out]; omega) htx (by omega) (by omega)
            have e_m0 : ((m : Int) == 0) = false := (by rw [beq_eq_false_iff_ne]; omega)
            have e_mc : ((m : Int) == (cnt : Int)) = true := (by rw [beq_iff_eq]; omega)
            have hw1 : IntKind.i64.wrap ((st : Int) - 1) = (st : Int) - 1 := by rw [IntKind.wrap_i64]; omega
            have hw2 : IntKind.i64.wrap ((TL : Int) - ((st : Int) - 1)) = (TL : Int) - ((st : Int) - 1) := by rw [IntKind.wrap_i64]; omega
            have hw3 : IntKind.i64.wrap ((a : Int) + (m : Int)) = (a : Int) + (m : Int) := by rw [IntKind.wrap_i64]; omega
            have HTX := Lib.hid htx
            clear htx hm0 hmc
            go_wp2_with fail
            refine hst.mono ?_
            rintro e wq ⟨rfl, rfl⟩
            clear hst
            go_wp2_with fail
            refine hlen.mono ?_
            rintro e wq ⟨rfl, rfl⟩
            clear hlen
            go_wp2_with fail
            refine hp.mono ?_
            rintro e w4 ⟨rfl, fp2, ed2, np2, k1, k2, k3⟩
            have K1 := Lib.hid k1
            have K2 := Lib.hid k2
            have K3 := Lib.hid k3
            clear hp k1 k2 k3
            go_wp2_with fail
            go_ret
            exact ⟨fun hh => absurd hh HNF.out, fun _ => ⟨rfl, fp2, ed2, np2, K1.out, (HF3.out.mono (S' := fp) (by simp)).trans K2.out (fun q hq => .inl hq), fun q hq => (K3.out q hq).imp id (fun h => Nat.le_trans HF3.out.size h)⟩⟩
          · by_cases hamc : a + m = cnt
            · have hsp3 := hsp2 (by omega)
              by_cases hl0 : ln2 = 0
              · have htx : T.take (st - 1) ++ (⟨#[]⟩ : ByteArray).data.toList ++ T.drop (st - 1 + (TL - (st - 1))) = Z := (by
                  have hL2L := HL2E.out
                  rw [putL_other (by omega)] at hL2L
                  rw [HZ.out, txt_end (by rw [← HCE.out]; omega) (by rw [← HCE.out]; omega), ← HST.out, List.drop_of_length_le (by rw [← HTL.out]; omega), List.append_nil]
                  rw [if_pos (by rw [← hL2L]; exact List.eq_nil_of_length_eq_zero (HL2.out.trans hl0))]
                  all_goals rfl)
                have hp := bPutZ HB3.out (st - 1) (TL - (st - 1)) (⟨#[]⟩) (by rw [← HTL.out]; omega) htx (by omega) (by omega)
                rw [show ((st - 1 : Nat) : Int) = (st : Int) - 1 by omega, show ((TL - (st - 1) : Nat) : Int) = (TL : Int) - ((st : Int) - 1) by omega] at hp
                have e_m0 : ((m : Int) == 0) = false := (by rw [beq_eq_false_iff_ne]; omega)
                have e_l0 : ((ln2 : Int) == 0) = true := (by rw [beq_iff_eq]; omega)
                have e_mc : ((m : Int) == (cnt : Int)) = false := (by rw [beq_eq_false_iff_ne]; omega)
                have e_ac : ((a : Int) + (m : Int) == (cnt : Int)) = true := (by rw [beq_iff_eq]; omega)
                have hw1 : IntKind.i64.wrap ((st : Int) - 1) = (st : Int) - 1 := by rw [IntKind.wrap_i64]; omega
                have hw2 : IntKind.i64.wrap ((TL : Int) - ((st : Int) - 1)) = (TL : Int) - ((st : Int) - 1) := by rw [IntKind.wrap_i64]; omega
                have hw3 : IntKind.i64.wrap ((a : Int) + (m : Int)) = (a : Int) + (m : Int) := by rw [IntKind.wrap_i64]; omega
                have HTX := Lib.hid htx
                clear htx hm0 hl0
                go_wp2_with fail
                refine hst.mono ?_
                rintro e wq ⟨rfl, rfl⟩
                clear hst
                go_wp2_with fail
                refine hlen.mono ?_
                rintro e wq ⟨rfl, rfl⟩
                clear hlen
                go_wp2_with fail
                refine hp.mono ?_
                rintro e w4 ⟨rfl, fp2, ed2, np2, k1, k2, k3⟩
                have K1 := Lib.hid k1
                have K2 := Lib.hid k2
                have K3 := Lib.hid k3
                clear hp k1 k2 k3
                go_wp2_with fail
                go_ret
                exact ⟨fun hh => absurd hh HNF.out, fun _ => ⟨rfl, fp2, ed2, np2, K1.out, (HF3.out.mono (S' := fp) (by simp)).trans K2.out (fun q hq => .inl hq), fun q hq => (K3.out q hq).imp id (fun h => Nat.le_trans HF3.out.size h)⟩⟩
              · have htx : T.take (st - 1) ++ ((⟨#[10]⟩ : ByteArray) ++ js : ByteArray).data.toList ++ T.drop (st - 1 + (TL - (st - 1))) = Z := (by
                  have hL2L := HL2E.out
                  rw [putL_other (by omega)] at hL2L
                  rw [HZ.out, txt_end (by rw [← HCE.out]; omega) (by rw [← HCE.out]; omega), ← HST.out, List.drop_of_length_le (by rw [← HTL.out]; omega), List.append_nil]
                  rw [if_neg (by rw [← hL2L]; intro e; have := HL2.out; rw [e] at this; simp at this; omega), ByteArray.data_append, Array.toList_append, HJD.out, hL2L]
                  all_goals rfl)
                have hp := bPutZ HB3.out (st - 1) (TL - (st - 1)) ((⟨#[10]⟩ : ByteArray) ++ js) (by rw [← HTL.out]; omega) htx (by omega) (by omega)
                rw [show ((st - 1 : Nat) : Int) = (st : Int) - 1 by omega, show ((TL - (st - 1) : Nat) : Int) = (TL : Int) - ((st : Int) - 1) by omega] at hp
                have e_m0 : ((m : Int) == 0) = false := (by rw [beq_eq_false_iff_ne]; omega)
                have e_l0 : ((ln2 : Int) == 0) = false := (by rw [beq_eq_false_iff_ne]; omega)
                have e_mc : ((m : Int) == (cnt : Int)) = false := (by rw [beq_eq_false_iff_ne]; omega)
                have e_ac : ((a : Int) + (m : Int) == (cnt : Int)) = true := (by rw [beq_iff_eq]; omega)
                have hw1 : IntKind.i64.wrap ((st : Int) - 1) = (st : Int) - 1 := by rw [IntKind.wrap_i64]; omega
                have hw2 : IntKind.i64.wrap ((TL : Int) - ((st : Int) - 1)) = (TL : Int) - ((st : Int) - 1) := by rw [IntKind.wrap_i64]; omega
                have hw3 : IntKind.i64.wrap ((a : Int) + (m : Int)) = (a : Int) + (m : Int) := by rw [IntKind.wrap_i64]; omega
                have e_lp : (0 : Int) < (ln2 : Int) := by omega
                have HTX := Lib.hid htx
                clear htx hm0 hl0
                go_wp2_with fail
                refine hst.mono ?_
                rintro e wq ⟨rfl, rfl⟩
                clear hst
                go_wp2_with fail
                refine hlen.mono ?_
                rintro e wq ⟨rfl, rfl⟩
                clear hlen
                go_wp2_with fail
                refine hp.mono ?_
                rintro e w4 ⟨rfl, fp2, ed2, np2, k1, k2, k3⟩
                have K1 := Lib.hid k1
                have K2 := Lib.hid k2
                have K3 := Lib.hid k3
                clear hp k1 k2 k3
                go_wp2_with fail
                go_ret
                exact ⟨fun hh => absurd hh HNF.out, fun _ => ⟨rfl, fp2, ed2, np2, K1.out, (HF3.out.mono (S' := fp) (by simp)).trans K2.out (fun q hq => .inl hq), fun q hq => (K3.out q hq).imp id (fun h => Nat.le_trans HF3.out.size h)⟩⟩
            · have hlt : a + m < cnt := by omega
              by_cases hl0 : ln2 = 0
              · have hen := idxStart_yes w3 x fx T HI.out (a + m) _ (starts_pos (by rw [← HCE.out]; exact hlt))
                have hen1 : pos (cutL T) (a + m) ≤ TL := by rw [HTL.out]; exact pos_lt (by rw [← HCE.out]; exact hlt)
                have hen2 : st ≤ pos (cutL T) (a + m) := by rw [HST.out]; exact pos_mono _ (by omega)
                have htx : T.take st ++ (js : ByteArray).data.toList ++ T.drop (st + (pos (cutL T) (a + m) - st)) = Z := (by
                  have hL2L := HL2E.out
                  rw [putL_other (by omega)] at hL2L
                  rw [HZ.out, txt_in (by rw [← HCE.out]; exact hlt), ← HST.out, show st + (pos (cutL T) (a + m) - st) = pos (cutL T) (a + m) by omega]
                  rw [HJD.out, hL2L, show L = [] from (by rw [← hL2L]; exact List.eq_nil_of_length_eq_zero (HL2.out.trans hl0))]
                  all_goals rfl)
                obtain ⟨en, hen0⟩ : ∃ en, en = pos (cutL T) (a + m) := ⟨_, rfl⟩
                rw [← hen0] at hen hen1 hen2 htx
                rw [show ((a + m : Nat) : Int) = (a : Int) + (m : Int) by omega] at hen
                have hp := bPutZ HB3.out st (en - st) (js) (by rw [← HTL.out]; omega) htx (by omega) (by omega)
                rw [show ((en - st : Nat) : Int) = (en : Int) - (st : Int) by omega] at hp
                have hw4 : IntKind.i64.wrap ((en : Int) - (st : Int)) = (en : Int) - (st : Int) := by rw [IntKind.wrap_i64]; omega
                have e_m0 : ((m : Int) == 0) = false := (by rw [beq_eq_false_iff_ne]; omega)
                have e_l0 : ((ln2 : Int) == 0) = true := (by rw [beq_iff_eq]; omega)
                have e_mc : ((m : Int) == (cnt : Int)) = false := (by rw [beq_eq_false_iff_ne]; omega)
                have e_ac : ((a : Int) + (m : Int) == (cnt : Int)) = false := (by rw [beq_eq_false_iff_ne]; omega)
                have hw1 : IntKind.i64.wrap ((st : Int) - 1) = (st : Int) - 1 := by rw [IntKind.wrap_i64]; omega
                have hw2 : IntKind.i64.wrap ((TL : Int) - ((st : Int) - 1)) = (TL : Int) - ((st : Int) - 1) := by rw [IntKind.wrap_i64]; omega
                have hw3 : IntKind.i64.wrap ((a : Int) + (m : Int)) = (a : Int) + (m : Int) := by rw [IntKind.wrap_i64]; omega
                have e_lp : ¬ (0 : Int) < (ln2 : Int) := by omega
                have HTX := Lib.hid htx
                have HEN0 := Lib.hid hen0
                clear htx hen0 hm0 hl0
                go_wp2_with fail
                refine hst.mono ?_
                rintro e wq ⟨rfl, rfl⟩
                clear hst
                go_wp2_with fail
                refine hen.mono ?_
                rintro e wq ⟨rfl, rfl⟩
                clear hen
                go_wp2_with fail
                refine hp.mono ?_
                rintro e w4 ⟨rfl, fp2, ed2, np2, k1, k2, k3⟩
                have K1 := Lib.hid k1
                have K2 := Lib.hid k2
                have K3 := Lib.hid k3
                clear hp k1 k2 k3
                go_wp2_with fail
                go_ret
                exact ⟨fun hh => absurd hh HNF.out, fun _ => ⟨rfl, fp2, ed2, np2, K1.out, (HF3.out.mono (S' := fp) (by simp)).trans K2.out (fun q hq => .inl hq), fun q hq => (K3.out q hq).imp id (fun h => Nat.le_trans HF3.out.size h)⟩⟩
              · have hen := idxStart_yes w3 x fx T HI.out (a + m) _ (starts_pos (by rw [← HCE.out]; exact hlt))
                have hen1 : pos (cutL T) (a + m) ≤ TL := by rw [HTL.out]; exact pos_lt (by rw [← HCE.out]; exact hlt)
                have hen2 : st ≤ pos (cutL T) (a + m) := by rw [HST.out]; exact pos_mono _ (by omega)
                have htx : T.take st ++ (js ++ (⟨#[10]⟩ : ByteArray) : ByteArray).data.toList ++ T.drop (st + (pos (cutL T) (a + m) - st)) = Z := (by
                  have hL2L := HL2E.out
                  rw [putL_other (by omega)] at hL2L
                  rw [HZ.out, txt_in (by rw [← HCE.out]; exact hlt), ← HST.out, show st + (pos (cutL T) (a + m) - st) = pos (cutL T) (a + m) by omega]
                  rw [ByteArray.data_append, Array.toList_append, HJD.out, hL2L, joinT_join (by rw [← hL2L]; intro e; have := HL2.out; rw [e] at this; simp at this; omega)]
                  all_goals simp [List.append_assoc])
                obtain ⟨en, hen0⟩ : ∃ en, en = pos (cutL T) (a + m) := ⟨_, rfl⟩
                rw [← hen0] at hen hen1 hen2 htx
                rw [show ((a + m : Nat) : Int) = (a : Int) + (m : Int) by omega] at hen
                have hp := bPutZ HB3.out st (en - st) (js ++ (⟨#[10]⟩ : ByteArray)) (by rw [← HTL.out]; omega) htx (by omega) (by omega)
                rw [show ((en - st : Nat) : Int) = (en : Int) - (st : Int) by omega] at hp
                have hw4 : IntKind.i64.wrap ((en : Int) - (st : Int)) = (en : Int) - (st : Int) := by rw [IntKind.wrap_i64]; omega
                have e_m0 : ((m : Int) == 0) = false := (by rw [beq_eq_false_iff_ne]; omega)
                have e_l0 : ((ln2 : Int) == 0) = false := (by rw [beq_eq_false_iff_ne]; omega)
                have e_mc : ((m : Int) == (cnt : Int)) = false := (by rw [beq_eq_false_iff_ne]; omega)
                have e_ac : ((a : Int) + (m : Int) == (cnt : Int)) = false := (by rw [beq_eq_false_iff_ne]; omega)
                have hw1 : IntKind.i64.wrap ((st : Int) - 1) = (st : Int) - 1 := by rw [IntKind.wrap_i64]; omega
                have hw2 : IntKind.i64.wrap ((TL : Int) - ((st : Int) - 1)) = (TL : Int) - ((st : Int) - 1) := by rw [IntKind.wrap_i64]; omega
                have hw3 : IntKind.i64.wrap ((a : Int) + (m : Int)) = (a : Int) + (m : Int) := by rw [IntKind.wrap_i64]; omega
                have e_lp : (0 : Int) < (ln2 : Int) := by omega
                have HTX := Lib.hid htx
                have HEN0 := Lib.hid hen0
                clear htx hen0 hm0 hl0
                go_wp2_with fail
                refine hst.mono ?_
                rintro e wq ⟨rfl, rfl⟩
                clear hst
                go_wp2_with fail
                refine hen.mono ?_
                rintro e wq ⟨rfl, rfl⟩
                clear hen
                go_wp2_with fail
                refine hp.mono ?_
                rintro e w4 ⟨rfl, fp2, ed2, np2, k1, k2, k3⟩
                have K1 := Lib.hid k1
                have K2 := Lib.hid k2
                have K3 := Lib.hid k3
                clear hp k1 k2 k3
                go_wp2_with fail
                go_ret
                exact ⟨fun hh => absurd hh HNF.out, fun _ => ⟨rfl, fp2, ed2, np2, K1.out, (HF3.out.mono (S' := fp) (by simp)).trans K2.out (fun q hq => .inl hq), fun q hq => (K3.out q hq).imp id (fun h => Nat.le_trans HF3.out.size h)⟩⟩
      · have hst := idxStart_no w3 x fx T HI.out a (by have := nl_cutL T; have := HCE.out; omega)
        have hace : a = cnt := by omega
        have hm0 : m = 0 := by omega
        obtain ⟨st, hst0⟩ : ∃ st, st = pos (cutL T) a := ⟨_, rfl⟩
        have hst9 : st = TL + 1 := by rw [hst0, hace, HCE.out, pos_end, HTL.out]
        have HST := Lib.hid hst0
        clear hst0
        have hw0 : IntKind.i64.wrap ((TL : Int) + 1) = (st : Int) := by rw [IntKind.wrap_i64]; omega
        by_cases hl0 : ln2 = 0
        · have hL0 : L = [] := (by
            have := HL2E.out
            rw [putL_other (by omega)] at this
            rw [← this]
            exact List.eq_nil_of_length_eq_zero (HL2.out.trans hl0))
          have hZT : Z = T := by rw [HZ.out, hm0, hL0, txt_none]
          have HZT := Lib.hid hZT
          have e_m0 : ((m : Int) == 0) = true := (by rw [beq_iff_eq]; omega)
          have e_l0 : ((ln2 : Int) == 0) = true := (by rw [beq_iff_eq]; omega)
          clear hL0 hZT hm0 hl0
          have HSTE := Lib.hid hst9
          clear hst9 hace
          go_wp2_with fail
          refine hst.mono ?_
          rintro e wq ⟨rfl, rfl⟩
          clear hst
          go_wp2_with fail
          refine hlen.mono ?_
          rintro e wq ⟨rfl, rfl⟩
          clear hlen
          go_wp2_with fail
          go_ret
          exact ⟨fun hh => absurd hh HNF.out, fun _ => ⟨rfl, fp, edits, np, by rw [HZT.out]; exact HB3.out.cap (by omega), HF3.out.mono (by simp), fun q hq => .inl hq⟩⟩
        · have hlen2 := hlen
          have htx : T.take (st - 1) ++ ((⟨#[10]⟩ : ByteArray) ++ js : ByteArray).data.toList ++ T.drop (st - 1 + (TL - (st - 1))) = Z := (by
            have hL2L := HL2E.out
            rw [putL_other (by omega)] at hL2L
            rw [HZ.out, txt_end (by rw [← HCE.out]; omega) (by rw [← HCE.out]; omega), ← HST.out, List.drop_of_length_le (by rw [← HTL.out]; omega), List.append_nil]
            rw [if_neg (by rw [← hL2L]; intro e; have := HL2.out; rw [e] at this; simp at this; omega), ByteArray.data_append, Array.toList_append, HJD.out, hL2L]
            all_goals rfl)
          have hp := bPutZ HB3.out (st - 1) (TL - (st - 1)) ((⟨#[10]⟩ : ByteArray) ++ js) (by rw [← HTL.out]; omega) htx (by omega) (by omega)
          rw [show ((st - 1 : Nat) : Int) = (st : Int) - 1 by omega, show ((TL - (st - 1) : Nat) : Int) = (TL : Int) - ((st : Int) - 1) by omega] at hp
          have e_m0 : ((m : Int) == 0) = true := (by rw [beq_iff_eq]; omega)
          have e_l0 : ((ln2 : Int) == 0) = false := (by rw [beq_eq_false_iff_ne]; omega)
          have e_mc : ((m : Int) == (cnt : Int)) = false := (by rw [beq_eq_false_iff_ne]; omega)
          have e_ac : ((a : Int) + (m : Int) == (cnt : Int)) = true := (by rw [beq_iff_eq]; omega)
          have hw1 : IntKind.i64.wrap ((st : Int) - 1) = (st : Int) - 1 := by rw [IntKind.wrap_i64]; omega
          have hw2 : IntKind.i64.wrap ((TL : Int) - ((st : Int) - 1)) = (TL : Int) - ((st : Int) - 1) := by rw [IntKind.wrap_i64]; omega
          have hw3 : IntKind.i64.wrap ((a : Int) + (m : Int)) = (a : Int) + (m : Int) := by rw [IntKind.wrap_i64]; omega
          have e_lp : (0 : Int) < (ln2 : Int) := by omega
          have HTX := Lib.hid htx
          clear htx hm0 hl0
          have HSTE := Lib.hid hst9
          clear hst9 hace
          go_wp2_with fail
          refine hst.mono ?_
          rintro e wq ⟨rfl, rfl⟩
          clear hst
          go_wp2_with fail
          refine hlen.mono ?_
          rintro e wq ⟨rfl, rfl⟩
          clear hlen
          go_wp2_with fail
          refine hlen2.mono ?_
          rintro e wq ⟨rfl, rfl⟩
          clear hlen2
          go_wp2_with fail
          refine hp.mono ?_
          rintro e w4 ⟨rfl, fp2, ed2, np2, k1, k2, k3⟩
          have K1 := Lib.hid k1
          have K2 := Lib.hid k2
          have K3 := Lib.hid k3
          clear hp k1 k2 k3
          go_wp2_with fail
          go_ret
          exact ⟨fun hh => absurd hh HNF.out, fun _ => ⟨rfl, fp2, ed2, np2, K1.out, (HF3.out.mono (S' := fp) (by simp)).trans K2.out (fun q hq => .inl hq), fun q hq => (K3.out q hq).imp id (fun h => Nat.le_trans HF3.out.size h)⟩⟩

end Go.Proofs.YtnajkjgjeiodmaaGreatDoor
