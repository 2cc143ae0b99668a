/-
  WALK: the law's known. Conditions: none.
-/
import Derived.Test.YtnajkjgjeiodmaaGreatDoorBw
import Derived.Test.YtnajkjgjeiodmaaGreatDoorBr
import Derived.Test.YtnajkjgjeiodmaaGreatDoorBg
namespace Go.Proofs.YtnajkjgjeiodmaaGreatDoor
open Go.RowKit
open Go.Proofs (Tryz.prog)

theorem Frm.new {w a b : World} {fp : List Nat} (h : Frm [] w a) (k : Frm fp a b) (hb : ∀ q ∈ fp, w.heap.size ≤ q) : Frm [] w b := h.trans k (fun q hq => .inr (hb q hq))
theorem rowOf (w : World) (L : List (List UInt8)) (cs : Array Value) (h : cs.toList = L.map strV) : RdL (w.alloc (.cells cs 9 (0, 0))) (.slice (some ⟨w.heap.size, 0, none⟩) L.length L.length) L := rdL_lit w _ L cs L.length h (Nat.le_refl _) (0, 0)

set_option maxRecDepth 100000 in
set_option maxHeartbeats 16000000 in
theorem bKnown (w : World) (hm : MaxLenIs w) :
    Calls Tryz.prog 8 #[] w fun e w' => e = .returned (.bool true) ∧ Frm [] w w' := by
  have hnew := bNew_some (w.alloc (.cells #[.string ⟨#[97]⟩, .string ⟨#[98]⟩] 9 (0, 0))) _ [[97], [98]] (rowOf w _ _ rfl) (by decide) (by decide) (by decide) (by decide)
  have HM := Lib.hid hm
  have HNEW := Lib.hid hnew
  clear hm hnew
  go_enter Tryz.func8, Tryz.ntmps8
  go_wp2_with fail
  refine HNEW.out.mono ?_
  rintro e w1 ⟨b, fp, np, rfl, hb1, hf1, hfp1⟩
  rw [show Lib.join [[97], [98]] [10] = [97, 10, 98] by decide] at hb1
  have hF1 : Frm [] w w1 := ((Frm.refl [] w).alloc _).trans hf1 (by simp)
  have hfw1 : ∀ q ∈ fp, w.heap.size ≤ q := fun q hq => by have := hfp1 q hq; simp at this; omega
  obtain ⟨A1, hA1⟩ : ∃ A1, A1 = w1.alloc (.cells #[.string ⟨#[120]⟩, .string ⟨#[121]⟩] 9 (0, 0)) := ⟨_, rfl⟩
  have hFA : Frm [] w1 A1 := by rw [hA1]; exact (Frm.refl [] w1).alloc _
  have hr1 := bReplace (hb1.frm0 hFA) (by decide) (HM.out.frm (hF1.trans hFA (by simp))) _ [[120], [121]] (by rw [hA1]; exact rowOf w1 _ _ rfl) 0 1 (by decide) (by decide) (by decide) (by decide)
  rw [show sizeL (some1 (repl (cutL [97, 10, 98]) 0 1 [[120], [121]])) = 6 by decide, show Lib.join (some1 (repl (cutL [97, 10, 98]) 0 1 [[120], [121]])) [10] = [120, 10, 121, 10, 98] by decide, show ((0 : Nat) : Int) = 0 from rfl, show ((1 : Nat) : Int) = 1 from rfl] at hr1
  have HR1 := Lib.hid hr1
  have HF1 := Lib.hid hF1
  have HFA := Lib.hid hFA
  have HFW1 := Lib.hid hfw1
  have HA1 := Lib.hid hA1
  clear hb1 hf1 hfp1 hF1 hfw1 hr1 hFA HNEW
  go_wp2_with fail
  rw [← hA1]
  clear hA1
  refine HR1.out.mono ?_
  rintro e w2 ⟨-, hok⟩
  obtain ⟨rfl, fp2, ed2, np2, hb2, hf2, hfp2⟩ := hok (by decide)
  have hF2 : Frm [] w w2 := Frm.new (HF1.out.trans HFA.out (by simp)) hf2 HFW1.out
  have hfw2 : ∀ q ∈ fp2, w.heap.size ≤ q := fun q hq => by
    rcases hfp2 q hq with h | h
    · exact HFW1.out q h
    · have := HF1.out.size
      have := HFA.out.size
      omega
  have hr2 := bReplace_place hb2 (.slice none 0 0) [] (rdL_nil _) 3 1 (.inr (.inr (.inr (.inl (by decide))))) (by decide)
  obtain ⟨A2, hA2⟩ : ∃ A2, A2 = w2.alloc (.cells #[.string ⟨#[97, 10, 98]⟩] 9 (0, 0)) := ⟨_, rfl⟩
  have hFA2 : Frm [] w2 A2 := by rw [hA2]; exact (Frm.refl [] w2).alloc _
  have hb3 := hb2.frm0 hFA2
  have hr3 := bReplace_place hb3 _ [[97, 10, 98]] (by rw [hA2]; exact rowOf w2 _ _ rfl) 0 0 (.inr (.inr (.inr (.inr (by decide))))) (by decide)
  have hl := bLine hb3 (by decide) 1 [121] (by decide)
  rw [show ((1 : Nat) : Int) = 1 from rfl] at hl
  have HR2 := Lib.hid hr2
  have HR3 := Lib.hid hr3
  have HL := Lib.hid hl
  have HB3 := Lib.hid hb3
  have HF3 := Lib.hid (hF2.trans hFA2 (by simp))
  clear hb2 hf2 hfp2 hF2 hfw2 hr2 hr3 hl hb3 hFA2 hok HR1
  go_wp2_with fail
  refine HR2.out.mono ?_
  rintro e wq ⟨rfl, hwq⟩
  obtain rfl := hwq.symm
  clear HR2 hwq
  go_wp2_with fail
  rw [← hA2]
  clear hA2
  refine HR3.out.mono ?_
  rintro e wq ⟨rfl, hwq⟩
  obtain rfl := hwq.symm
  clear HR3 hwq
  go_wp2_with fail
  refine HL.out.mono ?_
  rintro e w4 ⟨rfl, hf4⟩
  have hb4 := HB3.out.frm0 hf4
  have hF4 := HF3.out.trans hf4 (by simp)
  have hco := bCount hb4
  rw [show (((cutL [120, 10, 121, 10, 98]).length : Nat) : Int) = 3 by decide] at hco
  have hby := bBytes hb4
  rw [show (([120, 10, 121, 10, 98] : List UInt8).length : Int) + 1 = 6 by decide] at hby
  have hsp := tbSplit w4 [97, 10, 10, 98, 10] (HM.out.frm hF4) (by decide)
  rw [show splitT [97, 10, 10, 98, 10] = [[97], [], [98]] by decide] at hsp
  have HCO := Lib.hid hco
  have HBY := Lib.hid hby
  have HSP := Lib.hid hsp
  have HB4 := Lib.hid hb4
  have HF4 := Lib.hid hF4
  clear hf4 hb4 hF4 hco hby hsp HL
  unfold strV
  go_wp2_with fail
  refine HCO.out.mono ?_
  rintro e wq ⟨rfl, rfl⟩
  go_wp2_with fail
  refine HBY.out.mono ?_
  rintro e wq ⟨rfl, rfl⟩
  go_wp2_with fail
  refine HSP.out.mono ?_
  rintro e w5 ⟨u, rfl, hu, hf5, -⟩
  obtain ⟨A5, hA5⟩ : ∃ A5, A5 = w5.alloc (.cells #[.string ⟨#[97]⟩, .string ⟨#[]⟩, .string ⟨#[98]⟩] 9 (0, 0)) := ⟨_, rfl⟩
  have hFA5 : Frm [] w5 A5 := by rw [hA5]; exact (Frm.refl [] w5).alloc _
  have hst := hlpStrings A5 u _ [[97], [], [98]] (hu.frm hFA5) (by rw [hA5]; exact rowOf w5 _ _ rfl) (by decide)
  have HST := Lib.hid hst
  have HF5 := Lib.hid (hf5.trans hFA5 (by simp))
  obtain ⟨ua, uc, rfl⟩ := hu.form
  clear hu hf5 hFA5 hst
  go_wp2_with fail
  rw [← hA5]
  clear hA5
  refine HST.out.mono ?_
  rintro e w6 ⟨rfl, hf6⟩
  have hb6 := HB4.out.frm0 (HF5.out.trans hf6 (by simp))
  have hF6 := HF4.out.trans (HF5.out.trans hf6 (by simp)) (by simp)
  have hpi := bPieces hb6
  have hed := bEdits hb6
  obtain ⟨q1, q2, q3, q4⟩ := hb6.most
  have HPI := Lib.hid hpi
  have HED := Lib.hid hed
  have HF6 := Lib.hid hF6
  clear hf6 hb6 hpi hed hF6 q1 q3
  have hed2 : ed2 ≤ 100000 := by omega
  go_wp2_with fail
  refine HPI.out.mono ?_
  rintro e wq ⟨rfl, rfl⟩
  go_wp2_with fail
  refine HED.out.mono ?_
  rintro e wq ⟨rfl, rfl⟩
  go_wp2_with fail
  go_ret
  exact ⟨by (first | rfl | (simp; omega)), HF6.out⟩

end Go.Proofs.YtnajkjgjeiodmaaGreatDoor
