/-
  THE CHAPTER's EXAMPLE (foolscaplaw23.known): it holds. Conditions: the table of tens.
-/
import Derived.Test.YtaobohlcpgnebaaDoorPar
import Derived.Test.YtaobohlcpgnebaaDoorTx
import Derived.Test.YtaobohlcpgnebaaDoorDg
namespace Go.Proofs.YtaobohlcpgnebaaDoor
open Go.RowKit
open Go.Proofs (Tryd.prog)

theorem ReadEnd.yes {w : World} {s : ByteArray} {e : Ending} {w' : World} {l : List UInt8} (h : ReadEnd w s e w') (hr : readB s [] = some l) : (∃ v, e = .returned (.tuple #[v, .bool true]) ∧ w'.ownsRow w.heap.size 5 1 v l.length (l.map encB)) ∧ Frm [] w w' := by
  obtain ⟨v, ok, l2, rfl, h1, _, _, h2, h3⟩ := h
  rw [hr] at h1
  cases ok with
  | false => cases h1
  | true => cases h1; exact ⟨⟨v, rfl, h2⟩, h3⟩
theorem ReadEnd.no {w : World} {s : ByteArray} {e : Ending} {w' : World} (h : ReadEnd w s e w') (hr : readB s [] = none) : (∃ v, e = .returned (.tuple #[v, .bool false]) ∧ w'.ownsRow w.heap.size 5 1 v 0 []) ∧ Frm [] w w' := by
  obtain ⟨v, ok, l2, rfl, h1, h0, _, h2, h3⟩ := h
  rw [hr] at h1
  cases ok with
  | true => cases h1
  | false =>
    have := h0 rfl
    subst this
    exact ⟨⟨v, rfl, h2⟩, h3⟩
theorem read_a : readB ⟨#[97, 60, 69, 115, 99, 62, 60, 108, 116, 62]⟩ [] = some [97, 27, 60] := by decide +kernel
theorem read_nope : readB ⟨#[60, 110, 111, 112, 101, 62]⟩ [] = none := by decide +kernel
theorem rdB_one (w : World) (T : TypeId) (n : Nat) (hn : n < 256) (c : Nat) : RdB (w.alloc (.cells #[.int .u8 (n : Int)] T)) (.slice (some ⟨w.heap.size, 0, none⟩) 1 c) [UInt8.ofNat n] := by
  refine .inr ⟨_, _, rfl, fun j u hj => ?_⟩
  have e : (UInt8.ofNat n).toNat = n := by simp; omega
  match j, hj with
  | 0, hj =>
    simp [encB] at hj
    subst hj
    rw [addr_add]
    have := cell_of_heap (i := 0) (heap_alloc_at w (.cells #[.int .u8 (n : Int)] T)) rfl
    rw [this]
    simp
    omega

set_option maxRecDepth 100000 in
set_option maxHeartbeats 1600000 in
theorem known23 (w : World) (ht : Tens w) : Calls Tryd.prog 12 #[] w fun e w' => e = .returned (.bool true) ∧ Frm [] w w' := by
  have hp1 := fun W => keysParse ⟨#[97, 60, 69, 115, 99, 62, 60, 108, 116, 62]⟩ (by decide) W
  have hp2 := fun W => keysParse ⟨#[60, 110, 111, 112, 101, 62]⟩ (by decide) W
  have HT := Lib.hid ht
  clear ht
  go_enter Tryd.func12, Tryd.ntmps12
  go_wp2_with fail
  refine (hp1 w).mono ?_
  rintro e w1 h1
  obtain ⟨⟨v1, rfl, ho1⟩, hf1⟩ := h1.yes read_a
  have HO1 := Lib.hid ho1
  have HF1 := Lib.hid hf1
  clear hp1 h1 ho1 hf1
  go_wp2_with fail
  refine (hp2 w1).mono ?_
  rintro e w2 h2
  obtain ⟨⟨v2, rfl, _⟩, hf2⟩ := h2.no read_nope
  have HF2 := Lib.hid (HF1.out.trans hf2 (by simp))
  have HO2 := Lib.hid (ownsRow_frm HO1.out hf2 (by simp))
  clear hp2 h2 hf2
  go_wp2_with fail
  refine (keysText _ [UInt8.ofNat 27] _ (by decide) (rdB_one w2 5 27 (by omega) 1)).mono ?_
  rintro e w3 ⟨rfl, hf3⟩
  rw [show strOf (textL [UInt8.ofNat 27]) = .string ⟨#[60, 69, 115, 99, 62]⟩ from rfl]
  have hf3' := ((Frm.refl [] w2).alloc (.cells #[.int .u8 27] 5)).trans hf3 (by simp)
  have HF3 := Lib.hid (HF2.out.trans hf3' (by simp))
  have ho3 := ownsRow_frm HO2.out hf3' (by simp)
  have hcv := RdB.convert (Rd.ofOwn ho3)
  have hnm : ∀ w, Calls Tryd.prog 17 #[.int .u8 18] w fun e w' => e = .returned (.string ⟨#[60, 67, 45, 82, 62]⟩) ∧ Frm [] w w' := fun w => keysName 18 (by omega) w
  clear hf3 hf3' ho3
  go_wp2_with fail
  refine (hnm w3).mono ?_
  rintro e w4 ⟨rfl, hf4⟩
  have HF4 := Lib.hid (HF3.out.trans hf4 (by simp))
  have hdg := keysDigits 120 (by omega) (by omega) w4 (HT.out.frm HF4.out)
  clear hf4 hnm hcv
  go_wp2_with fail
  refine hdg.mono ?_
  rintro e w5 ⟨⟨v5, rfl, hr5⟩, hf5⟩
  have hcv5 := hr5.convert
  rw [show (Lib.decDigits (120 : Int).toNat) = [49, 50, 48] by decide +kernel] at hcv5
  have HF5 := Lib.hid (HF4.out.trans hf5 (by simp))
  clear hdg hr5 hf5
  go_wp2_with fail
  go_ret
  exact ⟨rfl, HF5.out⟩

end Go.Proofs.YtaobohlcpgnebaaDoor
