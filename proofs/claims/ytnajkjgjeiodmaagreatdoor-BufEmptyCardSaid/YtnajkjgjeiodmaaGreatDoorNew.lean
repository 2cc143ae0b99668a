/-
  CONTRACT OF piece.New. Conditions: a text of fewer than 2^30 bytes.
-/
import Derived.Test.YtnajkjgjeiodmaaGreatDoorCut
namespace Go.Proofs.YtnajkjgjeiodmaaGreatDoor.Pp
open Go.RowKit
open Go.Proofs (Tryz.prog)

set_option maxHeartbeats 400000 in
theorem tblNew_no (w : World) (f : ByteArray) (most : Int) (hf : f.size ≤ 1073741824) (hm : most < (f.size : Int)) :
    Calls Tryz.prog 28 #[.string f, .int .i64 most] w fun e w' => e = .returned (.tuple #[.pointer none, .int .i64 21]) ∧ w = w' := by
  go_enter Tryz.func28, Tryz.ntmps28
  go_wp2_with fail
  go_ret2
  exact ⟨rfl, rfl⟩

theorem Raw.made {w : World} {x p : Nat} {fv : List Nat} {f : ByteArray} {size most edits : Int} {ps : List Pc} (hx : w.heap[x]? = some (.cells #[.string f, .slice none 0 0, .pointer (some ⟨p, 0, none⟩), .int .i64 size, .int .i64 most, .int .i64 edits] 89 (0, 0)))
    (hv : VecP w p fv ps) : Raw w x (x :: fv) f [] ps size most edits := ⟨.slice none 0 0, p, fv, hx, World.ownsRow_nil _ _ _ _, hv, by simp [Value.ownBlock]⟩

set_option maxRecDepth 100000 in
set_option maxHeartbeats 1600000 in
theorem tblNew_empty (w : World) (f : ByteArray) (most : Int) (hf : f.size = 0) (hm : (f.size : Int) ≤ most) (hm2 : most ≤ 4611686018427387904) (cap : Nat) :
    Calls Tryz.prog 28 #[.string f, .int .i64 most] w fun e w' => ∃ x fp, e = .returned (.tuple #[.pointer (some ⟨x, 0, none⟩), .int .i64 0]) ∧ Tbl w' x fp f.data.toList most 0 0 cap ∧ Frm [] w w' ∧ ∀ b ∈ fp, w.heap.size ≤ b := by
  have hl : f.data.toList = [] := List.eq_nil_of_length_eq_zero (by simpa using hf)
  have hl2 : (!f.toList.isEmpty) = false := by rw [ByteArray.toList_eq, hl]; rfl
  have hnew := vecNewP_nil w
  have HL := Lib.hid hl
  have HS := Lib.hid hf
  have hs2 : f.size ≤ 100 := by omega
  clear hl hf
  go_enter Tryz.func28, Tryz.ntmps28
  go_wp2_with fail
  refine hnew.mono ?_
  rintro e w1 ⟨p, fv, rfl, hv, hf1, hb1⟩
  have HV := Lib.hid hv
  have HF := Lib.hid hf1
  have HB := Lib.hid hb1
  clear hv hf1 hb1 hnew
  go_wp2_with fail
  go_ret2
  have hlen : (f.data.toList.length : Int) = (f.size : Int) := by simp
  have hfr : Frm [] w1 (w1.alloc (.cells #[.string f, .slice none 0 0, .pointer (some ⟨p, 0, none⟩), .int .i64 f.size, .int .i64 most, .int .i64 0] 89)) := (Frm.refl _ w1).alloc _
  refine ⟨w1.heap.size, w1.heap.size :: fv, rfl, ⟨f, [], [], ?_, by simp, by rw [HL.out]; rfl, rfl, by omega, by rw [HS.out]; omega, by simp, by rw [HL.out]; simp, by omega, by rw [hlen]; exact hm, hm2⟩, HF.out.trans hfr (by simp), fun b hb => ?_⟩
  · rw [hlen]
    exact Raw.made (heap_alloc_at w1 _) (HV.out.frm hfr (by simp))
  · rcases List.mem_cons.1 hb with rfl | hb
    · exact HF.out.size
    · exact HB.out b hb

theorem ownsRow_lit0 (w : World) (c : Array Value) (e size n : Nat) (hs : c.size = n * size) (hn : n ≤ maxLen) : (w.alloc (.cells c e)).ownsRow 0 e size (.slice (some ⟨w.heap.size, 0, none⟩) n n) n c.toList :=
  ⟨by simpa using hs, .inr ⟨w.heap.size, n, c, rfl, Nat.zero_le _, heap_alloc_at w _, Nat.le_refl _, hn, hs, by rw [List.take_of_length_le]; simp [hs]⟩⟩

set_option maxRecDepth 100000 in
set_option maxHeartbeats 1600000 in
theorem tblNew_full (w : World) (f : ByteArray) (most : Int) (hf : f.size ≠ 0) (hm : (f.size : Int) ≤ most) (hm2 : most ≤ 4611686018427387904) (cap : Nat) (hc : f.size ≤ cap) (hc2 : cap ≤ 1073741824) :
    Calls Tryz.prog 28 #[.string f, .int .i64 most] w fun e w' => ∃ x fp, e = .returned (.tuple #[.pointer (some ⟨x, 0, none⟩), .int .i64 0]) ∧ Tbl w' x fp f.data.toList most 0 1 cap ∧ Frm [] w w' ∧ ∀ b ∈ fp, w.heap.size ≤ b := by
  have hl2 : (!f.toList.isEmpty) = true := by
    rw [ByteArray.toList_eq]
    cases h : f.data.toList with
    | nil => exact absurd (by have := congrArg List.length h; simpa using this) hf
    | cons _ _ => rfl
  have hnew := vecNewP_nil w
  have hs1 : 1 ≤ f.size := by omega
  clear hf
  go_enter Tryz.func28, Tryz.ntmps28
  go_wp2_with fail
  refine hnew.mono ?_
  rintro e w1 ⟨p, fv, rfl, hv, hf1, hb1⟩
  have hfr : Frm [] w1 (w1.alloc (.cells #[.string f, .slice none 0 0, .pointer (some ⟨p, 0, none⟩), .int .i64 f.size, .int .i64 most, .int .i64 0] 89)) := (Frm.refl _ w1).alloc _
  have hfr2 : Frm [] w1 ((w1.alloc (.cells #[.string f, .slice none 0 0, .pointer (some ⟨p, 0, none⟩), .int .i64 f.size, .int .i64 most, .int .i64 0] 89)).alloc (.cells #[.bool false, .int .i64 0, .int .i64 f.size] 87)) := ((Frm.refl _ w1).alloc _).alloc _
  have hpl := hv.lt
  have hins := vecInsertP ((w1.alloc (.cells #[.string f, .slice none 0 0, .pointer (some ⟨p, 0, none⟩), .int .i64 f.size, .int .i64 most, .int .i64 0] 89)).alloc (.cells #[.bool false, .int .i64 0, .int .i64 f.size] 87)) p fv [] [(false, 0, (f.size : Int))] 0 (.slice (some ⟨w1.heap.size + 1, 0, none⟩) 1 1)
    (hv.frm hfr2 (by simp)) (by
      have := ownsRow_lit0 (w1.alloc (.cells #[.string f, .slice none 0 0, .pointer (some ⟨p, 0, none⟩), .int .i64 f.size, .int .i64 most, .int .i64 0] 89)) #[.bool false, .int .i64 0, .int .i64 f.size] 87 3 1 rfl (by unfold maxLen; omega)
      rwa [World.size_alloc] at this) (fun q hq hm => by
      have := hpl q hm
      simp [Value.ownBlock] at hq
      omega) (by simp) (by simp)
  have hx : ((w1.alloc (.cells #[.string f, .slice none 0 0, .pointer (some ⟨p, 0, none⟩), .int .i64 f.size, .int .i64 most, .int .i64 0] 89)).alloc (.cells #[.bool false, .int .i64 0, .int .i64 f.size] 87)).heap[w1.heap.size]? = some (.cells #[.string f, .slice none 0 0, .pointer (some ⟨p, 0, none⟩), .int .i64 f.size, .int .i64 most, .int .i64 0] 89 (0, 0)) :=
    (heap_alloc_below _ (by simp)).trans (heap_alloc_at w1 _)
  have HX := Lib.hid hx
  have HV := Lib.hid hv
  have HF := Lib.hid (hf1.trans hfr2 (by simp))
  have HB := Lib.hid hb1
  have HPL := Lib.hid hpl
  have HI := Lib.hid hins
  have hsz := hf1.size
  clear hv hf1 hb1 hnew hfr hfr2 hins hx hpl
  go_wp2_with fail
  refine HI.out.mono ?_
  rintro e w2 ⟨rfl, fv2, hv2, hf2, hb2⟩
  have HV2 := Lib.hid hv2
  have HF2 := Lib.hid hf2
  have HB2 := Lib.hid hb2
  clear hv2 hf2 hb2
  go_wp2_with fail
  go_ret2
  have hlen : (f.data.toList.length : Int) = (f.size : Int) := by simp
  have hok : Okp f.data.toList [] (false, 0, (f.size : Int)) := ⟨by simp, by simp; omega, by simp⟩
  have hx2 := HF2.out.heap HX.out (fun hm => by have := HPL.out _ hm; omega)
  simp only [World.size_alloc] at HB2
  refine ⟨w1.heap.size, w1.heap.size :: fv2, rfl, ⟨f, [], [(false, 0, (f.size : Int))], ?_, ?_, ?_, rfl, by omega, hc, by simp, by simpa using hc, by omega, by rw [hlen]; exact hm, hm2⟩, (HF.out.trans HF2.out (fun b hb => .inr (HB.out b hb))), fun b hb => ?_⟩
  · rw [hlen]
    exact Raw.made hx2 (by simpa using HV2.out)
  · intro q hq
    obtain rfl := List.mem_singleton.1 hq
    exact hok
  · simp only [told, txt, List.flatMap_cons, List.flatMap_nil, List.append_nil]
    simp [List.take_of_length_le]
  · rcases List.mem_cons.1 hb with rfl | hb
    · omega
    · rcases HB2.out b hb with h | h
      · exact HB.out b h
      · omega

end Go.Proofs.YtnajkjgjeiodmaaGreatDoor.Pp
