/-
  CONTRACT OF lineidx.New. Conditions: the text has fewer than 2^30 bytes.
-/
import Derived.Test.YtnajkjgjeiodmaaGreatDoorIdx5
namespace Go.Proofs.YtnajkjgjeiodmaaGreatDoor
open Go.RowKit
open Go.Proofs (Tryz.prog)

set_option maxRecDepth 100000 in
set_option maxHeartbeats 1000000 in
theorem idxNew (w : World) (s : ByteArray) (hs : s.size ≤ 1073741824) :
    Calls Tryz.prog 29 #[.string s] w fun e w' => ∃ x fp, e = .returned (.pointer (some ⟨x, 0, none⟩)) ∧ Idx w' x fp s.data.toList ∧ Frm [] w w' ∧ ∀ b ∈ fp, w.heap.size ≤ b := by
  have hnew := vecNewI (w.alloc (.cells #[.int .i64 0] 3)) ⟨w.heap.size, 0, none⟩ 1 1 [0] rfl (by
    have := cell_one_new w (.int .i64 0) 3
    exact this) (by omega)
  have HS := Lib.hid hs
  clear hs
  go_enter Tryz.func29, Tryz.ntmps29
  go_wp2_with fail
  refine hnew.mono ?_
  rintro e w1 ⟨p, fv, rfl, hv, hf, hb⟩
  have hfw : Frm [] w w1 := ((Frm.refl _ w).alloc _).trans hf (by simp)
  have hsz := hfw.size
  have hv2 := hv.frm ((Frm.refl [] w1).alloc (.cells #[.pointer (some ⟨p, 0, none⟩), .int .i64 0] 94)) (by simp)
  have hx2 := heap_alloc_at w1 (.cells #[.pointer (some ⟨p, 0, none⟩), .int .i64 0] 94)
  have hidx : Idx (w1.alloc (.cells #[.pointer (some ⟨p, 0, none⟩), .int .i64 0] 94)) w1.heap.size (w1.heap.size :: fv) [] := ⟨p, fv, hx2, hv2, rfl⟩
  have hins := idxInsert _ w1.heap.size _ [] 0 s hidx (Nat.zero_le _) (by simpa using HS.out)
  simp only [List.take_nil, List.drop_nil, List.nil_append, List.append_nil] at hins
  simp only [World.size_alloc] at hins hb
  have HINS := Lib.hid hins
  have HFW := Lib.hid hfw
  have HB := Lib.hid hb
  clear hnew hv hf hfw hv2 hx2 hidx hins hb
  go_wp2_with fail
  refine HINS.out.mono ?_
  rintro e w2 ⟨rfl, fp, hi2, hf2, hb2⟩
  have HI2 := Lib.hid hi2
  have HF2 := Lib.hid hf2
  have HB2 := Lib.hid hb2
  clear hi2 hf2 hb2
  go_wp2_with fail
  go_ret
  refine ⟨w1.heap.size, fp, by simp, HI2.out, (HFW.out.alloc _).trans HF2.out ?_, ?_⟩
  · intro b hb
    rcases List.mem_cons.1 hb with rfl | hb
    · right; exact hsz
    · right; have := HB.out b hb; omega
  · intro b hb
    rcases HB2.out b hb with h | h
    · rcases List.mem_cons.1 h with rfl | h
      · exact hsz
      · have := HB.out b h; omega
    · omega

end Go.Proofs.YtnajkjgjeiodmaaGreatDoor
