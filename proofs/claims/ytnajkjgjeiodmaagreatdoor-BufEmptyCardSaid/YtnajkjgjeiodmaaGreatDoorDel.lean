/-
  CONTRACT OF piece.Table.Delete. Conditions: texts of fewer than 2^30 bytes.
-/
import Derived.Test.YtnajkjgjeiodmaaGreatDoorIns
namespace Go.Proofs.YtnajkjgjeiodmaaGreatDoor.Pp
open Go.RowKit
open Go.Proofs (Tryz.prog)

/-! ### Plain -/
def DelAt (f a : List UInt8) (ps ps' : List Pc) (off n : Nat) : Prop :=
  told f a ps' = (told f a ps).take off ++ (told f a ps).drop (off + n) ∧ (∀ p ∈ ps', Okp f a p) ∧ ps'.length ≤ ps.length + 1
theorem CutAt.told {f a : List UInt8} {ps ps' : List Pc} {off i : Nat} (h : CutAt f a ps ps' off i) : told f a ps' = told f a ps := by
  rw [told_split f a ps' i, h.2.1, h.2.2.1, List.take_append_drop]
theorem del_at {f a : List UInt8} {ps ps1 ps2 : List Pc} {off n i j : Nat} (h : CutAt f a ps ps1 off i) (k : CutAt f a ps1 ps2 (off + n) j) (hn : 0 < n) (ho : off + n ≤ (told f a ps).length) :
    i < j ∧ j ≤ ps2.length ∧ DelAt f a ps (ps2.take i ++ ps2.drop j) off n := by
  have hl : (Go.Proofs.YtnajkjgjeiodmaaGreatDoor.Pp.told f a (ps1.take i)).length = off := by rw [h.2.1, List.length_take]; omega
  obtain ⟨k1, k2⟩ := k.2.2.2.2.2 i (by omega)
  refine ⟨k1, k.1, ?_, fun p hp => ?_, ?_⟩
  · rw [told_append, k2, h.2.1, k.2.2.1, h.told]
  · rcases List.mem_append.1 hp with hp | hp
    · exact k.2.2.2.1 p (List.mem_of_mem_take hp)
    · exact k.2.2.2.1 p (List.mem_of_mem_drop hp)
  · have h5 := h.2.2.2.2.1
    have k5 := k.2.2.2.2.1
    have k0 := k.1
    simp
    omega

theorem Raw.put {w : World} {x : Nat} {fp : List Nat} {f : ByteArray} {a : List UInt8} {ps : List Pc} {size most edits : Int} (h : Raw w x fp f a ps size most edits) (size' edits' : Int) :
    Raw ((w.setCell ⟨x, 3, none⟩ (.int .i64 size')).setCell ⟨x, 5, none⟩ (.int .i64 edits')) x fp f a ps size' most edits' := by
  obtain ⟨av, p, fv, hx, hr, hv, rfl⟩ := h
  have hf : Frm [x] w ((w.setCell ⟨x, 3, none⟩ (.int .i64 size')).setCell ⟨x, 5, none⟩ (.int .i64 edits')) := ((Frm.refl [x] w).setCell (.inl (by simp)) _).setCell (.inl (by simp)) _
  have hn : av.ownBlock ≠ some x := ownsRow_type hr hx (by decide)
  refine ⟨av, p, fv, heap_set_at (i := 5) _ (heap_set_at (i := 3) _ hx), ownsRow_heap hr (fun b o hb hb2 => hf.heap hb2 (fun hm => ?_)), hv.frm hf (fun q hq hm => ?_), rfl⟩
  · obtain rfl : b = x := by simpa using hm
    exact hn hb
  · obtain rfl : q = x := by simpa using hm
    exact hv.not_mem hx (by decide) (by decide) hq

set_option maxHeartbeats 800000 in
theorem tblDelete_place (w : World) (x : Nat) (fp : List Nat) (f : ByteArray) (a : List UInt8) (ps : List Pc) (size : Nat) (most edits : Int) (h : Raw w x fp f a ps size most edits) (off n : Int) (hno : ¬ (0 ≤ off ∧ 0 ≤ n ∧ off ≤ size ∧ n ≤ size - off)) (hs : size ≤ 1073741824) :
    Calls Tryz.prog 54 #[.pointer (some ⟨x, 0, none⟩), .int .i64 off, .int .i64 n] w fun e w' => e = .returned (.int .i64 20) ∧ w = w' := by
  have hr := tblReaches_no w x fp f a ps size most edits h off n hno (by omega) (by omega)
  clear h hno
  go_enter Tryz.func54, Tryz.ntmps54
  go_wp2_with fail
  refine hr.mono ?_
  rintro e w' ⟨rfl, rfl⟩
  go_wp2_with fail
  go_ret
  exact ⟨rfl, rfl⟩

set_option maxHeartbeats 800000 in
theorem tblDelete_none (w : World) (x : Nat) (fp : List Nat) (f : ByteArray) (a : List UInt8) (ps : List Pc) (size : Nat) (most edits : Int) (h : Raw w x fp f a ps size most edits) (off : Nat) (hin : off ≤ size) (hs : size ≤ 1073741824) :
    Calls Tryz.prog 54 #[.pointer (some ⟨x, 0, none⟩), .int .i64 off, .int .i64 0] w fun e w' => e = .returned (.int .i64 0) ∧ w = w' := by
  have hr := tblReaches_yes w x fp f a ps size most edits h off 0 (by omega) (by omega) (by omega) (by omega) (by omega)
  clear h
  go_enter Tryz.func54, Tryz.ntmps54
  go_wp2_with fail
  refine hr.mono ?_
  rintro e w' ⟨rfl, rfl⟩
  go_wp2_with fail
  go_ret
  exact ⟨rfl, rfl⟩

set_option maxRecDepth 100000 in
set_option maxHeartbeats 4000000 in
theorem tblDelete_some (w : World) (x : Nat) (fp : List Nat) (f : ByteArray) (a : List UInt8) (ps : List Pc) (size : Nat) (most edits : Int) (h : Raw w x fp f a ps size most edits) (off n : Nat) (hn0 : 0 < n) (hin : off + n ≤ size)
    (hok : ∀ p ∈ ps, Okp f.data.toList a p) (hT : (told f.data.toList a ps).length = size)
    (hf : f.size ≤ 1073741824) (ha : a.length ≤ 1073741824) (hn : ps.length ≤ 1073741823) (ht : size ≤ 1073741824) (he : 0 ≤ edits ∧ edits ≤ 1073741824) :
    Calls Tryz.prog 54 #[.pointer (some ⟨x, 0, none⟩), .int .i64 off, .int .i64 n] w fun e w' => e = .returned (.int .i64 0) ∧
      ∃ ps' fp', DelAt f.data.toList a ps ps' off n ∧ Raw w' x fp' f a ps' (size - n : Nat) most (edits + 1) ∧ Frm fp w w' ∧ ∀ b ∈ fp', b ∈ fp ∨ w.heap.size ≤ b := by
  have hr := tblReaches_yes w x fp f a ps size most edits h off n (by omega) (by omega) (by omega) (by omega) (by omega)
  have hcut := tblCut w x fp f a ps size most edits off h hok (by omega) hf ha (by omega) (by omega)
  have hne : ¬ ((n : Int) = 0) := by omega
  have hxl := h.lt x h.mem
  clear h hok
  go_enter Tryz.func54, Tryz.ntmps54
  go_wp2_with fail
  refine hr.mono ?_
  rintro e w' ⟨rfl, rfl⟩
  clear hr
  go_wp2_with fail
  refine hcut.mono ?_
  rintro e w1 ⟨i, ps1, fp1, rfl, hca, hR1, hF1, hB1, hX1⟩
  have hca2 := fun (W : World) (fpW : List Nat) (h : Raw W x fpW f a ps1 size most edits) => tblCut W x fpW f a ps1 size most edits (off + n) h hca.2.2.2.1 (by rw [hca.told]; omega) hf ha (by have := hca.2.2.2.2.1; omega) (by rw [hca.told]; omega)
  have hcut2 := hca2 w1.drew fp1 (hR1.frm (Frm.refl [] w1).drew (by simp))
  have hfp1 := hR1.lt
  obtain ⟨av1, p1, fv1, hx1, hr1, hv1, hFP1⟩ := hR1
  have cx1 := cell_of_heap (i := 2) hx1 rfl
  have hsz1 := hF1.size
  have hil := hca.1
  have hil2 := hca.2.2.2.2.1
  have HX1 := Lib.hid hx1
  have HCA := Lib.hid hca
  have HCUT := Lib.hid hcut2
  have HF1 := Lib.hid hF1
  have HB1 := Lib.hid hB1
  have HT := Lib.hid hT
  clear hcut hca hca2 hF1 hB1 hX1 hx1 hr1 hv1 hFP1 hcut2 hT
  have mixed : Tryz.prog.follows .mixedOrders = true := by kernel_rfl
  have hwn : IntKind.i64.wrap ((off : Int) + (n : Int)) = (off : Int) + (n : Int) := by rw [IntKind.wrap_i64]; omega
  go_wp2_with fail
  refine (wpIn_wide (n := 3)).1 ?_
  refine wpIn_region_some (β := Nat × List Pc × List Nat) (size := 48) (mk := 9) (0, [], []) wide_wide 12 (fun b ix => [Value.pointer (some ⟨x, 0, none⟩), .pointer (some ⟨x, 0, none⟩), .pointer (some ⟨x, 2, none⟩), .pointer (some ⟨p1, 0, none⟩), .int .i64 i, .pointer (some ⟨x, 0, none⟩), .int .i64 off, .int .i64 n, .int .i64 ((off : Int) + (n : Int)), .int .i64 (b.1 : Nat), .int .i64 i, .int .i64 (IntKind.i64.wrap ((b.1 : Int) - (i : Int)))].getD ix undef)
    (fun b w' => CutAt f.data.toList a ps1 b.2.1 (off + n) b.1 ∧ Raw w' x b.2.2 f a b.2.1 size most edits ∧ Frm fp1 w1 w' ∧ (∀ q ∈ b.2.2, q ∈ fp1 ∨ w1.heap.size ≤ q) ∧ w'.heap[x]? = w1.heap[x]?) mixed (by kernel_rfl) (by kernel_rfl) (by decide) (by kernel_rfl) (by kernel_rfl) (by kernel_rfl) (by kernel_rfl) rfl (by decide) ?hdep ?hrun ?hrunk ?htail
  case hdep =>
    intro ix hi hne
    rcases (by omega : ix = 0 ∨ ix = 1 ∨ ix = 2 ∨ ix = 3 ∨ ix = 4 ∨ ix = 5 ∨ ix = 6 ∨ ix = 7 ∨ ix = 8 ∨ ix = 10 ∨ ix = 11) with rfl | rfl | rfl | rfl | rfl | rfl | rfl | rfl | rfl | rfl | rfl
    all_goals (first | exact .inr (fun _ _ => rfl) | exact .inl (by kernel_rfl))
  case hrun =>
    intro b ix hi hne op hop a' w' ht hw'
    have kx : w'.cell? ⟨x, 2, none⟩ = some (.pointer (some ⟨p1, 0, none⟩)) := by
      rcases hw' with rfl | hC
      · exact cx1
      · exact cell_of_heap (i := 2) (hC.2.2.2.2.trans HX1.out) rfl
    rcases (by omega : ix = 0 ∨ ix = 1 ∨ ix = 2 ∨ ix = 3 ∨ ix = 4 ∨ ix = 5 ∨ ix = 6 ∨ ix = 7 ∨ ix = 8 ∨ ix = 10 ∨ ix = 11) with rfl | rfl | rfl | rfl | rfl | rfl | rfl | rfl | rfl | rfl | rfl
    all_goals obtain rfl := Option.some.inj hop
    · have h1 := ht.free 0 (by kernel_rfl)
      simp [execOp, go_sem, Act.eval, h1]
    · have h1 := ht.dep 0 20 (by kernel_rfl) rfl
      simp [execOp, go_sem, Act.eval, h1]
    · have h1 := ht.dep 1 21 (by kernel_rfl) rfl
      simp [execOp, go_sem, Act.eval, h1]
    · have h1 := ht.dep 2 22 (by kernel_rfl) rfl
      simp [execOp, go_sem, Act.eval, h1, kx]
    · have h1 := ht.free 7 (by kernel_rfl)
      simp [execOp, go_sem, Act.eval, h1]
    · have h1 := ht.free 0 (by kernel_rfl)
      simp [execOp, go_sem, Act.eval, h1]
    · have h1 := ht.free 1 (by kernel_rfl)
      simp [execOp, go_sem, Act.eval, h1]
    · have h1 := ht.free 2 (by kernel_rfl)
      simp [execOp, go_sem, Act.eval, h1]
    · have h1 := ht.dep 6 26 (by kernel_rfl) rfl
      have h2 := ht.dep 7 27 (by kernel_rfl) rfl
      simp [execOp, go_sem, Act.eval, h1, h2, hwn]
    · have h1 := ht.free 7 (by kernel_rfl)
      simp [execOp, go_sem, Act.eval, h1]
    · have h1 := ht.dep 9 29 (by kernel_rfl) rfl
      have h2 := ht.dep 10 30 (by kernel_rfl) rfl
      simp [execOp, go_sem, Act.eval, h1, h2]
  case hrunk =>
    intro op hop a' ht
    obtain rfl := Option.some.inj hop
    have h1 := ht.dep 5 25 (by kernel_rfl) rfl
    have h2 := ht.dep 8 28 (by kernel_rfl) rfl
    right
    refine ⟨76, #[.pointer (some ⟨x, 0, none⟩), .int .i64 ((off : Int) + (n : Int))], ?_, ?_⟩
    · simp [execOp, go_sem, Act.eval, h1, h2]
    · have := HCUT.out
      rw [show (((off + n : Nat) : Int)) = (off : Int) + (n : Int) from by omega] at this
      refine this.mono ?_
      rintro e w2 ⟨j, ps2, fp2, rfl, hcb, hR2, hF2, hB2, hX2⟩
      exact ⟨(j, ps2, fp2), rfl, hcb, hR2, hF2.ofDrew, hB2, hX2⟩
  case htail =>
    rintro ⟨j, ps2, fp2⟩ w2 ⟨hcb, hR2, hF2, hB2, hX2⟩
    simp only at hcb hR2 hB2
    obtain ⟨hij, hjl, hdel⟩ := del_at HCA.out hcb hn0 (by rw [HT.out]; exact hin)
    have hR2l := hR2.lt
    obtain ⟨av2, p2, fv2, hx2, hr2, hv2, hFP2⟩ := hR2
    have hpe := hx2.symm.trans (hX2.trans HX1.out)
    simp only [Option.some.injEq, Obj.cells.injEq, Array.mk.injEq, List.cons.injEq, Value.pointer.injEq, Addr.mk.injEq, true_and, and_true] at hpe
    obtain ⟨hae, rfl⟩ := hpe
    have hvd := vecDeleteP w2 p2 fv2 ps2 i (j - i) hv2 (by omega) (by omega) (by have := hcb.2.2.2.2.1; omega)
    rw [show i + (j - i) = j from by omega, show ((j - i : Nat) : Int) = (j : Int) - (i : Int) from by omega] at hvd
    have hjb := hcb.2.2.2.2.1
    have hwj : IntKind.i64.wrap ((j : Int) - (i : Int)) = (j : Int) - (i : Int) := by rw [IntKind.wrap_i64]; omega
    have HX2 := Lib.hid hx2
    have HR2 := Lib.hid hr2
    have HV2 := Lib.hid hv2
    have HFP2 := Lib.hid hFP2
    have HF2 := Lib.hid hF2
    have HB2 := Lib.hid hB2
    have HD := Lib.hid hdel
    have HVD := Lib.hid hvd
    have HR2L := Lib.hid hR2l
    clear hx2 hr2 hv2 hFP2 hF2 hB2 hX2 hcb hdel hvd hae hR2l
    simp only [List.take_succ_cons, List.take_zero, List.drop_succ_cons, List.drop_zero, putAll, Act.put, Nat.reduceAdd, List.getD_cons_succ, List.getD_cons_zero]
    gi_wp2_with fail
    refine ⟨trivial, (callsIn_wide.2 HVD.out).mono ?_⟩
    rintro e w3 ⟨⟨v3, rfl⟩, fv3, hv3, hf3, hb3⟩
    have hR3 := Raw.vec HX2.out HR2.out HV2.out hf3 hv3
    have hx3 := hf3.heap HX2.out (HV2.out.not_mem HX2.out (by decide) (by decide))
    have c33 := cell_of_heap (i := 3) hx3 rfl
    have c35 := cell_of_heap (i := 5) hx3 rfl
    have z33 := frozen_of_heap 3 hx3
    have z35 := frozen_of_heap 5 hx3
    have HX3 := Lib.hid hx3
    have HR3 := Lib.hid hR3
    have HF3 := Lib.hid hf3
    have HB3 := Lib.hid hb3
    clear hR3 hx3 hv3 hf3 hb3
    gi_wp2_with fail
    go_wp2_with fail
    go_ret
    have hxfp : x ∈ fp2 := by rw [HFP2.out]; simp
    have hfs : Frm [x] w3 ((w3.setCell ⟨x, 3, none⟩ (.int .i64 ((size : Int) - (n : Int)))).setCell ⟨x, 5, none⟩ (.int .i64 (edits + 1))) := ((Frm.refl [x] w3).setCell (.inl (by simp)) _).setCell (.inl (by simp)) _
    have hsz2 := HF2.out.size
    have hsz3 := HF3.out.size
    have hb2 : ∀ q ∈ fp2, q ∈ fp ∨ w.heap.size ≤ q := fun q hq => by
      rcases HB2.out q hq with h | h
      · exact HB1.out q h
      · exact .inr (by omega)
    have hF12 : Frm fp w w2 := HF1.out.trans HF2.out HB1.out
    refine ⟨rfl, _, _, HD.out, by simpa [show ((size - n : Nat) : Int) = (size : Int) - (n : Int) from by omega] using HR3.out.put ((size : Int) - (n : Int)) (edits + 1),
      (hF12.trans HF3.out (fun q hq => hb2 q (by rw [HFP2.out]; simp [hq]))).trans hfs (fun q hq => ?_), fun q hq => ?_⟩
    · obtain rfl : q = x := by simpa using hq
      exact hb2 q hxfp
    · rcases List.mem_cons.1 hq with rfl | hq
      · exact hb2 q hxfp
      · rcases List.mem_append.1 hq with hq | hq
        · exact hb2 q (by rw [HFP2.out]; exact List.mem_cons_of_mem _ (List.mem_append_left _ hq))
        · rcases HB3.out q hq with h | h
          · exact hb2 q (by rw [HFP2.out]; exact List.mem_cons_of_mem _ (List.mem_append_right _ h))
          · exact .inr (by omega)

end Go.Proofs.YtnajkjgjeiodmaaGreatDoor.Pp
