/-
  CONTRACT OF foolscaplaw2.whole: at a table of just this text it returns true, and changes nothing that lay in memory. Conditions: a bound of 2^28 on all sizes.
-/
import Derived.Test.YtnajkjgjeiodmaaKn2
namespace Go.Proofs.Ytnajkjgjeiodmaa
open Go.RowKit
open Go.Proofs (Try.prog)

attribute [local go_sem] Oper.semAt_some

theorem Tbl.ext {w w' : World} {x base : Nat} {fp : List Nat} {T : List UInt8} {most : Int} {edits np cap : Nat} (h : Tbl w x fp T most edits np cap) (hE : Ext base w w') : Tbl w' x fp T most edits np cap := by
  obtain ⟨f, a, ps, hr, h⟩ := h
  exact ⟨f, a, ps, hr.ext hE, h⟩

set_option maxRecDepth 100000 in
set_option maxHeartbeats 4000000 in
theorem whole2 (w : World) (x : Nat) (fp : List Nat) (want : ByteArray) (most : Int) (edits np cap : Nat) (h : Tbl w x fp want.data.toList most edits np cap) (hc : cap ≤ 268435456) :
    Calls Try.prog 28 #[.pointer (some ⟨x, 0, none⟩), .string want, .int .i64 edits] w fun e w' => e = .returned (.bool true) ∧ Frm [] w w' := by
  have hwl : want.data.toList.length = want.size := rfl
  have hfw := h.few
  have hlt := h.lt
  obtain ⟨W0, hW0⟩ : ∃ W0, W0 = w.alloc (.cells #[.bool false] 4) := ⟨_, rfl⟩
  have hF0 : Frm [] w W0 := by rw [hW0]; exact (Frm.refl _ w).alloc _
  have hs0 : W0.heap.size = w.heap.size + 1 := by rw [hW0]; simp
  have hb0 : W0.heap[w.heap.size]? = some (.cells #[.bool false] 4 (0, 0)) := by rw [hW0]; exact heap_alloc_at w _
  have ht0 := h.frm hF0 (by simp)
  have hlen := tLen ht0
  have hsl := tSlice ht0 0 want.size hc (by omega)
  rw [List.drop_zero, ← hwl, List.take_length, show (⟨want.data.toList.toArray⟩ : ByteArray) = want from by simp, hwl] at hsl
  rw [hwl] at hlen
  subst hW0
  have HT0 := Lib.hid ht0
  have HB0 := Lib.hid hb0
  have HF0 := Lib.hid hF0
  have HSL := Lib.hid hsl
  have HLEN := Lib.hid hlen
  have HLT := Lib.hid hlt
  have hed : edits ≤ 268435456 := by omega
  have hnp : np ≤ 2 * edits + 1 := hfw.1
  have hws : want.size ≤ 268435456 := by omega
  clear h hfw hb0 hF0 ht0 hsl hlen hlt hwl hs0
  refine callsIn_wide.1 (callsIn_of_wp_marks (n := 3) Try.func28 rfl trivial ?_ rfl)
  simp only [Try.ntmps28, List.size_toArray, List.length_cons, List.length_nil, Nat.reduceAdd, Nat.reduceSub, Array.replicate_succ, Array.replicate_zero, List.push_toArray, List.append_toArray, List.nil_append, List.cons_append]
  gi_wp2_with fail
  refine ⟨trivial, (callsIn_wide.2 HLEN.out).mono ?_⟩
  rintro e w' ⟨rfl, rfl⟩
  gi_wp2_with fail
  refine ⟨trivial, (callsIn_wide.2 HSL.out).mono ?_⟩
  rintro e w1 ⟨rfl, hf1⟩
  have ht1 := HT0.out.frm hf1 (by simp)
  have hl1 := tLen ht1
  have he1 := tEdits ht1
  have hp1 := tPieces ht1
  rw [show want.data.toList.length = want.size from rfl] at hl1
  have hb1 := hf1.heap HB0.out (by simp)
  have HT1 := Lib.hid ht1
  have HF1 := Lib.hid (HF0.out.trans hf1 (by simp))
  have HB1 := Lib.hid hb1
  have hz1 := hf1.size
  simp only [World.size_alloc] at hz1
  have HL1 := Lib.hid hl1
  have HE1 := Lib.hid he1
  have HP1 := Lib.hid hp1
  clear ht1 hf1 hb1 hl1 he1 hp1
  gi_wp2_with fail
  refine ⟨trivial, (callsIn_wide.2 HL1.out).mono ?_⟩
  rintro e w' ⟨rfl, rfl⟩
  gi_wp2_with fail
  refine ⟨trivial, (callsIn_wide.2 HE1.out).mono ?_⟩
  rintro e w' ⟨rfl, rfl⟩
  gi_wp2_with fail
  refine ⟨trivial, (callsIn_wide.2 HP1.out).mono ?_⟩
  rintro e w' ⟨rfl, rfl⟩
  gi_wp2_with fail
  refine ⟨trivial, (callsIn_wide.2 (tblAll w1 x)).mono ?_⟩
  rintro e w2 ⟨rfl, hw2⟩
  obtain ⟨W3, hW3⟩ : ∃ W3, W3 = (w2.alloc (.cells #[.string ⟨#[]⟩] 9)).alloc (.cells #[.int .i64 0] 3) := ⟨_, rfl⟩
  have hF12 : Frm [] w1 w2 := by rw [← hw2]; exact (Frm.refl _ w1).alloc _
  have hF23 : Frm [] w2 W3 := by rw [hW3]; exact ((Frm.refl _ w2).alloc _).alloc _
  have hs2 : w2.heap.size = w1.heap.size + 1 := by rw [← hw2]; simp
  have hbt : w2.heap[w1.heap.size]? = some (.cells #[.pointer (some ⟨x, 0, none⟩)] 39 (0, 0)) := by rw [← hw2]; exact heap_alloc_at w1 _
  have hF13 := hF12.trans hF23 (by simp)
  have hbs : W3.heap[w1.heap.size + 1]? = some (.cells #[.string ⟨#[]⟩] 9 (0, 0)) := by
    rw [hW3, ← hs2, heap_alloc_below _ (by simp)]; exact heap_alloc_at w2 _
  have hbi : W3.heap[w1.heap.size + 2]? = some (.cells #[.int .i64 0] 3 (0, 0)) := by
    have := heap_alloc_at (w2.alloc (.cells #[.string ⟨#[]⟩] 9)) (.cells #[.int .i64 0] 3)
    rw [World.size_alloc, hs2] at this
    rw [hW3]; exact this
  have hs3 : W3.heap.size = w1.heap.size + 3 := by rw [hW3]; simp [hs2]
  have ht3 := HT1.out.frm hF13 (by simp)
  have hb3 := hF13.heap HB1.out (by simp)
  have hF3 := HF1.out.trans hF13 (by simp)
  obtain ⟨xs, hxf, hxl, hxn, hit⟩ := tAllIter ht3 w1.heap.size (hF23.heap hbt (by simp)) hc
  have hlt3 : ∀ b ∈ fp, b < w.heap.size := HLT.out
  subst hw2
  rw [World.size_alloc] at *
  have hsw : w.heap.size + 1 ≤ w1.heap.size := hz1
  have HIT := Lib.hid hit
  have HXF := Lib.hid hxf
  have HXL := Lib.hid hxl
  have HXN := Lib.hid hxn
  have HF3 := Lib.hid hF3
  have HT3 := Lib.hid ht3
  have HB3 := Lib.hid hb3
  have HBS := Lib.hid hbs
  have HBI := Lib.hid hbi
  have HW3 := Lib.hid hW3
  have HS3 := Lib.hid hs3
  have HLT3 := Lib.hid hlt3
  clear hF12 hF23 hs2 hbt hF13 hbs hbi ht3 hb3 hF3 hit hxf hxl hxn hlt3
  have hnil : ∀ W : World, (binOp .eql 52 (.func (.func 49) #[] #[.pointer (some ⟨w1.heap.size, 0, none⟩)]) .nilFunc).run Try.prog W = .ok (.bool false) W := fun _ => by kernel_rfl
  gi_wp2_with fail
  rw [← hW3]
  clear hW3
  refine wp_range (gf := 49) (lb := #[.pointer (some ⟨w1.heap.size, 0, none⟩)]) rfl (enters_of Try.func49 (by kernel_rfl) rfl) HIT.out KeepC.trans KeepC.putObj ?hps
    (fun k X => Tbl X x fp want.data.toList most edits np cap ∧ X.heap[w.heap.size]? = some (.cells #[.bool false] 4 (0, 0)) ∧ X.heap[w1.heap.size + 1]? = some (.cells #[.string ⟨(xs.take k).flatten.toArray⟩] 9 (0, 0)) ∧ X.heap[w1.heap.size + 2]? = some (.cells #[.int .i64 k] 3 (0, 0)) ∧ Frm [] w X ∧ W3.heap.size ≤ X.heap.size)
    (fun _ _ _ => False) ?hI (fun _ _ _ _ h _ => h) ?h0 ?hround ?hdone ?hstop
  case hps =>
    intro z hz
    obtain ⟨s, _, rfl⟩ := List.mem_map.1 hz
    rfl
  case hI =>
    rintro k X Y ⟨i1, i2, i3, i4, i5, i6⟩ hE
    exact ⟨i1.ext hE, hE.cells i2, hE.cells i3, hE.cells i4, i5.ext hE (by have := HS3.out; omega), Nat.le_trans i6 hE.size⟩
  case h0 => exact ⟨HT3.out, HB3.out, by simpa using HBS.out, HBI.out, HF3.out, Nat.le_refl _⟩
  case hround =>
    rintro l k z X hl hz ⟨i1, i2, i3, i4, i5, i6⟩ K' hK'
    rw [List.getElem?_map] at hz
    obtain ⟨s, hs, rfl⟩ : ∃ s, xs[k]? = some s ∧ z = #[.string ⟨s.toArray⟩] := by
      cases h : xs[k]? with
      | none => rw [h] at hz; cases hz
      | some s => rw [h] at hz; exact ⟨s, rfl, (Option.some.inj hz).symm⟩
    clear hz
    gi_wp2_with fail
    refine hK' _ _ (KeepsFrom.refl _ _) (KeepC.refl _ _ _) ?_
    intro w2 hE2 hs2
    have j1 := i1.ext hE2
    have j2 := hE2.cells i2
    have j3 := hE2.cells i3
    have j4 := hE2.cells i4
    have h3 := HS3.out
    have j5 := i5.ext hE2 (by omega)
    have j6 := Nat.le_trans i6 hE2.size
    clear i1 i2 i3 i4 i5 i6 hE2 hs2 hK'
    have hkl := (List.getElem?_eq_some_iff.1 hs).1
    have hne := HXN.out s (List.mem_of_getElem? hs)
    have hflat : (xs.take (k + 1)).flatten = (xs.take k).flatten ++ s := by
      rw [List.take_add_one, hs]
      simp
    have hfl : ((xs.take k).flatten ++ s).length ≤ want.size := by
      rw [← hflat]
      have e : (xs.take (k + 1)).flatten ++ (xs.drop (k + 1)).flatten = xs.flatten := by rw [← List.flatten_append, List.take_append_drop]
      have e2 := congrArg List.length e
      rw [HXF.out, List.length_append] at e2
      have : want.data.toList.length = want.size := rfl
      omega
    have hadd : ∀ W, (Op.stringOp .add ⟨(xs.take k).flatten.toArray⟩ ⟨s.toArray⟩).run Try.prog W = .ok (.string ⟨(xs.take (k + 1)).flatten.toArray⟩) W := fun W => by
      rw [List.length_append] at hfl
      rw [run_string_add_sum W _ _ (by show (xs.take k).flatten.toArray.size + s.toArray.size ≤ _; rw [List.size_toArray, List.size_toArray]; omega), ByteArray.mk_append_mk, hflat]
    have hse : (⟨s.toArray⟩ : ByteArray).toList.isEmpty = false := by
      rw [ByteArray.toList_eq]
      cases s with
      | nil => exact absurd rfl hne
      | cons _ _ => rfl
    have c3 := cell_of_heap (i := 0) j3 rfl
    have c4 : w2.cell? ⟨w1.heap.size + 1 + 1, 0, none⟩ = some (.int .i64 k) := cell_of_heap (i := 0) j4 rfl
    have z3 := frozen_of_heap 0 j3
    have z4 : w2.frozen? ⟨w1.heap.size + 1 + 1, 0, none⟩ = false := frozen_of_heap 0 j4
    have hkb : k ≤ 1000000000 := by have := HXL.out; omega
    have HADD := Lib.hid hadd
    have HJ1 := Lib.hid j1
    have HJ2 := Lib.hid j2
    have HJ3 := Lib.hid j3
    have HJ4 := Lib.hid j4
    have HJ5 := Lib.hid j5
    clear j1 j2 j3 j4 j5 hfl hflat hne hs
    obtain ⟨A, hA⟩ : ∃ A : ByteArray, A = ⟨(xs.take k).flatten.toArray⟩ := ⟨_, rfl⟩
    obtain ⟨B, hB⟩ : ∃ B : ByteArray, B = ⟨s.toArray⟩ := ⟨_, rfl⟩
    obtain ⟨C, hC⟩ : ∃ C : ByteArray, C = ⟨(xs.take (k + 1)).flatten.toArray⟩ := ⟨_, rfl⟩
    rw [← hA, ← hB, ← hC] at hadd
    rw [← hB] at hse
    simp only [List.getElem_toArray, List.getElem_cons_zero] at c3
    rw [← hA] at c3
    rw [← hB]
    have HC := Lib.hid hC
    clear hA hB hC
    gi_wp2_with fail
    have hfs : Frm [w1.heap.size + 1, w1.heap.size + 2] w2 ((w2.setCell ⟨w1.heap.size + 1, 0, none⟩ (.string C)).setCell ⟨w1.heap.size + 1 + 1, 0, none⟩ (.int .i64 ((k : Int) + 1))) := ((Frm.refl _ w2).setCell (.inl (by simp)) _).setCell (.inl (by simp)) _
    have hd3 := heap_set_at (i := 0) (.string C) HJ3.out
    have hd4 := heap_set_at (i := 0) (.int .i64 ((k : Int) + 1)) ((heap_set_other (w := w2) (a := ⟨w1.heap.size + 1, 0, none⟩) (.string C) (b := w1.heap.size + 2) (by simp)).trans HJ4.out)
    have hfpn : ∀ b ∈ fp, b ∉ [w1.heap.size + 1, w1.heap.size + 2] := fun b hb hm => by
      have := HLT3.out b hb
      simp at hm
      omega
    refine ⟨KeepsFrom.frm hfs (fun b hb => .inl (by simp at hb; omega)), KeepC.frm hfs (fun b hb => ⟨fun hm => ?_, by simp at hb; omega⟩), HJ1.out.frm hfs hfpn, hfs.heap HJ2.out (by simp; omega), ?_, by simpa using hd4, HJ5.out.trans hfs (fun b hb => .inr (by simp at hb; omega)), Nat.le_trans j6 hfs.size⟩
    · rcases List.mem_cons.1 hm with rfl | hm
      · simp at hb
      · exact hfpn b hm hb
    · rw [heap_set_other _ (by simp), ← HC.out]
      exact hd3
  case hdone =>
    rintro D X hD ⟨i1, i2, i3, i4, i5, i6⟩ hK
    have h3 := HS3.out
    rw [List.length_map] at i3 i4
    rw [List.take_length, HXF.out, show (⟨want.data.toList.toArray⟩ : ByteArray) = want from by simp] at i3
    rw [HXL.out] at i4
    have hp := (tPieces (i1.frm (Frm.refl [] X).drew (by simp))).mono (R' := fun e w' => e = .returned (.int .i64 np) ∧ w' = X.drew) (fun e w' h => ⟨h.1, h.2.symm⟩)
    have c3 := cell_of_heap (i := 0) i3 rfl
    have c4 : X.cell? ⟨w1.heap.size + 1 + 1, 0, none⟩ = some (.int .i64 np) := cell_of_heap (i := 0) i4 rfl
    have c2 := cell_of_heap (i := 0) i2 rfl
    have z2 := frozen_of_heap 0 i2
    have HP := Lib.hid hp
    have HI2 := Lib.hid i2
    have HI5 := Lib.hid i5
    have HK := Lib.hid hK
    clear i1 i2 i3 i4 i5 hK hp
    have mixed : Try.prog.follows .mixedOrders = true := by kernel_rfl
    gi_wp2_with fail
    refine wpIn_region_tail wide_wide 9 mixed (by kernel_rfl) (by kernel_rfl) ?_
    simp only [List.take_succ_cons, List.take_zero, List.drop_succ_cons, List.drop_zero]
    repeat still_step
    still_call HP.out
    repeat still_step
    refine wpStill_nil ?_
    gi_wp2_with fail
    have hfs : Frm [w.heap.size] X (X.setCell ⟨w.heap.size, 0, none⟩ (.bool true)).drew := ((Frm.refl _ X).setCell (.inl (by simp)) _).drew
    have h2 : (X.setCell ⟨w.heap.size, 0, none⟩ (.bool true)).drew.heap[w.heap.size]? = some (.cells #[.bool true] 4 (0, 0)) := heap_set_at (w := X) (i := 0) (.bool true) HI2.out
    have hK2 := hfs.heap HK.out (by simp; omega)
    have h5 : ((X.setCell ⟨w.heap.size, 0, none⟩ (.bool true)).drew.putObj D (.deferred none)).cell? ⟨w.heap.size, 0, none⟩ = some (.bool true) :=
      cell_of_heap (i := 0) ((World.putObj_heap_other (by omega)).trans h2) rfl
    refine ⟨by simp, .inl ⟨_, _, rfl, run_takeDeferred hK2, ?_⟩⟩
    exact ⟨.bool true, by simp [results, Try.results28, go_sem, h5], rfl, (HI5.out.trans hfs (fun b hb => .inr (by simp at hb; omega))).putObj (.inr (by omega)) _⟩
  case hstop =>
    rintro D q k W _ _ h _
    exact h.elim

end Go.Proofs.Ytnajkjgjeiodmaa
