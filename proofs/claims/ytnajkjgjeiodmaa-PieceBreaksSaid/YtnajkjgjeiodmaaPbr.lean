/-
  THE WALK OF foolscaplaw2.PieceBreaks: it returns true at every arguments, and changes nothing that lay in memory.
-/
import Derived.Test.YtnajkjgjeiodmaaHt
namespace Go.Proofs.Ytnajkjgjeiodmaa
open Go.RowKit
open Go.Proofs (Try.prog)

attribute [local go_sem] Oper.semAt_some

set_option maxRecDepth 100000 in
set_option maxHeartbeats 8000000 in
theorem pieceBreaks (w : World) (a : Option Addr) (len cap : Nat) (most : Int) (hl : len ≤ maxLen)
    (ha : ∀ i, i < len → ∃ (y : Addr) (S : ByteArray), a = some y ∧ S.size ≤ maxLen ∧ w.cell? (y.add i) = some (.string S)) (hm0 : 0 ≤ most) (hm1 : most ≤ 255) :
    Calls Try.prog 8 #[.slice a len cap, .int .u8 most] w fun e w' => e = .returned (.bool true) ∧ Frm [] w w' := by
  have hk := known2 w
  unfold maxLen at hl
  by_cases hl1 : len ≤ 12
  · obtain ⟨most, rfl⟩ := Int.eq_ofNat_of_zero_le hm0
    have HA := Lib.hid ha
    have HK := Lib.hid hk
    clear ha hk
    refine callsIn_wide.1 (callsIn_of_wp_marks (n := 3) Try.func8 rfl trivial ?_ rfl)
    simp only [Try.ntmps8, List.size_toArray, List.length_cons, List.length_nil, Nat.reduceAdd, Nat.reduceSub, Array.replicate_succ, Array.replicate_zero, List.push_toArray, List.append_toArray, List.nil_append, List.cons_append]
    gi_wp2_with fail
    refine ⟨trivial, (callsIn_wide.2 HK.out).mono ?_⟩
    rintro e w1 ⟨rfl, hf1⟩
    have hnew := tNew w1 ⟨#[97, 98]⟩ 2000 2000 (by decide) (by decide) (by decide) (by decide)
    have HNEW := Lib.hid hnew
    have HF1 := Lib.hid hf1
    clear hf1 hnew
    gi_wp2_with fail
    refine ⟨trivial, (callsIn_wide.2 HNEW.out).mono ?_⟩
    rintro e w2 ⟨x, fp, np, rfl, ht, hf2, hb2⟩
    have HH := Lib.hid (HeldT.made HF1.out ht hf2 hb2)
    clear ht hf2 hb2
    gi_wp2_with fail
    gi_loopw [7] (fun i wr => ∃ (k ed : Nat) (T : List UInt8), k ≤ len ∧ i = .int .i64 k ∧ 2 ≤ T.length ∧ T.length ≤ 2 + 40 * k ∧ HeldT w x T 2000 ed (2000 + 100 * k) wr) (fun i _ => len - (intOf i).toNat)
    case atStart => exact ⟨0, 0, _, Nat.zero_le _, rfl, by decide, by decide, HH.out⟩
    case round =>
      obtain ⟨k, ed, T, hkl, rfl, hT0, hT1, hh⟩ := hrel
      by_cases hlt : k < len
      · obtain ⟨y, S, rfl, hS, hcell0⟩ := HA.out k hlt
        have hcell := hh.fin.cell hcell0 (by simp)
        unfold maxLen at hS
        by_cases hbig : S.size ≤ 40
        · have hins := hInsert hh 1 S (by omega) (by omega) (by omega)
          have HINS := Lib.hid hins
          clear hins hh hcell0
          gi_wp2_with fail
          refine ⟨trivial, (callsIn_wide.2 HINS.out).mono ?_⟩
          rintro e w3 ⟨rfl, hh3⟩
          have HH3 := Lib.hid hh3
          clear hh3 hcell
          gi_wp2_with fail
          go_roundw
          case rel =>
            have h1 := str_len S
            exact ⟨k + 1, _, _, by omega, by go_num, by simp only [List.length_append, List.length_take, List.length_drop]; omega, by simp only [List.length_append, List.length_take, List.length_drop]; omega, HH3.out.mono (by omega)⟩
          case measure => simp [intOf]; omega
        · have hbig2 : (40 : Int) < (S.size : Int) := by omega
          have HFIN := Lib.hid hh.fin
          clear hh hcell0
          gi_wp2_with fail
          exact ⟨.bool true, by simp [results, Try.results8, go_sem], rfl, HFIN.out⟩
      · obtain rfl : k = len := by omega
        obtain ⟨fp4, np4, ht4, hfp4, hF4⟩ := hh
        have hfw := ht4.few
        obtain ⟨w4, hw4⟩ : ∃ w4 : World, w4 = wr := ⟨_, rfl⟩
        rw [← hw4] at ht4 hF4
        have hsz4 := hF4.size
        have hmod : ((most : Int) % 6) = ((most % 6 : Nat) : Int) := by omega
        have hmod6 : most % 6 < 6 := Nat.mod_lt _ (by omega)
        have HMOD := Lib.hid hmod
        subst hw4
        gi_wp2_with fail
        refine ⟨trivial, (callsIn_wide.2 (tblAll w4 x)).mono ?_⟩
        rintro e w5 ⟨rfl, hw5⟩
        have hnil : ∀ W : World, (binOp .eql 52 (.func (.func 49) #[] #[.pointer (some ⟨w4.heap.size, 0, none⟩)]) .nilFunc).run Try.prog W = .ok (.bool false) W := fun _ => by kernel_rfl
        obtain ⟨W3, hW3⟩ : ∃ W3, W3 = (w5.alloc (.cells #[.int .i64 (((most % 6 : Nat) : Int) + 1)] 3)).alloc (.cells #[.int .i64 0] 3) := ⟨_, rfl⟩
        have hF12 : Frm [] w4 w5 := by rw [← hw5]; exact (Frm.refl _ w4).alloc _
        have hF23 : Frm [] w5 W3 := by rw [hW3]; exact ((Frm.refl _ w5).alloc _).alloc _
        have hs2 : w5.heap.size = w4.heap.size + 1 := by rw [← hw5]; simp
        have hbt : w5.heap[w4.heap.size]? = some (.cells #[.pointer (some ⟨x, 0, none⟩)] 39 (0, 0)) := by rw [← hw5]; exact heap_alloc_at w4 _
        have hF13 := hF12.trans hF23 (by simp)
        have hbs : W3.heap[w4.heap.size + 1]? = some (.cells #[.int .i64 (((most % 6 : Nat) : Int) + 1)] 3 (0, 0)) := by
          rw [hW3, ← hs2, heap_alloc_below _ (by simp)]; exact heap_alloc_at w5 _
        have hbi : W3.heap[w4.heap.size + 2]? = some (.cells #[.int .i64 0] 3 (0, 0)) := by
          have := heap_alloc_at (w5.alloc (.cells #[.int .i64 (((most % 6 : Nat) : Int) + 1)] 3)) (.cells #[.int .i64 0] 3)
          rw [World.size_alloc, hs2] at this
          rw [hW3]; exact this
        have hs3 : W3.heap.size = w4.heap.size + 3 := by rw [hW3]; simp [hs2]
        have ht3 := ht4.frm hF13 (by simp)
        have hF3 := hF4.trans hF13 (by simp)
        obtain ⟨xs, -, hxl, -, hit⟩ := tAllIter ht3 w4.heap.size (hF23.heap hbt (by simp)) (by omega)
        have hlt4 := ht4.lt
        subst hw5
        rw [World.size_alloc] at *
        have HIT := Lib.hid hit
        have HXL := Lib.hid hxl
        have HF3 := Lib.hid hF3
        have HT3 := Lib.hid ht3
        have HBS := Lib.hid hbs
        have HBI := Lib.hid hbi
        have HS3 := Lib.hid hs3
        have HLT4 := Lib.hid hlt4
        clear hF12 hF23 hs2 hbt hF13 hbs hbi ht3 hF3 hit hxl ht4 hF4 hfw hlt4 hs3
        have hcv : ∀ W : World, (convert 5 3 (.int .u8 ((most : Int) % 6))).run Try.prog W = .ok (.int .i64 ((most % 6 : Nat) : Int)) W := fun W => by
          have := run_convert_int (P := Try.prog) W 5 3 .u8 ((most : Int) % 6) (by kernel_rfl) Try.underlying3
          have h3 : Try.prog.intKind 3 = .i64 := by kernel_rfl
          rw [h3] at this
          rw [this, IntKind.wrap_i64 (((most : Int) % 6)), show ((most : Int) % 6 + 9223372036854775808) % 18446744073709551616 - 9223372036854775808 = ((most % 6 : Nat) : Int) from by omega]
        generalize most % 6 = M at *
        gi_wp2_with fail
        clear hcv
        rw [← hW3]
        clear hW3
        refine wp_range (gf := 49) (lb := #[.pointer (some ⟨w4.heap.size, 0, none⟩)]) rfl (enters_of Try.func49 (by kernel_rfl) rfl) HIT.out KeepC.trans KeepC.putObj ?hps
          (fun j X => Tbl X x fp4 T 2000 ed np4 (2000 + 100 * k) ∧ X.heap[w4.heap.size + 1]? = some (.cells #[.int .i64 ((M : Int) + 1)] 3 (0, 0)) ∧ X.heap[w4.heap.size + 2]? = some (.cells #[.int .i64 j] 3 (0, 0)) ∧ Frm [] w X ∧ W3.heap.size ≤ X.heap.size ∧ j ≤ M)
          (fun c j X => c = .exit 2 ∧ j = M ∧ Tbl X x fp4 T 2000 ed np4 (2000 + 100 * k) ∧ X.heap[w4.heap.size + 1]? = some (.cells #[.int .i64 ((M : Int) + 1)] 3 (0, 0)) ∧ X.heap[w4.heap.size + 2]? = some (.cells #[.int .i64 ((M : Int) + 1)] 3 (0, 0)) ∧ Frm [] w X ∧ W3.heap.size ≤ X.heap.size)
          ?hI ?hIx ?h0 ?hround ?hdone ?hstop
        case hps =>
          intro z hz
          obtain ⟨s, _, rfl⟩ := List.mem_map.1 hz
          rfl
        case hI =>
          rintro j X Y ⟨i1, i2, i3, i4, i5, i6⟩ hE
          exact ⟨i1.ext hE, hE.cells i2, hE.cells i3, i4.ext hE (by have := HS3.out; omega), Nat.le_trans i5 hE.size, i6⟩
        case hIx =>
          rintro c j X Y ⟨hc, hj, i1, i2, i3, i4, i5⟩ hE
          exact ⟨hc, hj, i1.ext hE, hE.cells i2, hE.cells i3, i4.ext hE (by have := HS3.out; omega), Nat.le_trans i5 hE.size⟩
        case h0 => exact ⟨HT3.out, HBS.out, HBI.out, HF3.out, Nat.le_refl _, Nat.zero_le _⟩
        case hround =>
          rintro l j z X hl2 hz ⟨i1, i2, i3, i4, i5, i6⟩ K' hK'
          obtain ⟨s, rfl⟩ : ∃ s : List UInt8, z = #[.string ⟨s.toArray⟩] := by
            obtain ⟨s, _, h⟩ := List.mem_map.1 (List.mem_of_getElem? hz)
            exact ⟨s, h.symm⟩
          clear hz
          gi_wp2_with fail
          refine hK' _ _ (KeepsFrom.refl _ _) (KeepC.refl _ _ _) ?_
          intro w2 hE2 hs2
          have h3 := HS3.out
          have j1 := i1.ext hE2
          have j2 := hE2.cells i2
          have j3 := hE2.cells i3
          have j4 := i4.ext hE2 (by omega)
          have j5 := Nat.le_trans i5 hE2.size
          clear i1 i2 i3 i4 i5 hE2 hs2 hK'
          have c9 := cell_of_heap (i := 0) j2 rfl
          have c10 : w2.cell? ⟨w4.heap.size + 1 + 1, 0, none⟩ = some (.int .i64 j) := cell_of_heap (i := 0) j3 rfl
          have z10 : w2.frozen? ⟨w4.heap.size + 1 + 1, 0, none⟩ = false := frozen_of_heap 0 j3
          have HJ1 := Lib.hid j1
          have HJ2 := Lib.hid j2
          have HJ3 := Lib.hid j3
          have HJ4 := Lib.hid j4
          clear j1 j2 j3 j4
          have hfs : Frm [w4.heap.size + 2] w2 (w2.setCell ⟨w4.heap.size + 1 + 1, 0, none⟩ (.int .i64 ((j : Int) + 1))) := (Frm.refl _ w2).setCell (.inl (by simp)) _
          have hd3 := heap_set_at (i := 0) (.int .i64 ((j : Int) + 1)) HJ3.out
          have hfpn : ∀ b ∈ fp4, b ∉ [w4.heap.size + 2] := fun b hb hm => by
            have := HLT4.out b hb
            simp at hm
            omega
          have hK1 : KeepsFrom W3.heap.size w2 (w2.setCell ⟨w4.heap.size + 1 + 1, 0, none⟩ (.int .i64 ((j : Int) + 1))) := KeepsFrom.frm hfs (fun b hb => .inl (by simp at hb; omega))
          have hK2 : KeepC W3.heap.size (w4.heap.size :: fp4) w2 (w2.setCell ⟨w4.heap.size + 1 + 1, 0, none⟩ (.int .i64 ((j : Int) + 1))) := KeepC.frm hfs (fun b hb => ⟨fun hm => by
            rcases List.mem_cons.1 hm with rfl | hm
            · simp at hb
            · exact hfpn b hm hb, by simp at hb; omega⟩)
          have hX1 := HJ1.out.frm hfs hfpn
          have hX2 := hfs.heap HJ2.out (by simp)
          have hX4 : Frm [] w (w2.setCell ⟨w4.heap.size + 1 + 1, 0, none⟩ (.int .i64 ((j : Int) + 1))) := HJ4.out.trans hfs (fun b hb => .inr (by simp at hb; omega))
          have HX1 := Lib.hid hX1
          have HX2 := Lib.hid hX2
          have HX3 := Lib.hid hd3
          have HX4 := Lib.hid hX4
          have HK1 := Lib.hid hK1
          have HK2 := Lib.hid hK2
          have hsz := hfs.size
          clear hfs hd3 hK1 hK2 hX1 hX2 hX4 h3
          by_cases hj : j < M
          · have hj1 : ¬ (M : Int) + 1 ≤ (j : Int) + 1 := by omega
            gi_wp2_with fail
            exact ⟨HK1.out, HK2.out, HX1.out, HX2.out, by simpa using HX3.out, HX4.out, by omega, by omega⟩
          · obtain rfl : j = M := by omega
            have hj1 : (j : Int) + 1 ≤ (j : Int) + 1 := by omega
            gi_wp2_with fail
            exact ⟨HK1.out, rfl, rfl, HX1.out, HX2.out, HX3.out, HX4.out, by omega⟩
        case hdone =>
          rintro D X hD ⟨i1, i2, i3, i4, i5, i6⟩ hK
          have h3 := HS3.out
          rw [List.length_map, HXL.out] at i3 i6
          have hm1 : (np4 : Int) < (M : Int) + 1 := by omega
          have hm2 : ¬ (M : Int) + 1 < (np4 : Int) := by omega
          have hm3 : np4 ≤ M := by omega
          have hm4 : (np4 : Int) ≤ (M : Int) := by omega
          have hm5 : np4 < M + 1 := by omega
          clear h3
          have hlen := tLen i1
          have hsl := tSlice i1 0 T.length (by omega) (by omega)
          rw [List.drop_zero, List.take_length] at hsl
          have c9 := cell_of_heap (i := 0) i2 rfl
          have c10 : X.cell? ⟨w4.heap.size + 1 + 1, 0, none⟩ = some (.int .i64 (np4 : Int)) := cell_of_heap (i := 0) i3 rfl
          have HLEN := Lib.hid hlen
          have HSL := Lib.hid hsl
          have HI1 := Lib.hid i1
          have HI4 := Lib.hid i4
          have HK2 := Lib.hid hK
          clear hlen hsl i1 i2 i3 i4 hK
          gi_wp2_with fail
          refine ⟨trivial, (callsIn_wide.2 HLEN.out).mono ?_⟩
          rintro e w' ⟨rfl, rfl⟩
          gi_wp2_with fail
          refine ⟨trivial, (callsIn_wide.2 HSL.out).mono ?_⟩
          rintro e w6 ⟨rfl, hf6⟩
          have i1' := HI1.out.frm hf6 (by simp)
          have hp := (tPieces (i1'.frm (Frm.refl [] w6).drew (by simp))).mono (R' := fun e w' => e = .returned (.int .i64 np4) ∧ w' = w6.drew) (fun e w' h => ⟨h.1, h.2.symm⟩)
          have he := (tEdits (i1'.frm (Frm.refl [] w6).drew (by simp))).mono (R' := fun e w' => e = .returned (.int .i64 ed) ∧ w' = w6.drew) (fun e w' h => ⟨h.1, h.2.symm⟩)
          have hwh := whole2 w6.drew x fp4 ⟨T.toArray⟩ 2000 ed np4 _ (i1'.frm (Frm.refl [] w6).drew (by simp)) (by omega)
          have c9' := hf6.cell c9 (by simp)
          have c10' := hf6.cell c10 (by simp)
          have hK6 := hf6.heap HK2.out (by simp)
          have HP := Lib.hid hp
          have HE := Lib.hid he
          have HWH := Lib.hid hwh
          have HF6 := Lib.hid (HI4.out.trans hf6 (by simp))
          have HK6 := Lib.hid hK6
          have mixed : Try.prog.follows .mixedOrders = true := by kernel_rfl
          clear i1' hp he hwh c9 c10 hf6 hK6
          gi_wp2_with fail
          refine wpIn_region_tail wide_wide 15 mixed (by kernel_rfl) (by kernel_rfl) ?_
          simp only [List.take_succ_cons, List.take_zero, List.drop_succ_cons, List.drop_zero]
          repeat still_step
          still_call HP.out
          repeat still_step
          still_call HE.out
          repeat still_step
          refine wpStill_nil ?_
          gi_wp2_with fail
          refine ⟨trivial, (callsIn_wide.2 HWH.out).mono ?_⟩
          rintro e w7 ⟨rfl, hf7⟩
          have HK7 := Lib.hid ((hf7.ofDrew).heap HK6.out (by simp))
          have HF7 := Lib.hid (HF6.out.trans hf7.ofDrew (by simp))
          clear hf7
          gi_wp2_with fail
          have h3 := HS3.out
          refine ⟨by simp, .inl ⟨_, _, rfl, run_takeDeferred HK7.out, ?_⟩⟩
          exact ⟨.bool true, by simp [results, Try.results8, go_sem], rfl, HF7.out.putObj (.inr (by omega)) _⟩
        case hstop =>
          rintro D c j X hD hjl ⟨rfl, rfl, i1, i2, i3, i4, i5⟩ hK
          have h3 := HS3.out
          rw [List.length_map, HXL.out] at hjl
          obtain ⟨q, hq, hq2⟩ : ∃ q : Nat, (j : Int) + 1 = (q : Int) ∧ q ≤ np4 := ⟨j + 1, by omega, by omega⟩
          rw [hq] at i2 i3
          have hm1 : ¬ np4 < q := by omega
          clear h3 hq
          gi_wp2_with fail
          have hlen := tLen i1
          have hsl := tSlice i1 0 T.length (by omega) (by omega)
          rw [List.drop_zero, List.take_length] at hsl
          have c9 := cell_of_heap (i := 0) i2 rfl
          have c10 : X.cell? ⟨w4.heap.size + 1 + 1, 0, none⟩ = some (.int .i64 (q : Int)) := cell_of_heap (i := 0) i3 rfl
          have HLEN := Lib.hid hlen
          have HSL := Lib.hid hsl
          have HI1 := Lib.hid i1
          have HI4 := Lib.hid i4
          have HK2 := Lib.hid hK
          clear hlen hsl i1 i2 i3 i4 hK
          gi_wp2_with fail
          refine ⟨trivial, (callsIn_wide.2 HLEN.out).mono ?_⟩
          rintro e w' ⟨rfl, rfl⟩
          gi_wp2_with fail
          refine ⟨trivial, (callsIn_wide.2 HSL.out).mono ?_⟩
          rintro e w6 ⟨rfl, hf6⟩
          have i1' := HI1.out.frm hf6 (by simp)
          have hp := (tPieces (i1'.frm (Frm.refl [] w6).drew (by simp))).mono (R' := fun e w' => e = .returned (.int .i64 np4) ∧ w' = w6.drew) (fun e w' h => ⟨h.1, h.2.symm⟩)
          have he := (tEdits (i1'.frm (Frm.refl [] w6).drew (by simp))).mono (R' := fun e w' => e = .returned (.int .i64 ed) ∧ w' = w6.drew) (fun e w' h => ⟨h.1, h.2.symm⟩)
          have hwh := whole2 w6.drew x fp4 ⟨T.toArray⟩ 2000 ed np4 _ (i1'.frm (Frm.refl [] w6).drew (by simp)) (by omega)
          have c9' := hf6.cell c9 (by simp)
          have c10' := hf6.cell c10 (by simp)
          have hK6 := hf6.heap HK2.out (by simp)
          have HP := Lib.hid hp
          have HE := Lib.hid he
          have HWH := Lib.hid hwh
          have HF6 := Lib.hid (HI4.out.trans hf6 (by simp))
          have HK6 := Lib.hid hK6
          have mixed : Try.prog.follows .mixedOrders = true := by kernel_rfl
          clear i1' hp he hwh c9 c10 hf6 hK6
          gi_wp2_with fail
          refine wpIn_region_tail wide_wide 15 mixed (by kernel_rfl) (by kernel_rfl) ?_
          simp only [List.take_succ_cons, List.take_zero, List.drop_succ_cons, List.drop_zero]
          repeat still_step
          still_call HP.out
          repeat still_step
          still_call HE.out
          repeat still_step
          refine wpStill_nil ?_
          gi_wp2_with fail
          refine ⟨trivial, (callsIn_wide.2 HWH.out).mono ?_⟩
          rintro e w7 ⟨rfl, hf7⟩
          have HK7 := Lib.hid ((hf7.ofDrew).heap HK6.out (by simp))
          have HF7 := Lib.hid (HF6.out.trans hf7.ofDrew (by simp))
          clear hf7
          gi_wp2_with fail
          have h3 := HS3.out
          refine ⟨by simp, .inl ⟨_, _, rfl, run_takeDeferred HK7.out, ?_⟩⟩
          exact ⟨.bool true, by simp [results, Try.results8, go_sem], rfl, HF7.out.putObj (.inr (by omega)) _⟩
  · have hgt : (12 : Int) < (len : Int) := by omega
    clear ha
    refine callsIn_wide.1 (callsIn_of_wp_marks (n := 3) Try.func8 rfl trivial ?_ rfl)
    simp only [Try.ntmps8, List.size_toArray, List.length_cons, List.length_nil, Nat.reduceAdd, Nat.reduceSub, Array.replicate_succ, Array.replicate_zero, List.push_toArray, List.append_toArray, List.nil_append, List.cons_append]
    gi_wp2_with fail
    refine ⟨trivial, (callsIn_wide.2 hk).mono ?_⟩
    rintro e w1 ⟨rfl, hf1⟩
    clear hk
    gi_wp2_with fail
    exact ⟨.bool true, by simp [results, Try.results8, go_sem], rfl, hf1⟩

end Go.Proofs.Ytnajkjgjeiodmaa
