/-
  CONTRACT OF piece.Table.Slice. Conditions: texts of fewer than 2^30 bytes.
-/
import Derived.Test.YtnajkjgjeiodmaaGreatDoorDel
namespace Go.Proofs.YtnajkjgjeiodmaaGreatDoor.Pp
open Go.RowKit
open Go.Proofs (Tryz.prog)

attribute [local go_sem] Oper.semAt_some

/-- What has been collected of a text of which so much has been gone through. -/
def colO (off n : Nat) (T : List UInt8) : List UInt8 := (T.take (off + n)).drop off
theorem colO_append (off n : Nat) (A B : List UInt8) : colO off n (A ++ B) = colO off n A ++ (B.take (off + n - A.length)).drop (off - A.length) := by
  unfold colO
  rw [List.take_append, List.drop_append]
  congr 1
  by_cases h : A.length ≤ off + n
  · rw [List.length_take, Nat.min_eq_right h]
  · rw [show off + n - A.length = 0 by omega]
    simp
theorem colO_all (off n : Nat) (T : List UInt8) : colO off n T = (T.drop off).take n := by
  unfold colO
  rw [List.drop_take]
  congr 1
  omega
theorem ownsRow_ext {w w' : World} {base e size n bs : Nat} {v : Value} {cs : List Value} (h : w.ownsRow base e size v n cs) (hE : Ext bs w w') : w'.ownsRow base e size v n cs := by
  refine ownsRow_heap h (fun b o hb ho => ?_)
  rcases h.2 with ⟨rfl, _⟩ | ⟨g, c, cur, rfl, _, hg, _⟩
  · simp [Value.ownBlock] at hb
  · obtain rfl : g = b := by simpa [Value.ownBlock] using hb
    rw [hg] at ho
    cases ho
    exact hE.cells hg

theorem convert_own {w : World} {base : Nat} {v : Value} {l : List UInt8} (h : w.ownsRow base 5 1 v l.length (l.map encB)) : (convert 37 9 v).run Tryz.prog w = .ok (.string ⟨l.toArray⟩) w := by
  rcases h.2 with ⟨rfl, h0⟩ | ⟨g, c, cur, rfl, _, hg, _⟩
  · obtain rfl : l = [] := List.eq_nil_of_length_eq_zero h0
    rw [run_convert_bytes_string w 37 9 5 none 0 0 Tryz.underlying37 Tryz.underlying5 Tryz.underlying9]
    rfl
  · refine run_convert_bytes_back (P := Tryz.prog) w 37 9 5 ⟨g, 0, none⟩ c l Tryz.underlying37 Tryz.underlying5 Tryz.underlying9 (fun j hj => ?_)
    exact h.cells (g := g) rfl j _ (by simp [hj, encB])

/-- What holds between two rounds of Slice's loop. -/
def SlcI (w : World) (N x : Nat) (fp : List Nat) (f : ByteArray) (a : List UInt8) (ps : List Pc) (size most edits : Int) (off n k : Nat) (W : World) : Prop :=
  Raw W x fp f a ps size most edits ∧ W.heap[w.heap.size]? = some (.cells #[.pointer (some ⟨x, 0, none⟩)] 54 (0, 0)) ∧ W.heap[w.heap.size + 1]? = some (.cells #[.int .i64 off] 3 (0, 0)) ∧ W.heap[w.heap.size + 2]? = some (.cells #[.int .i64 n] 3 (0, 0)) ∧
    W.heap[w.heap.size + 4]? = some (.cells #[.int .i64 ((told f.data.toList a (ps.take k)).length : Nat)] 3 (0, 0)) ∧
    (∃ ov, W.heap[w.heap.size + 3]? = some (.cells #[ov] 37 (0, 0)) ∧ W.ownsRow 0 5 1 ov (colO off n (told f.data.toList a (ps.take k))).length ((colO off n (told f.data.toList a (ps.take k))).map encB) ∧ ∀ q, ov.ownBlock = some q → N ≤ q) ∧ Frm [] w W ∧ N ≤ W.heap.size
theorem SlcI.ext {w : World} {N x : Nat} {fp : List Nat} {f : ByteArray} {a : List UInt8} {ps : List Pc} {size most edits : Int} {off n k : Nat} {X Y : World} (h : SlcI w N x fp f a ps size most edits off n k X) (hE : Ext N X Y) (hs : w.heap.size ≤ N) : SlcI w N x fp f a ps size most edits off n k Y := by
  obtain ⟨i1, i2, i3, i4, i5, ⟨ov, i6, i7, i8⟩, i9, i10⟩ := h
  exact ⟨i1.ext hE, hE.cells i2, hE.cells i3, hE.cells i4, hE.cells i5, ⟨ov, hE.cells i6, ownsRow_ext i7 hE, i8⟩, i9.ext hE hs, Nat.le_trans i10 hE.size⟩
theorem SlcI.skip {w : World} {N x : Nat} {fp : List Nat} {f : ByteArray} {a : List UInt8} {ps : List Pc} {size most edits : Int} {off n k : Nat} {X Y : World} {v : Int} (h : SlcI w N x fp f a ps size most edits off n k X) (hN : w.heap.size + 5 ≤ N) (hfp : ∀ b ∈ fp, b < w.heap.size)
    (hf : Frm [w.heap.size + 4] X Y) (hc : Y.heap[w.heap.size + 4]? = some (.cells #[.int .i64 v] 3 (0, 0))) (hv : (((told f.data.toList a (ps.take (k + 1))).length : Nat) : Int) = v) (he : colO off n (told f.data.toList a (ps.take (k + 1))) = colO off n (told f.data.toList a (ps.take k))) :
    SlcI w N x fp f a ps size most edits off n (k + 1) Y := by
  obtain ⟨i1, i2, i3, i4, i5, ⟨ov, i6, i7, i8⟩, i9, i10⟩ := h
  refine ⟨i1.frm hf (fun b hb hm => ?_), hf.heap i2 (by simp), hf.heap i3 (by simp), hf.heap i4 (by simp), by rw [hv]; exact hc, ⟨ov, hf.heap i6 (by simp), ?_, i8⟩, i9.trans hf (fun b hb => .inr ?_), Nat.le_trans i10 hf.size⟩
  · have := hfp b hb
    simp at hm
    omega
  · rw [he]
    exact ownsRow_heap i7 (fun b o hb ho => hf.heap ho (fun hm => by
      have := i8 b hb
      simp at hm
      omega))
  · simp at hb
    omega
theorem SlcI.add {w : World} {N x : Nat} {fp : List Nat} {f : ByteArray} {a : List UInt8} {ps : List Pc} {size most edits : Int} {off n k : Nat} {X Y : World} {v : Int} {v' : Value} {S : List Nat} (h : SlcI w N x fp f a ps size most edits off n k X) (hN : w.heap.size + 5 ≤ N) (hfp : ∀ b ∈ fp, b < w.heap.size)
    (hS : ∀ b ∈ S, N ≤ b) (hf : Frm ((w.heap.size + 3) :: (w.heap.size + 4) :: S) X Y) (hc : Y.heap[w.heap.size + 4]? = some (.cells #[.int .i64 v] 3 (0, 0))) (hv : (((told f.data.toList a (ps.take (k + 1))).length : Nat) : Int) = v)
    (ho : Y.heap[w.heap.size + 3]? = some (.cells #[v'] 37 (0, 0))) (hr : Y.ownsRow 0 5 1 v' (colO off n (told f.data.toList a (ps.take (k + 1)))).length ((colO off n (told f.data.toList a (ps.take (k + 1)))).map encB)) (hb : ∀ q, v'.ownBlock = some q → N ≤ q) :
    SlcI w N x fp f a ps size most edits off n (k + 1) Y := by
  obtain ⟨i1, i2, i3, i4, i5, -, i9, i10⟩ := h
  have hn : ∀ b, b < w.heap.size + 3 → b ∉ (w.heap.size + 3) :: (w.heap.size + 4) :: S := fun b hb hm => by
    rcases List.mem_cons.1 hm with rfl | hm
    · omega
    · rcases List.mem_cons.1 hm with rfl | hm
      · omega
      · have := hS b hm
        omega
  refine ⟨i1.frm hf (fun b hb => hn b (by have := hfp b hb; omega)), hf.heap i2 (hn _ (by omega)), hf.heap i3 (hn _ (by omega)), hf.heap i4 (hn _ (by omega)), by rw [hv]; exact hc, ⟨v', ho, hr, hb⟩, i9.trans hf (fun b hb => .inr ?_), Nat.le_trans i10 hf.size⟩
  rcases List.mem_cons.1 hb with rfl | hm
  · omega
  · rcases List.mem_cons.1 hm with rfl | hm
    · omega
    · have := hS b hm
      omega

set_option maxHeartbeats 800000 in
theorem tblSlice_place (w : World) (x : Nat) (fp : List Nat) (f : ByteArray) (a : List UInt8) (ps : List Pc) (size : Nat) (most edits : Int) (h : Raw w x fp f a ps size most edits) (off n : Int) (hno : ¬ (0 ≤ off ∧ 0 ≤ n ∧ off ≤ size ∧ n ≤ size - off)) (hs : size ≤ 1073741824) :
    Calls Tryz.prog 38 #[.pointer (some ⟨x, 0, none⟩), .int .i64 off, .int .i64 n] w fun e w' => e = .returned (.tuple #[.string ⟨#[]⟩, .int .i64 20]) ∧ Frm [] w w' := by
  have hfr : Frm [] w (((w.alloc (.cells #[.pointer (some ⟨x, 0, none⟩)] 54)).alloc (.cells #[.int .i64 off] 3)).alloc (.cells #[.int .i64 n] 3)) := (((Frm.refl _ w).alloc _).alloc _).alloc _
  have hr := tblReaches_no _ x fp f a ps size most edits (h.frm hfr (by simp)) off n hno (by omega) (by omega)
  have hxl := h.lt x h.mem
  have HF := Lib.hid hfr
  clear h hno hfr
  go_enter Tryz.func38, Tryz.ntmps38
  go_wp2_with fail
  refine hr.mono ?_
  rintro e w' ⟨rfl, rfl⟩
  clear hr
  go_wp2_with fail
  go_ret2
  exact ⟨rfl, HF.out⟩

set_option maxRecDepth 100000 in
set_option maxHeartbeats 4000000 in
theorem tblSlice (w : World) (x : Nat) (fp : List Nat) (f : ByteArray) (a : List UInt8) (ps : List Pc) (size : Nat) (most edits : Int) (off n : Nat) (h : Raw w x fp f a ps size most edits) (hok : ∀ p ∈ ps, Okp f.data.toList a p) (hT : (told f.data.toList a ps).length = size) (hin : off + n ≤ size)
    (hf : f.size ≤ 1073741824) (ha : a.length ≤ 1073741824) (hn : ps.length ≤ 1073741824) (ht : size ≤ 1073741824) :
    Calls Tryz.prog 38 #[.pointer (some ⟨x, 0, none⟩), .int .i64 off, .int .i64 n] w fun e w' => e = .returned (.tuple #[.string ⟨(colO off n (told f.data.toList a ps)).toArray⟩, .int .i64 0]) ∧ Frm [] w w' := by
  have hxl := h.lt x h.mem
  have H := Lib.hid h
  obtain ⟨W00, hW00⟩ : ∃ W0, W0 = ((w.alloc (.cells #[.pointer (some ⟨x, 0, none⟩)] 54)).alloc (.cells #[.int .i64 off] 3)).alloc (.cells #[.int .i64 n] 3) := ⟨_, rfl⟩
  have hF00 : Frm [] w W00 := by rw [hW00]; exact (((Frm.refl _ w).alloc _).alloc _).alloc _
  have hr := tblReaches_yes W00 x fp f a ps size most edits (h.frm hF00 (by simp)) off n (by omega) (by omega) (by omega) (by omega) (by omega)
  obtain ⟨av, p, fv, hx, hrow, hv, hFP⟩ := h
  obtain ⟨W0, hW0⟩ : ∃ W0, W0 = (W00.alloc (.cells #[.slice none 0 0] 37)).alloc (.cells #[.int .i64 0] 3) := ⟨_, rfl⟩
  have hF0 : Frm [] w W0 := by rw [hW0]; exact (hF00.alloc _).alloc _
  have hs00 : W00.heap.size = w.heap.size + 3 := by rw [hW00]; simp
  have hb2 : W00.heap[w.heap.size]? = some (.cells #[.pointer (some ⟨x, 0, none⟩)] 54 (0, 0)) := by
    rw [hW00, heap_alloc_below _ (by simp; try omega), heap_alloc_below _ (by simp)]; exact heap_alloc_at w _
  have hb3 : W00.heap[w.heap.size + 1]? = some (.cells #[.int .i64 off] 3 (0, 0)) := by
    rw [hW00, heap_alloc_below _ (by simp)]
    have := heap_alloc_at (w.alloc (.cells #[.pointer (some ⟨x, 0, none⟩)] 54)) (.cells #[.int .i64 off] 3)
    rwa [World.size_alloc] at this
  have hb4 : W00.heap[w.heap.size + 2]? = some (.cells #[.int .i64 n] 3 (0, 0)) := by
    rw [hW00]
    have := heap_alloc_at ((w.alloc (.cells #[.pointer (some ⟨x, 0, none⟩)] 54)).alloc (.cells #[.int .i64 off] 3)) (.cells #[.int .i64 n] 3)
    rwa [World.size_alloc, World.size_alloc] at this
  have hE0 : Frm [] W00 W0 := by rw [hW0]; exact ((Frm.refl _ W00).alloc _).alloc _
  replace hb2 := hE0.heap hb2 (by simp)
  replace hb3 := hE0.heap hb3 (by simp)
  replace hb4 := hE0.heap hb4 (by simp)
  have hb5 : W0.heap[w.heap.size + 3]? = some (.cells #[.slice none 0 0] 37 (0, 0)) := by
    rw [hW0, ← hs00, heap_alloc_below _ (by simp)]; exact heap_alloc_at W00 _
  have hb6 : W0.heap[w.heap.size + 4]? = some (.cells #[.int .i64 0] 3 (0, 0)) := by
    have := heap_alloc_at (W00.alloc (.cells #[.slice none 0 0] 37)) (.cells #[.int .i64 0] 3)
    rw [World.size_alloc, hs00] at this
    rw [hW0]; exact this
  have hx0 := hF0.heap hx (by simp)
  have hv0 := hv.frm hF0 (by simp)
  have hall := vecAllP W0 p fv ps hv0 (by omega)
  have hcell0 := cell_of_heap (i := 2) hx0 rfl
  have hcell2 := cell_of_heap (i := 0) hb2 rfl
  subst hW0
  subst hW00
  have HALL := Lib.hid hall
  have HR := Lib.hid hr
  have HB2 := Lib.hid hb2
  have HB3 := Lib.hid hb3
  have HB4 := Lib.hid hb4
  have HB5 := Lib.hid hb5
  have HB6 := Lib.hid hb6
  have HF0 := Lib.hid hF0
  have HOK := Lib.hid hok
  have HT := Lib.hid hT
  clear hFP hall hb2 hb3 hb4 hb5 hb6 hF0 hx0 hv0 hx hrow hv hok hr hF00 hs00 hE0 hT
  refine callsIn_wide.1 (callsIn_of_wp_marks (n := 3) Tryz.func38 rfl trivial ?_ rfl)
  simp only [Tryz.ntmps38, List.size_toArray, List.length_cons, List.length_nil, Nat.reduceAdd, Nat.reduceSub, Array.replicate_succ, Array.replicate_zero, List.push_toArray, List.append_toArray, List.nil_append, List.cons_append]
  gi_wp2_with fail
  refine ⟨trivial, (callsIn_wide.2 HR.out).mono ?_⟩
  rintro e w' ⟨rfl, rfl⟩
  gi_wp2_with fail
  refine ⟨trivial, (callsIn_wide.2 HALL.out).mono ?_⟩
  rintro e w1 ⟨Bs, L, rfl, hit, hf1, hL, -⟩
  have hB2 := hf1.heap HB2.out (by simp)
  have hB3 := hf1.heap HB3.out (by simp)
  have hB4 := hf1.heap HB4.out (by simp)
  have hB5 := hf1.heap HB5.out (by simp)
  have hB6 := hf1.heap HB6.out (by simp)
  have hF1 : Frm [] w w1 := HF0.out.trans hf1 (by simp)
  have hR1 := H.out.frm hF1 (by simp)
  have hsz1 := hF1.size
  have hszT := hf1.size
  simp only [World.size_alloc] at hszT hL
  have HL := Lib.hid hL
  have HIT := Lib.hid hit
  clear hf1 hcell0 hcell2 hL hit
  gi_wp2_with fail
  refine wp_range (gf := 99) (lb := #[.pointer (some ⟨Bs, 0, none⟩)]) rfl (enters_of Tryz.func99 (by kernel_rfl) rfl) HIT.out Keep.trans (Keep.putObj (fun b hb => (HL.out b hb).2)) ?hps
    (SlcI w w1.heap.size x fp f a ps size most edits off n)
    (fun _ _ _ => False) ?hI (fun _ _ _ _ h _ => h) ?h0 ?hround ?hdone ?hstop
  case hps =>
    intro z hz
    obtain ⟨k, hk⟩ := List.mem_iff_getElem?.1 hz
    obtain ⟨s, _, rfl⟩ := elemsP_inv hk
    rfl
  case hI => exact fun k X Y h hE => h.ext hE hsz1
  case h0 => exact ⟨hR1, hB2, hB3, hB4, by simpa [told] using hB6, ⟨_, hB5, by simpa [told, colO] using World.ownsRow_nil w1 0 5 1, by simp [Value.ownBlock]⟩, hF1, Nat.le_refl _⟩
  case hround =>
    rintro l k z W hl hz hI K' hK'
    have hsW : w1.heap.size ≤ W.heap.size := hI.2.2.2.2.2.2.2
    obtain ⟨⟨b, o, m⟩, hp, rfl⟩ := elemsP_inv hz
    clear hz
    gi_wp2_with fail
    refine hK' _ _ (KeepsFrom.frm ((Frm.refl [] W).alloc _) (by simp)) (Keep.frm ((Frm.refl [] W).alloc _) (fun b hb => ⟨by have := (HL.out b hb).2; omega, by simp⟩)) ?_
    intro w2 hE2 hs2
    have hE : Ext w1.heap.size W w2 := ((Ext.refl _ W).alloc _).trans hE2
    have hq2 : w2.heap[W.heap.size]? = some (.cells #[.bool b, .int .i64 o, .int .i64 m] 87 (0, 0)) := hE2.cells (heap_alloc_at W _)
    have hI2 := hI.ext hE hsz1
    have HI2 := Lib.hid hI2
    obtain ⟨j1, j2, j3, j4, j5, ⟨ov, j6, j7, i8⟩, j9, j10⟩ := hI2
    have i8 : ∀ q, ov.ownBlock = some q → w1.heap.size ≤ q ∧ q ≠ W.heap.size := fun q hq => ⟨i8 q hq, fun e => ownsRow_type j7 hq2 (by decide) (by rw [hq, e])⟩
    have hovF := ownsRow_form j7
    have HI8 := Lib.hid i8
    clear hI hE hE2 hs2 hK' i8
    have hkl := (List.getElem?_eq_some_iff.1 hp).1
    have hpo := HOK.out _ (List.mem_of_getElem? hp)
    obtain ⟨M, rfl⟩ : ∃ M : Nat, m = (M : Int) := Int.eq_ofNat_of_zero_le (Int.le_of_lt hpo.2.1)
    have htn := told_next f.data.toList a ps k _ hp
    have htl := txt_length hpo
    have hsum : (told f.data.toList a (ps.take (k + 1))).length = (told f.data.toList a (ps.take k)).length + (txt f.data.toList a (b, o, (M : Int))).length := by rw [htn, List.length_append]
    have hcol := colO_append off n (told f.data.toList a (ps.take k)) (txt f.data.toList a (b, o, (M : Int)))
    rw [← htn] at hcol
    simp only at htl
    have hle : (told f.data.toList a (ps.take (k + 1))).length ≤ size := by
      have := told_split f.data.toList a ps (k + 1)
      rw [← HT.out, this, List.length_append]
      omega
    have c2 := cell_of_heap (i := 0) j2 rfl
    have c3 := cell_of_heap (i := 0) j3 rfl
    have c4 : w2.cell? ⟨w.heap.size + 1 + 1, 0, none⟩ = some (.int .i64 n) := cell_of_heap (i := 0) j4 rfl
    have c5 : w2.cell? ⟨w.heap.size + 1 + 1 + 1 + 1, 0, none⟩ = some (.int .i64 ((told f.data.toList a (ps.take k)).length : Nat)) := cell_of_heap (i := 0) j5 rfl
    have c6 : w2.cell? ⟨w.heap.size + 1 + 1 + 1, 0, none⟩ = some ov := cell_of_heap (i := 0) j6 rfl
    have z5 : w2.frozen? ⟨w.heap.size + 1 + 1 + 1 + 1, 0, none⟩ = false := frozen_of_heap 0 j5
    have z6 : w2.frozen? ⟨w.heap.size + 1 + 1 + 1, 0, none⟩ = false := frozen_of_heap 0 j6
    have q0 := cell_of_heap (i := 0) hq2 rfl
    have q1 := cell_of_heap (i := 1) hq2 rfl
    have q2 := cell_of_heap (i := 2) hq2 rfl
    have HSUM := Lib.hid hsum
    have HJ1 := Lib.hid j1
    have HJ2 := Lib.hid j2
    have HJ3 := Lib.hid j3
    have HJ4 := Lib.hid j4
    have HJ5 := Lib.hid j5
    have HJ6 := Lib.hid j6
    have HJ7 := Lib.hid j7
    have HJ9 := Lib.hid j9
    have HQ := Lib.hid hq2
    have hfpl := H.out.lt
    have HFPL := Lib.hid hfpl
    have hat2 : (((told f.data.toList a (ps.take (k + 1))).length : Nat) : Int) = ((told f.data.toList a (ps.take k)).length : Nat) + (M : Int) := by omega
    have HAT2 := Lib.hid hat2
    have hn0 : 0 < M := by have := hpo.2.1; simp only at this; omega
    have hn1 : M ≤ 1073741824 := by omega
    have HPO := Lib.hid hpo
    have HCOL := Lib.hid hcol
    obtain ⟨B, hB⟩ : ∃ B, B = txt f.data.toList a (b, o, (M : Int)) := ⟨_, rfl⟩
    have hBl : (B.length : Int) = (M : Int) := by rw [hB]; exact htl
    have HBE := Lib.hid hB
    have HBL := Lib.hid hBl
    clear j1 j2 j3 j4 j5 j6 j7 j9 hq2 htn htl hsum hfpl hat2 hpo hp hcol hB hBl
    generalize hAT : (told f.data.toList a (ps.take k)).length = AT at *
    have hat3 : AT + M ≤ 1073741824 := by have := HAT2.out; omega
    have hwm : IntKind.i64.wrap ((AT : Int) + (M : Int)) = (AT : Int) + (M : Int) := by rw [IntKind.wrap_i64]; omega
    have hwo : IntKind.i64.wrap ((off : Int) + (n : Int)) = (off : Int) + (n : Int) := by rw [IntKind.wrap_i64]; omega
    have mixed : Tryz.prog.follows .mixedOrders = true := by kernel_rfl
    by_cases hA : off < AT
    · by_cases hBc : AT + M < off + n
      · have hB2 : (AT : Int) + (M : Int) < (off : Int) + (n : Int) := by omega
        have hlt : AT < AT + M := by omega
        have hlt2 : (AT : Int) < ((AT : Int) + (M : Int)) := by omega
        have hext : B.length = M := by have := HBL.out; omega
        have hbs : (⟨B.toArray⟩ : ByteArray).size = M := by show B.toArray.size = M; simpa using hext
        have hx1 : ((AT : Int) - (AT : Int)).toNat = AT - AT := by omega
        have hx2 : (((AT : Int) + (M : Int)) - (AT : Int)).toNat = AT + M - AT := by omega
        have hw1 : IntKind.i64.wrap ((AT : Int) - (AT : Int)) = (AT : Int) - (AT : Int) := by rw [IntKind.wrap_i64]; omega
        have hw2 : IntKind.i64.wrap (((AT : Int) + (M : Int)) - (AT : Int)) = ((AT : Int) + (M : Int)) - (AT : Int) := by rw [IntKind.wrap_i64]; omega
        have hg1 : (0 : Int) ≤ (AT : Int) - (AT : Int) := by omega
        have hg2 : (AT : Int) - (AT : Int) ≤ ((AT : Int) + (M : Int)) - (AT : Int) := by omega
        have hg3 : ((AT : Int) + (M : Int)) - (AT : Int) ≤ (M : Int) := by omega
        have HEXT := Lib.hid hext
        have HBS := Lib.hid hbs
        obtain ⟨E, hE⟩ : ∃ E : ByteArray, E = ((⟨B.toArray⟩ : ByteArray).extract (AT - AT) (AT + M - AT)) := ⟨_, rfl⟩
        have HE := Lib.hid hE
        clear hext hbs hE
        gi_wp2_with fail
        refine wpIn_region_tail (wide_round l) 12 mixed (by kernel_rfl) (by kernel_rfl) ?_
        simp only [List.take_succ_cons, List.take_zero, List.drop_succ_cons, List.drop_zero]
        repeat still_step
        refine wpStill_nil ?_
        gi_wp2_with fail
        refine wpIn_region_vals (size := 58) (mk := 3) (wide_round l) 11 (fun i => [ov, Value.pointer (some ⟨x, 0, none⟩), .agg #[.bool b, .int .i64 o, .int .i64 (M : Int)], .string ⟨B.toArray⟩, .int .i64 (AT : Int), .int .i64 (AT : Int), .int .i64 ((AT : Int) - (AT : Int)), .int .i64 ((AT : Int) + (M : Int)), .int .i64 (AT : Int), .int .i64 (((AT : Int) + (M : Int)) - (AT : Int)), .string E].getD i undef)
          (fun w' => Frm [] w2 w') mixed (by kernel_rfl) (by kernel_rfl) (by decide) (by kernel_rfl) (by kernel_rfl) (by kernel_rfl) (by kernel_rfl) rfl (by decide) ?hrun ?hrunk ?htail
        case hrun =>
          intro ix hi hne op hop a' w' ht hw'
          have hF : Frm [] w2 w' := by
            rcases hw' with rfl | hC
            · exact (Frm.refl _ _).drew.drew
            · exact hC
          have k2 := hF.cell c2 (by simp)
          have k5 := hF.cell c5 (by simp)
          have k6 := hF.cell c6 (by simp)
          have kq0 := hF.cell q0 (by simp)
          have kq1 := hF.cell q1 (by simp)
          have kq2 := hF.cell q2 (by simp)
          rcases (by omega : ix = 0 ∨ ix = 1 ∨ ix = 2 ∨ ix = 4 ∨ ix = 5 ∨ ix = 6 ∨ ix = 7 ∨ ix = 8 ∨ ix = 9 ∨ ix = 10) with rfl | rfl | rfl | rfl | rfl | rfl | rfl | rfl | rfl | rfl
          all_goals obtain rfl := Option.some.inj hop
          · have h1 := ht.free 8 (by kernel_rfl)
            simp [execOp, go_sem, Act.eval, h1, k6]
          · have h1 := ht.free 3 (by kernel_rfl)
            simp [execOp, go_sem, Act.eval, h1, k2]
          · have h1 := ht.free 11 (by kernel_rfl)
            simp [execOp, go_sem, Act.eval, h1, kq0, kq1, kq2]
          · have h1 := ht.free 12 (by kernel_rfl)
            simp [execOp, go_sem, Act.eval, h1]
          · have h1 := ht.free 9 (by kernel_rfl)
            simp [execOp, go_sem, Act.eval, h1, k5]
          · have h1 := ht.dep 4 44 (by kernel_rfl) rfl
            have h2 := ht.dep 5 45 (by kernel_rfl) rfl
            simp [execOp, go_sem, Act.eval, h1, h2, hw1]
            try rfl
          · have h1 := ht.free 13 (by kernel_rfl)
            simp [execOp, go_sem, Act.eval, h1]
          · have h1 := ht.free 9 (by kernel_rfl)
            simp [execOp, go_sem, Act.eval, h1, k5]
          · have h1 := ht.dep 7 47 (by kernel_rfl) rfl
            have h2 := ht.dep 8 48 (by kernel_rfl) rfl
            simp [execOp, go_sem, Act.eval, h1, h2, hw2]
            try rfl
          · rw [HE.out]; exact ex_slice_str (P := Tryz.prog) ⟨B.toArray⟩ _ _ _ _ (ht.dep 3 43 (by kernel_rfl) rfl) (ht.dep 6 46 (by kernel_rfl) rfl) (ht.dep 9 49 (by kernel_rfl) rfl) Tryz.underlying9 (by omega) (by omega) (by omega) (by rw [HBS.out]; omega)
        case hrunk =>
          intro op hop a' ht
          obtain rfl := Option.some.inj hop
          have h1 := ht.dep 1 41 (by kernel_rfl) rfl
          have h2 := ht.dep 2 42 (by kernel_rfl) rfl
          right
          refine ⟨62, #[.pointer (some ⟨x, 0, none⟩), .agg #[.bool b, .int .i64 o, .int .i64 (M : Int)]], ?_, ?_⟩
          · simp [execOp, go_sem, Act.eval, h1, h2]
          · refine (tblText w2.drew.drew x fp f a ps size most edits (HJ1.out.frm (Frm.refl [] w2).drew.drew (by simp)) (b, o, (M : Int)) HPO.out (by omega) (by omega)).mono ?_
            rintro e w3 ⟨rfl, hf3⟩
            exact ⟨by rw [HBE.out]; rfl, hf3.ofDrew.ofDrew⟩
        case htail =>
          intro w3 hF3
          have hrow3 := ownsRow_heap HJ7.out (fun b o _ ho => hF3.heap ho (by simp))
          have h63 := hF3.heap HJ6.out (by simp)
          have z63 : w3.frozen? ⟨w.heap.size + 1 + 1 + 1, 0, none⟩ = false := frozen_of_heap 0 h63
          have hxs : E.data.toList = (B.take (off + n - AT)).drop (off - AT) := by
            rw [HE.out, Lib.extract_eq]
            have e1 : AT - AT = off - AT := by omega
            have hBL := HEXT.out
            simp only [List.drop_take, e1]
            all_goals first
            | rfl
            | (congr 1; omega)
            | (rw [List.take_of_length_le (by rw [List.length_drop]; omega), List.take_of_length_le (by rw [List.length_drop]; omega)])
          have hcl : (colO off n (told f.data.toList a (ps.take k))).length ≤ 1073741824 := by
            unfold colO
            rw [List.length_drop, List.length_take]
            omega
          have hextl : E.size ≤ 1073741824 := by
            rw [HE.out, ByteArray.size_extract]
            omega
          obtain ⟨i0, hi0, hz0, hz1, hz2⟩ := info_parts infoU8
          have hovb : ∀ q, ov.ownBlock = some q → w1.heap.size ≤ q ∧ q ≠ W.heap.size := HI8.out
          obtain ⟨oa, oc, rfl, _, _⟩ := hovF
          have k5 := hF3.cell c5 (by simp)
          have kq2 := hF3.cell q2 (by simp)
          have h53 := hF3.heap HJ5.out (by simp)
          have HOW := Lib.hid hrow3
          have H63 := Lib.hid h63
          have H53 := Lib.hid h53
          have HF3 := Lib.hid hF3
          have HXS := Lib.hid hxs
          have HOVB := Lib.hid hovb
          have hs3 := hF3.size
          clear hrow3 h63 h53 hF3 hxs hovb
          simp only [List.take_succ_cons, List.take_zero, List.drop_succ_cons, List.drop_zero, putAll, Act.put, Nat.reduceAdd, List.getD_cons_succ, List.getD_cons_zero]
          refine wpListIn_append_str_row rfl (.tmp 40) (.tmp 50) 37 9 rfl 0 5 i0 Tryz.underlying37 Tryz.underlying9 hi0 hz0 hz1 hz2 (.slice oa (colO off n (told f.data.toList a (ps.take k))).length oc) _ _ (by simp [Act.eval]) HOW.out E (by simp [Act.eval]) (by unfold maxLen; omega) (by omega) (Nat.zero_le _) ?_
          intro v4 w4 hown4 hf4 hb4 hnil4
          have hnb : ∀ q, q < w1.heap.size ∨ q = W.heap.size → q ∉ (Value.slice oa (colO off n (told f.data.toList a (ps.take k))).length oc).ownBlock.toList := fun q hq hm => by
            have := HOVB.out q (by simpa using hm)
            omega
          have h64 := hf4.heap H63.out (hnb _ (.inl (by omega)))
          have h54 := hf4.heap H53.out (hnb _ (.inl (by omega)))
          have c64 := cell_of_heap (i := 0) h64 rfl
          have z64 : w4.frozen? ⟨w.heap.size + 1 + 1 + 1, 0, none⟩ = false := frozen_of_heap 0 h64
          have c54 : w4.cell? ⟨w.heap.size + 1 + 1 + 1 + 1, 0, none⟩ = some (.int .i64 (AT : Int)) := cell_of_heap (i := 0) h54 rfl
          have z54 : w4.frozen? ⟨w.heap.size + 1 + 1 + 1 + 1, 0, none⟩ = false := frozen_of_heap 0 h54
          have q24 := hf4.cell kq2 (hnb _ (.inr rfl))
          obtain ⟨a4, c4', rfl, _, _⟩ := ownsRow_form hown4
          have HO4 := Lib.hid hown4
          have HF4 := Lib.hid hf4
          have HB4' := Lib.hid hb4
          have H64 := Lib.hid h64
          have H54 := Lib.hid h54
          clear hown4 hf4 hb4 hnil4 hnb h64 h54 k5 kq2
          gi_wp2_with fail
          have hf4' := HF4.out
          have hfA : Frm ((w.heap.size + 3) :: (w.heap.size + 4) :: (Value.slice oa (colO off n (told f.data.toList a (ps.take k))).length oc).ownBlock.toList) w2 ((w4.setCell ⟨w.heap.size + 1 + 1 + 1, 0, none⟩ (.slice a4 ((colO off n (told f.data.toList a (ps.take k))).length + E.size) c4')).setCell ⟨w.heap.size + 1 + 1 + 1 + 1, 0, none⟩ (.int .i64 ((AT : Int) + (M : Int)))) :=
            (((HF3.out.mono (by simp)).trans hf4' (fun q hq => .inl (List.mem_cons_of_mem _ (List.mem_cons_of_mem _ hq)))).setCell (.inl (by simp)) _).setCell (.inl (by simp)) _
          have hfB : Frm [w.heap.size + 3, w.heap.size + 4] w4 ((w4.setCell ⟨w.heap.size + 1 + 1 + 1, 0, none⟩ (.slice a4 ((colO off n (told f.data.toList a (ps.take k))).length + E.size) c4')).setCell ⟨w.heap.size + 1 + 1 + 1 + 1, 0, none⟩ (.int .i64 ((AT : Int) + (M : Int)))) :=
            ((Frm.refl _ w4).setCell (.inl (by simp)) _).setCell (.inl (by simp)) _
          have hSb : ∀ b ∈ (Value.slice oa (colO off n (told f.data.toList a (ps.take k))).length oc).ownBlock.toList, w1.heap.size ≤ b := fun b hb => (HOVB.out b (by simpa using hb)).1
          have he : colO off n (told f.data.toList a (ps.take (k + 1))) = colO off n (told f.data.toList a (ps.take k)) ++ E.data.toList := by rw [HXS.out, HCOL.out, ← HBE.out]
          have hnb4 : ∀ q, (Value.slice a4 ((colO off n (told f.data.toList a (ps.take k))).length + E.size) c4').ownBlock = some q → w1.heap.size ≤ q := fun q hq => by
            rcases HB4'.out q hq with h | h
            · exact (HOVB.out q h.symm).1
            · omega
          have hl2 : (colO off n (told f.data.toList a (ps.take (k + 1)))).length = (colO off n (told f.data.toList a (ps.take k))).length + E.size := by rw [he, List.length_append]; rfl
          have hown5 : w4.ownsRow 0 5 1 (.slice a4 ((colO off n (told f.data.toList a (ps.take k))).length + E.size) c4') (colO off n (told f.data.toList a (ps.take (k + 1)))).length ((colO off n (told f.data.toList a (ps.take (k + 1)))).map encB) := by
            have := HO4.out
            rw [strCells_eq, ← List.map_append, ← he] at this
            rw [hl2]
            exact this
          have hcA := heap_set_at (i := 0) (.slice a4 ((colO off n (told f.data.toList a (ps.take k))).length + E.size) c4') H64.out
          have hcB := heap_set_at (i := 0) (.int .i64 ((AT : Int) + (M : Int))) ((heap_set_other (w := w4) (a := ⟨w.heap.size + 1 + 1 + 1, 0, none⟩) (.slice a4 ((colO off n (told f.data.toList a (ps.take k))).length + E.size) c4') (b := w.heap.size + 4) (by simp)).trans H54.out)
          refine ⟨KeepsFrom.frm hfA (fun b hb => ?_), Keep.frm hfA (fun b hb => ⟨by have := (HL.out b hb).2; omega, fun hm => ?_⟩), HI2.out.add (by omega) HFPL.out hSb hfA (by simpa using hcB) HAT2.out ?_ (ownsRow_heap hown5 (fun b o hb ho => hfB.heap ho (fun hm => ?_))) hnb4⟩
          · rcases List.mem_cons.1 hb with rfl | hb
            · exact .inl (by omega)
            · rcases List.mem_cons.1 hb with rfl | hb
              · exact .inl (by omega)
              · right
                rcases HJ7.out.2 with ⟨h, _⟩ | ⟨g, c, cur, h, _, hg, _⟩
                · rw [h] at hb
                  simp [Value.ownBlock] at hb
                · rw [h] at hb
                  obtain rfl : b = g := by simpa [Value.ownBlock] using hb
                  exact ⟨_, _, _, hg⟩
          · have hLb := HL.out b hb
            rcases List.mem_cons.1 hm with rfl | hm
            · omega
            · rcases List.mem_cons.1 hm with rfl | hm
              · omega
              · have := hSb b hm
                omega
          · rw [heap_set_other _ (by simp)]
            exact hcA
          · rcases List.mem_cons.1 hm with rfl | hm
            · exact absurd (hnb4 _ hb) (by omega)
            · obtain rfl : b = w.heap.size + 4 := by simpa using hm
              exact absurd (hnb4 _ hb) (by omega)
      · have hB2 : ¬ (AT : Int) + (M : Int) < (off : Int) + (n : Int) := by omega
        by_cases hlt : AT < off + n
        · have hlt2 : (AT : Int) < ((off : Int) + (n : Int)) := by omega
          have hext : B.length = M := by have := HBL.out; omega
          have hbs : (⟨B.toArray⟩ : ByteArray).size = M := by show B.toArray.size = M; simpa using hext
          have hx1 : ((AT : Int) - (AT : Int)).toNat = AT - AT := by omega
          have hx2 : (((off : Int) + (n : Int)) - (AT : Int)).toNat = off + n - AT := by omega
          have hw1 : IntKind.i64.wrap ((AT : Int) - (AT : Int)) = (AT : Int) - (AT : Int) := by rw [IntKind.wrap_i64]; omega
          have hw2 : IntKind.i64.wrap (((off : Int) + (n : Int)) - (AT : Int)) = ((off : Int) + (n : Int)) - (AT : Int) := by rw [IntKind.wrap_i64]; omega
          have hg1 : (0 : Int) ≤ (AT : Int) - (AT : Int) := by omega
          have hg2 : (AT : Int) - (AT : Int) ≤ ((off : Int) + (n : Int)) - (AT : Int) := by omega
          have hg3 : ((off : Int) + (n : Int)) - (AT : Int) ≤ (M : Int) := by omega
          have HEXT := Lib.hid hext
          have HBS := Lib.hid hbs
          obtain ⟨E, hE⟩ : ∃ E : ByteArray, E = ((⟨B.toArray⟩ : ByteArray).extract (AT - AT) (off + n - AT)) := ⟨_, rfl⟩
          have HE := Lib.hid hE
          clear hext hbs hE
          gi_wp2_with fail
          refine wpIn_region_tail (wide_round l) 12 mixed (by kernel_rfl) (by kernel_rfl) ?_
          simp only [List.take_succ_cons, List.take_zero, List.drop_succ_cons, List.drop_zero]
          repeat still_step
          refine wpStill_nil ?_
          gi_wp2_with fail
          refine wpIn_region_vals (size := 58) (mk := 3) (wide_round l) 11 (fun i => [ov, Value.pointer (some ⟨x, 0, none⟩), .agg #[.bool b, .int .i64 o, .int .i64 (M : Int)], .string ⟨B.toArray⟩, .int .i64 (AT : Int), .int .i64 (AT : Int), .int .i64 ((AT : Int) - (AT : Int)), .int .i64 ((off : Int) + (n : Int)), .int .i64 (AT : Int), .int .i64 (((off : Int) + (n : Int)) - (AT : Int)), .string E].getD i undef)
            (fun w' => Frm [] w2 w') mixed (by kernel_rfl) (by kernel_rfl) (by decide) (by kernel_rfl) (by kernel_rfl) (by kernel_rfl) (by kernel_rfl) rfl (by decide) ?hrun ?hrunk ?htail
          case hrun =>
            intro ix hi hne op hop a' w' ht hw'
            have hF : Frm [] w2 w' := by
              rcases hw' with rfl | hC
              · exact (Frm.refl _ _).drew.drew
              · exact hC
            have k2 := hF.cell c2 (by simp)
            have k5 := hF.cell c5 (by simp)
            have k6 := hF.cell c6 (by simp)
            have kq0 := hF.cell q0 (by simp)
            have kq1 := hF.cell q1 (by simp)
            have kq2 := hF.cell q2 (by simp)
            rcases (by omega : ix = 0 ∨ ix = 1 ∨ ix = 2 ∨ ix = 4 ∨ ix = 5 ∨ ix = 6 ∨ ix = 7 ∨ ix = 8 ∨ ix = 9 ∨ ix = 10) with rfl | rfl | rfl | rfl | rfl | rfl | rfl | rfl | rfl | rfl
            all_goals obtain rfl := Option.some.inj hop
            · have h1 := ht.free 8 (by kernel_rfl)
              simp [execOp, go_sem, Act.eval, h1, k6]
            · have h1 := ht.free 3 (by kernel_rfl)
              simp [execOp, go_sem, Act.eval, h1, k2]
            · have h1 := ht.free 11 (by kernel_rfl)
              simp [execOp, go_sem, Act.eval, h1, kq0, kq1, kq2]
            · have h1 := ht.free 12 (by kernel_rfl)
              simp [execOp, go_sem, Act.eval, h1]
            · have h1 := ht.free 9 (by kernel_rfl)
              simp [execOp, go_sem, Act.eval, h1, k5]
            · have h1 := ht.dep 4 44 (by kernel_rfl) rfl
              have h2 := ht.dep 5 45 (by kernel_rfl) rfl
              simp [execOp, go_sem, Act.eval, h1, h2, hw1]
              try rfl
            · have h1 := ht.free 13 (by kernel_rfl)
              simp [execOp, go_sem, Act.eval, h1]
            · have h1 := ht.free 9 (by kernel_rfl)
              simp [execOp, go_sem, Act.eval, h1, k5]
            · have h1 := ht.dep 7 47 (by kernel_rfl) rfl
              have h2 := ht.dep 8 48 (by kernel_rfl) rfl
              simp [execOp, go_sem, Act.eval, h1, h2, hw2]
              try rfl
            · rw [HE.out]; exact ex_slice_str (P := Tryz.prog) ⟨B.toArray⟩ _ _ _ _ (ht.dep 3 43 (by kernel_rfl) rfl) (ht.dep 6 46 (by kernel_rfl) rfl) (ht.dep 9 49 (by kernel_rfl) rfl) Tryz.underlying9 (by omega) (by omega) (by omega) (by rw [HBS.out]; omega)
          case hrunk =>
            intro op hop a' ht
            obtain rfl := Option.some.inj hop
            have h1 := ht.dep 1 41 (by kernel_rfl) rfl
            have h2 := ht.dep 2 42 (by kernel_rfl) rfl
            right
            refine ⟨62, #[.pointer (some ⟨x, 0, none⟩), .agg #[.bool b, .int .i64 o, .int .i64 (M : Int)]], ?_, ?_⟩
            · simp [execOp, go_sem, Act.eval, h1, h2]
            · refine (tblText w2.drew.drew x fp f a ps size most edits (HJ1.out.frm (Frm.refl [] w2).drew.drew (by simp)) (b, o, (M : Int)) HPO.out (by omega) (by omega)).mono ?_
              rintro e w3 ⟨rfl, hf3⟩
              exact ⟨by rw [HBE.out]; rfl, hf3.ofDrew.ofDrew⟩
          case htail =>
            intro w3 hF3
            have hrow3 := ownsRow_heap HJ7.out (fun b o _ ho => hF3.heap ho (by simp))
            have h63 := hF3.heap HJ6.out (by simp)
            have z63 : w3.frozen? ⟨w.heap.size + 1 + 1 + 1, 0, none⟩ = false := frozen_of_heap 0 h63
            have hxs : E.data.toList = (B.take (off + n - AT)).drop (off - AT) := by
              rw [HE.out, Lib.extract_eq]
              have e1 : AT - AT = off - AT := by omega
              have hBL := HEXT.out
              simp only [List.drop_take, e1]
              all_goals first
              | rfl
              | (congr 1; omega)
              | (rw [List.take_of_length_le (by rw [List.length_drop]; omega), List.take_of_length_le (by rw [List.length_drop]; omega)])
            have hcl : (colO off n (told f.data.toList a (ps.take k))).length ≤ 1073741824 := by
              unfold colO
              rw [List.length_drop, List.length_take]
              omega
            have hextl : E.size ≤ 1073741824 := by
              rw [HE.out, ByteArray.size_extract]
              omega
            obtain ⟨i0, hi0, hz0, hz1, hz2⟩ := info_parts infoU8
            have hovb : ∀ q, ov.ownBlock = some q → w1.heap.size ≤ q ∧ q ≠ W.heap.size := HI8.out
            obtain ⟨oa, oc, rfl, _, _⟩ := hovF
            have k5 := hF3.cell c5 (by simp)
            have kq2 := hF3.cell q2 (by simp)
            have h53 := hF3.heap HJ5.out (by simp)
            have HOW := Lib.hid hrow3
            have H63 := Lib.hid h63
            have H53 := Lib.hid h53
            have HF3 := Lib.hid hF3
            have HXS := Lib.hid hxs
            have HOVB := Lib.hid hovb
            have hs3 := hF3.size
            clear hrow3 h63 h53 hF3 hxs hovb
            simp only [List.take_succ_cons, List.take_zero, List.drop_succ_cons, List.drop_zero, putAll, Act.put, Nat.reduceAdd, List.getD_cons_succ, List.getD_cons_zero]
            refine wpListIn_append_str_row rfl (.tmp 40) (.tmp 50) 37 9 rfl 0 5 i0 Tryz.underlying37 Tryz.underlying9 hi0 hz0 hz1 hz2 (.slice oa (colO off n (told f.data.toList a (ps.take k))).length oc) _ _ (by simp [Act.eval]) HOW.out E (by simp [Act.eval]) (by unfold maxLen; omega) (by omega) (Nat.zero_le _) ?_
            intro v4 w4 hown4 hf4 hb4 hnil4
            have hnb : ∀ q, q < w1.heap.size ∨ q = W.heap.size → q ∉ (Value.slice oa (colO off n (told f.data.toList a (ps.take k))).length oc).ownBlock.toList := fun q hq hm => by
              have := HOVB.out q (by simpa using hm)
              omega
            have h64 := hf4.heap H63.out (hnb _ (.inl (by omega)))
            have h54 := hf4.heap H53.out (hnb _ (.inl (by omega)))
            have c64 := cell_of_heap (i := 0) h64 rfl
            have z64 : w4.frozen? ⟨w.heap.size + 1 + 1 + 1, 0, none⟩ = false := frozen_of_heap 0 h64
            have c54 : w4.cell? ⟨w.heap.size + 1 + 1 + 1 + 1, 0, none⟩ = some (.int .i64 (AT : Int)) := cell_of_heap (i := 0) h54 rfl
            have z54 : w4.frozen? ⟨w.heap.size + 1 + 1 + 1 + 1, 0, none⟩ = false := frozen_of_heap 0 h54
            have q24 := hf4.cell kq2 (hnb _ (.inr rfl))
            obtain ⟨a4, c4', rfl, _, _⟩ := ownsRow_form hown4
            have HO4 := Lib.hid hown4
            have HF4 := Lib.hid hf4
            have HB4' := Lib.hid hb4
            have H64 := Lib.hid h64
            have H54 := Lib.hid h54
            clear hown4 hf4 hb4 hnil4 hnb h64 h54 k5 kq2
            gi_wp2_with fail
            have hf4' := HF4.out
            have hfA : Frm ((w.heap.size + 3) :: (w.heap.size + 4) :: (Value.slice oa (colO off n (told f.data.toList a (ps.take k))).length oc).ownBlock.toList) w2 ((w4.setCell ⟨w.heap.size + 1 + 1 + 1, 0, none⟩ (.slice a4 ((colO off n (told f.data.toList a (ps.take k))).length + E.size) c4')).setCell ⟨w.heap.size + 1 + 1 + 1 + 1, 0, none⟩ (.int .i64 ((AT : Int) + (M : Int)))) :=
              (((HF3.out.mono (by simp)).trans hf4' (fun q hq => .inl (List.mem_cons_of_mem _ (List.mem_cons_of_mem _ hq)))).setCell (.inl (by simp)) _).setCell (.inl (by simp)) _
            have hfB : Frm [w.heap.size + 3, w.heap.size + 4] w4 ((w4.setCell ⟨w.heap.size + 1 + 1 + 1, 0, none⟩ (.slice a4 ((colO off n (told f.data.toList a (ps.take k))).length + E.size) c4')).setCell ⟨w.heap.size + 1 + 1 + 1 + 1, 0, none⟩ (.int .i64 ((AT : Int) + (M : Int)))) :=
              ((Frm.refl _ w4).setCell (.inl (by simp)) _).setCell (.inl (by simp)) _
            have hSb : ∀ b ∈ (Value.slice oa (colO off n (told f.data.toList a (ps.take k))).length oc).ownBlock.toList, w1.heap.size ≤ b := fun b hb => (HOVB.out b (by simpa using hb)).1
            have he : colO off n (told f.data.toList a (ps.take (k + 1))) = colO off n (told f.data.toList a (ps.take k)) ++ E.data.toList := by rw [HXS.out, HCOL.out, ← HBE.out]
            have hnb4 : ∀ q, (Value.slice a4 ((colO off n (told f.data.toList a (ps.take k))).length + E.size) c4').ownBlock = some q → w1.heap.size ≤ q := fun q hq => by
              rcases HB4'.out q hq with h | h
              · exact (HOVB.out q h.symm).1
              · omega
            have hl2 : (colO off n (told f.data.toList a (ps.take (k + 1)))).length = (colO off n (told f.data.toList a (ps.take k))).length + E.size := by rw [he, List.length_append]; rfl
            have hown5 : w4.ownsRow 0 5 1 (.slice a4 ((colO off n (told f.data.toList a (ps.take k))).length + E.size) c4') (colO off n (told f.data.toList a (ps.take (k + 1)))).length ((colO off n (told f.data.toList a (ps.take (k + 1)))).map encB) := by
              have := HO4.out
              rw [strCells_eq, ← List.map_append, ← he] at this
              rw [hl2]
              exact this
            have hcA := heap_set_at (i := 0) (.slice a4 ((colO off n (told f.data.toList a (ps.take k))).length + E.size) c4') H64.out
            have hcB := heap_set_at (i := 0) (.int .i64 ((AT : Int) + (M : Int))) ((heap_set_other (w := w4) (a := ⟨w.heap.size + 1 + 1 + 1, 0, none⟩) (.slice a4 ((colO off n (told f.data.toList a (ps.take k))).length + E.size) c4') (b := w.heap.size + 4) (by simp)).trans H54.out)
            refine ⟨KeepsFrom.frm hfA (fun b hb => ?_), Keep.frm hfA (fun b hb => ⟨by have := (HL.out b hb).2; omega, fun hm => ?_⟩), HI2.out.add (by omega) HFPL.out hSb hfA (by simpa using hcB) HAT2.out ?_ (ownsRow_heap hown5 (fun b o hb ho => hfB.heap ho (fun hm => ?_))) hnb4⟩
            · rcases List.mem_cons.1 hb with rfl | hb
              · exact .inl (by omega)
              · rcases List.mem_cons.1 hb with rfl | hb
                · exact .inl (by omega)
                · right
                  rcases HJ7.out.2 with ⟨h, _⟩ | ⟨g, c, cur, h, _, hg, _⟩
                  · rw [h] at hb
                    simp [Value.ownBlock] at hb
                  · rw [h] at hb
                    obtain rfl : b = g := by simpa [Value.ownBlock] using hb
                    exact ⟨_, _, _, hg⟩
            · have hLb := HL.out b hb
              rcases List.mem_cons.1 hm with rfl | hm
              · omega
              · rcases List.mem_cons.1 hm with rfl | hm
                · omega
                · have := hSb b hm
                  omega
            · rw [heap_set_other _ (by simp)]
              exact hcA
            · rcases List.mem_cons.1 hm with rfl | hm
              · exact absurd (hnb4 _ hb) (by omega)
              · obtain rfl : b = w.heap.size + 4 := by simpa using hm
                exact absurd (hnb4 _ hb) (by omega)
        · have hlt2 : ¬ (AT : Int) < ((off : Int) + (n : Int)) := by omega
          gi_wp2_with fail
          refine wpIn_region_tail (wide_round l) 12 mixed (by kernel_rfl) (by kernel_rfl) ?_
          simp only [List.take_succ_cons, List.take_zero, List.drop_succ_cons, List.drop_zero]
          repeat still_step
          refine wpStill_nil ?_
          gi_wp2_with fail
          have he : colO off n (told f.data.toList a (ps.take (k + 1))) = colO off n (told f.data.toList a (ps.take k)) := by
            rw [HCOL.out, ← HBE.out]
            have hnil : (B.take (off + n - AT)).drop (off - AT) = [] := List.drop_eq_nil_of_le (by have := HBL.out; rw [List.length_take]; omega)
            rw [hnil, List.append_nil]
          have hfs : Frm [w.heap.size + 4] w2 ((w2.setCell ⟨w.heap.size + 1 + 1 + 1 + 1, 0, none⟩ (.int .i64 ((AT : Int) + (M : Int)))).drew) := ((Frm.refl _ w2).setCell (.inl (by simp)) _).drew
          have hcl := heap_set_at (i := 0) (.int .i64 ((AT : Int) + (M : Int))) HJ5.out
          exact ⟨KeepsFrom.frm hfs (fun b hb => .inl (by simp at hb; omega)), Keep.frm hfs (fun b hb => ⟨by have := (HL.out b hb).2; omega, fun hm => by have := (HL.out b hb).1; simp at hm; omega⟩), HI2.out.skip (by omega) HFPL.out hfs hcl HAT2.out he⟩
    · by_cases hBc : AT + M < off + n
      · have hB2 : (AT : Int) + (M : Int) < (off : Int) + (n : Int) := by omega
        by_cases hlt : off < AT + M
        · have hlt2 : (off : Int) < ((AT : Int) + (M : Int)) := by omega
          have hext : B.length = M := by have := HBL.out; omega
          have hbs : (⟨B.toArray⟩ : ByteArray).size = M := by show B.toArray.size = M; simpa using hext
          have hx1 : ((off : Int) - (AT : Int)).toNat = off - AT := by omega
          have hx2 : (((AT : Int) + (M : Int)) - (AT : Int)).toNat = AT + M - AT := by omega
          have hw1 : IntKind.i64.wrap ((off : Int) - (AT : Int)) = (off : Int) - (AT : Int) := by rw [IntKind.wrap_i64]; omega
          have hw2 : IntKind.i64.wrap (((AT : Int) + (M : Int)) - (AT : Int)) = ((AT : Int) + (M : Int)) - (AT : Int) := by rw [IntKind.wrap_i64]; omega
          have hg1 : (0 : Int) ≤ (off : Int) - (AT : Int) := by omega
          have hg2 : (off : Int) - (AT : Int) ≤ ((AT : Int) + (M : Int)) - (AT : Int) := by omega
          have hg3 : ((AT : Int) + (M : Int)) - (AT : Int) ≤ (M : Int) := by omega
          have HEXT := Lib.hid hext
          have HBS := Lib.hid hbs
          obtain ⟨E, hE⟩ : ∃ E : ByteArray, E = ((⟨B.toArray⟩ : ByteArray).extract (off - AT) (AT + M - AT)) := ⟨_, rfl⟩
          have HE := Lib.hid hE
          clear hext hbs hE
          gi_wp2_with fail
          refine wpIn_region_tail (wide_round l) 12 mixed (by kernel_rfl) (by kernel_rfl) ?_
          simp only [List.take_succ_cons, List.take_zero, List.drop_succ_cons, List.drop_zero]
          repeat still_step
          refine wpStill_nil ?_
          gi_wp2_with fail
          refine wpIn_region_vals (size := 58) (mk := 3) (wide_round l) 11 (fun i => [ov, Value.pointer (some ⟨x, 0, none⟩), .agg #[.bool b, .int .i64 o, .int .i64 (M : Int)], .string ⟨B.toArray⟩, .int .i64 (off : Int), .int .i64 (AT : Int), .int .i64 ((off : Int) - (AT : Int)), .int .i64 ((AT : Int) + (M : Int)), .int .i64 (AT : Int), .int .i64 (((AT : Int) + (M : Int)) - (AT : Int)), .string E].getD i undef)
            (fun w' => Frm [] w2 w') mixed (by kernel_rfl) (by kernel_rfl) (by decide) (by kernel_rfl) (by kernel_rfl) (by kernel_rfl) (by kernel_rfl) rfl (by decide) ?hrun ?hrunk ?htail
          case hrun =>
            intro ix hi hne op hop a' w' ht hw'
            have hF : Frm [] w2 w' := by
              rcases hw' with rfl | hC
              · exact (Frm.refl _ _).drew.drew
              · exact hC
            have k2 := hF.cell c2 (by simp)
            have k5 := hF.cell c5 (by simp)
            have k6 := hF.cell c6 (by simp)
            have kq0 := hF.cell q0 (by simp)
            have kq1 := hF.cell q1 (by simp)
            have kq2 := hF.cell q2 (by simp)
            rcases (by omega : ix = 0 ∨ ix = 1 ∨ ix = 2 ∨ ix = 4 ∨ ix = 5 ∨ ix = 6 ∨ ix = 7 ∨ ix = 8 ∨ ix = 9 ∨ ix = 10) with rfl | rfl | rfl | rfl | rfl | rfl | rfl | rfl | rfl | rfl
            all_goals obtain rfl := Option.some.inj hop
            · have h1 := ht.free 8 (by kernel_rfl)
              simp [execOp, go_sem, Act.eval, h1, k6]
            · have h1 := ht.free 3 (by kernel_rfl)
              simp [execOp, go_sem, Act.eval, h1, k2]
            · have h1 := ht.free 11 (by kernel_rfl)
              simp [execOp, go_sem, Act.eval, h1, kq0, kq1, kq2]
            · have h1 := ht.free 12 (by kernel_rfl)
              simp [execOp, go_sem, Act.eval, h1]
            · have h1 := ht.free 9 (by kernel_rfl)
              simp [execOp, go_sem, Act.eval, h1, k5]
            · have h1 := ht.dep 4 44 (by kernel_rfl) rfl
              have h2 := ht.dep 5 45 (by kernel_rfl) rfl
              simp [execOp, go_sem, Act.eval, h1, h2, hw1]
              try rfl
            · have h1 := ht.free 13 (by kernel_rfl)
              simp [execOp, go_sem, Act.eval, h1]
            · have h1 := ht.free 9 (by kernel_rfl)
              simp [execOp, go_sem, Act.eval, h1, k5]
            · have h1 := ht.dep 7 47 (by kernel_rfl) rfl
              have h2 := ht.dep 8 48 (by kernel_rfl) rfl
              simp [execOp, go_sem, Act.eval, h1, h2, hw2]
              try rfl
            · rw [HE.out]; exact ex_slice_str (P := Tryz.prog) ⟨B.toArray⟩ _ _ _ _ (ht.dep 3 43 (by kernel_rfl) rfl) (ht.dep 6 46 (by kernel_rfl) rfl) (ht.dep 9 49 (by kernel_rfl) rfl) Tryz.underlying9 (by omega) (by omega) (by omega) (by rw [HBS.out]; omega)
          case hrunk =>
            intro op hop a' ht
            obtain rfl := Option.some.inj hop
            have h1 := ht.dep 1 41 (by kernel_rfl) rfl
            have h2 := ht.dep 2 42 (by kernel_rfl) rfl
            right
            refine ⟨62, #[.pointer (some ⟨x, 0, none⟩), .agg #[.bool b, .int .i64 o, .int .i64 (M : Int)]], ?_, ?_⟩
            · simp [execOp, go_sem, Act.eval, h1, h2]
            · refine (tblText w2.drew.drew x fp f a ps size most edits (HJ1.out.frm (Frm.refl [] w2).drew.drew (by simp)) (b, o, (M : Int)) HPO.out (by omega) (by omega)).mono ?_
              rintro e w3 ⟨rfl, hf3⟩
              exact ⟨by rw [HBE.out]; rfl, hf3.ofDrew.ofDrew⟩
          case htail =>
            intro w3 hF3
            have hrow3 := ownsRow_heap HJ7.out (fun b o _ ho => hF3.heap ho (by simp))
            have h63 := hF3.heap HJ6.out (by simp)
            have z63 : w3.frozen? ⟨w.heap.size + 1 + 1 + 1, 0, none⟩ = false := frozen_of_heap 0 h63
            have hxs : E.data.toList = (B.take (off + n - AT)).drop (off - AT) := by
              rw [HE.out, Lib.extract_eq]
              have e1 : off - AT = off - AT := by omega
              have hBL := HEXT.out
              simp only [List.drop_take, e1]
              all_goals first
              | rfl
              | (congr 1; omega)
              | (rw [List.take_of_length_le (by rw [List.length_drop]; omega), List.take_of_length_le (by rw [List.length_drop]; omega)])
            have hcl : (colO off n (told f.data.toList a (ps.take k))).length ≤ 1073741824 := by
              unfold colO
              rw [List.length_drop, List.length_take]
              omega
            have hextl : E.size ≤ 1073741824 := by
              rw [HE.out, ByteArray.size_extract]
              omega
            obtain ⟨i0, hi0, hz0, hz1, hz2⟩ := info_parts infoU8
            have hovb : ∀ q, ov.ownBlock = some q → w1.heap.size ≤ q ∧ q ≠ W.heap.size := HI8.out
            obtain ⟨oa, oc, rfl, _, _⟩ := hovF
            have k5 := hF3.cell c5 (by simp)
            have kq2 := hF3.cell q2 (by simp)
            have h53 := hF3.heap HJ5.out (by simp)
            have HOW := Lib.hid hrow3
            have H63 := Lib.hid h63
            have H53 := Lib.hid h53
            have HF3 := Lib.hid hF3
            have HXS := Lib.hid hxs
            have HOVB := Lib.hid hovb
            have hs3 := hF3.size
            clear hrow3 h63 h53 hF3 hxs hovb
            simp only [List.take_succ_cons, List.take_zero, List.drop_succ_cons, List.drop_zero, putAll, Act.put, Nat.reduceAdd, List.getD_cons_succ, List.getD_cons_zero]
            refine wpListIn_append_str_row rfl (.tmp 40) (.tmp 50) 37 9 rfl 0 5 i0 Tryz.underlying37 Tryz.underlying9 hi0 hz0 hz1 hz2 (.slice oa (colO off n (told f.data.toList a (ps.take k))).length oc) _ _ (by simp [Act.eval]) HOW.out E (by simp [Act.eval]) (by unfold maxLen; omega) (by omega) (Nat.zero_le _) ?_
            intro v4 w4 hown4 hf4 hb4 hnil4
            have hnb : ∀ q, q < w1.heap.size ∨ q = W.heap.size → q ∉ (Value.slice oa (colO off n (told f.data.toList a (ps.take k))).length oc).ownBlock.toList := fun q hq hm => by
              have := HOVB.out q (by simpa using hm)
              omega
            have h64 := hf4.heap H63.out (hnb _ (.inl (by omega)))
            have h54 := hf4.heap H53.out (hnb _ (.inl (by omega)))
            have c64 := cell_of_heap (i := 0) h64 rfl
            have z64 : w4.frozen? ⟨w.heap.size + 1 + 1 + 1, 0, none⟩ = false := frozen_of_heap 0 h64
            have c54 : w4.cell? ⟨w.heap.size + 1 + 1 + 1 + 1, 0, none⟩ = some (.int .i64 (AT : Int)) := cell_of_heap (i := 0) h54 rfl
            have z54 : w4.frozen? ⟨w.heap.size + 1 + 1 + 1 + 1, 0, none⟩ = false := frozen_of_heap 0 h54
            have q24 := hf4.cell kq2 (hnb _ (.inr rfl))
            obtain ⟨a4, c4', rfl, _, _⟩ := ownsRow_form hown4
            have HO4 := Lib.hid hown4
            have HF4 := Lib.hid hf4
            have HB4' := Lib.hid hb4
            have H64 := Lib.hid h64
            have H54 := Lib.hid h54
            clear hown4 hf4 hb4 hnil4 hnb h64 h54 k5 kq2
            gi_wp2_with fail
            have hf4' := HF4.out
            have hfA : Frm ((w.heap.size + 3) :: (w.heap.size + 4) :: (Value.slice oa (colO off n (told f.data.toList a (ps.take k))).length oc).ownBlock.toList) w2 ((w4.setCell ⟨w.heap.size + 1 + 1 + 1, 0, none⟩ (.slice a4 ((colO off n (told f.data.toList a (ps.take k))).length + E.size) c4')).setCell ⟨w.heap.size + 1 + 1 + 1 + 1, 0, none⟩ (.int .i64 ((AT : Int) + (M : Int)))) :=
              (((HF3.out.mono (by simp)).trans hf4' (fun q hq => .inl (List.mem_cons_of_mem _ (List.mem_cons_of_mem _ hq)))).setCell (.inl (by simp)) _).setCell (.inl (by simp)) _
            have hfB : Frm [w.heap.size + 3, w.heap.size + 4] w4 ((w4.setCell ⟨w.heap.size + 1 + 1 + 1, 0, none⟩ (.slice a4 ((colO off n (told f.data.toList a (ps.take k))).length + E.size) c4')).setCell ⟨w.heap.size + 1 + 1 + 1 + 1, 0, none⟩ (.int .i64 ((AT : Int) + (M : Int)))) :=
              ((Frm.refl _ w4).setCell (.inl (by simp)) _).setCell (.inl (by simp)) _
            have hSb : ∀ b ∈ (Value.slice oa (colO off n (told f.data.toList a (ps.take k))).length oc).ownBlock.toList, w1.heap.size ≤ b := fun b hb => (HOVB.out b (by simpa using hb)).1
            have he : colO off n (told f.data.toList a (ps.take (k + 1))) = colO off n (told f.data.toList a (ps.take k)) ++ E.data.toList := by rw [HXS.out, HCOL.out, ← HBE.out]
            have hnb4 : ∀ q, (Value.slice a4 ((colO off n (told f.data.toList a (ps.take k))).length + E.size) c4').ownBlock = some q → w1.heap.size ≤ q := fun q hq => by
              rcases HB4'.out q hq with h | h
              · exact (HOVB.out q h.symm).1
              · omega
            have hl2 : (colO off n (told f.data.toList a (ps.take (k + 1)))).length = (colO off n (told f.data.toList a (ps.take k))).length + E.size := by rw [he, List.length_append]; rfl
            have hown5 : w4.ownsRow 0 5 1 (.slice a4 ((colO off n (told f.data.toList a (ps.take k))).length + E.size) c4') (colO off n (told f.data.toList a (ps.take (k + 1)))).length ((colO off n (told f.data.toList a (ps.take (k + 1)))).map encB) := by
              have := HO4.out
              rw [strCells_eq, ← List.map_append, ← he] at this
              rw [hl2]
              exact this
            have hcA := heap_set_at (i := 0) (.slice a4 ((colO off n (told f.data.toList a (ps.take k))).length + E.size) c4') H64.out
            have hcB := heap_set_at (i := 0) (.int .i64 ((AT : Int) + (M : Int))) ((heap_set_other (w := w4) (a := ⟨w.heap.size + 1 + 1 + 1, 0, none⟩) (.slice a4 ((colO off n (told f.data.toList a (ps.take k))).length + E.size) c4') (b := w.heap.size + 4) (by simp)).trans H54.out)
            refine ⟨KeepsFrom.frm hfA (fun b hb => ?_), Keep.frm hfA (fun b hb => ⟨by have := (HL.out b hb).2; omega, fun hm => ?_⟩), HI2.out.add (by omega) HFPL.out hSb hfA (by simpa using hcB) HAT2.out ?_ (ownsRow_heap hown5 (fun b o hb ho => hfB.heap ho (fun hm => ?_))) hnb4⟩
            · rcases List.mem_cons.1 hb with rfl | hb
              · exact .inl (by omega)
              · rcases List.mem_cons.1 hb with rfl | hb
                · exact .inl (by omega)
                · right
                  rcases HJ7.out.2 with ⟨h, _⟩ | ⟨g, c, cur, h, _, hg, _⟩
                  · rw [h] at hb
                    simp [Value.ownBlock] at hb
                  · rw [h] at hb
                    obtain rfl : b = g := by simpa [Value.ownBlock] using hb
                    exact ⟨_, _, _, hg⟩
            · have hLb := HL.out b hb
              rcases List.mem_cons.1 hm with rfl | hm
              · omega
              · rcases List.mem_cons.1 hm with rfl | hm
                · omega
                · have := hSb b hm
                  omega
            · rw [heap_set_other _ (by simp)]
              exact hcA
            · rcases List.mem_cons.1 hm with rfl | hm
              · exact absurd (hnb4 _ hb) (by omega)
              · obtain rfl : b = w.heap.size + 4 := by simpa using hm
                exact absurd (hnb4 _ hb) (by omega)
        · have hlt2 : ¬ (off : Int) < ((AT : Int) + (M : Int)) := by omega
          gi_wp2_with fail
          refine wpIn_region_tail (wide_round l) 12 mixed (by kernel_rfl) (by kernel_rfl) ?_
          simp only [List.take_succ_cons, List.take_zero, List.drop_succ_cons, List.drop_zero]
          repeat still_step
          refine wpStill_nil ?_
          gi_wp2_with fail
          have he : colO off n (told f.data.toList a (ps.take (k + 1))) = colO off n (told f.data.toList a (ps.take k)) := by
            rw [HCOL.out, ← HBE.out]
            have hnil : (B.take (off + n - AT)).drop (off - AT) = [] := List.drop_eq_nil_of_le (by have := HBL.out; rw [List.length_take]; omega)
            rw [hnil, List.append_nil]
          have hfs : Frm [w.heap.size + 4] w2 ((w2.setCell ⟨w.heap.size + 1 + 1 + 1 + 1, 0, none⟩ (.int .i64 ((AT : Int) + (M : Int)))).drew) := ((Frm.refl _ w2).setCell (.inl (by simp)) _).drew
          have hcl := heap_set_at (i := 0) (.int .i64 ((AT : Int) + (M : Int))) HJ5.out
          exact ⟨KeepsFrom.frm hfs (fun b hb => .inl (by simp at hb; omega)), Keep.frm hfs (fun b hb => ⟨by have := (HL.out b hb).2; omega, fun hm => by have := (HL.out b hb).1; simp at hm; omega⟩), HI2.out.skip (by omega) HFPL.out hfs hcl HAT2.out he⟩
      · have hB2 : ¬ (AT : Int) + (M : Int) < (off : Int) + (n : Int) := by omega
        by_cases hlt : off < off + n
        · have hlt2 : (off : Int) < ((off : Int) + (n : Int)) := by omega
          have hext : B.length = M := by have := HBL.out; omega
          have hbs : (⟨B.toArray⟩ : ByteArray).size = M := by show B.toArray.size = M; simpa using hext
          have hx1 : ((off : Int) - (AT : Int)).toNat = off - AT := by omega
          have hx2 : (((off : Int) + (n : Int)) - (AT : Int)).toNat = off + n - AT := by omega
          have hw1 : IntKind.i64.wrap ((off : Int) - (AT : Int)) = (off : Int) - (AT : Int) := by rw [IntKind.wrap_i64]; omega
          have hw2 : IntKind.i64.wrap (((off : Int) + (n : Int)) - (AT : Int)) = ((off : Int) + (n : Int)) - (AT : Int) := by rw [IntKind.wrap_i64]; omega
          have hg1 : (0 : Int) ≤ (off : Int) - (AT : Int) := by omega
          have hg2 : (off : Int) - (AT : Int) ≤ ((off : Int) + (n : Int)) - (AT : Int) := by omega
          have hg3 : ((off : Int) + (n : Int)) - (AT : Int) ≤ (M : Int) := by omega
          have HEXT := Lib.hid hext
          have HBS := Lib.hid hbs
          obtain ⟨E, hE⟩ : ∃ E : ByteArray, E = ((⟨B.toArray⟩ : ByteArray).extract (off - AT) (off + n - AT)) := ⟨_, rfl⟩
          have HE := Lib.hid hE
          clear hext hbs hE
          gi_wp2_with fail
          refine wpIn_region_tail (wide_round l) 12 mixed (by kernel_rfl) (by kernel_rfl) ?_
          simp only [List.take_succ_cons, List.take_zero, List.drop_succ_cons, List.drop_zero]
          repeat still_step
          refine wpStill_nil ?_
          gi_wp2_with fail
          refine wpIn_region_vals (size := 58) (mk := 3) (wide_round l) 11 (fun i => [ov, Value.pointer (some ⟨x, 0, none⟩), .agg #[.bool b, .int .i64 o, .int .i64 (M : Int)], .string ⟨B.toArray⟩, .int .i64 (off : Int), .int .i64 (AT : Int), .int .i64 ((off : Int) - (AT : Int)), .int .i64 ((off : Int) + (n : Int)), .int .i64 (AT : Int), .int .i64 (((off : Int) + (n : Int)) - (AT : Int)), .string E].getD i undef)
            (fun w' => Frm [] w2 w') mixed (by kernel_rfl) (by kernel_rfl) (by decide) (by kernel_rfl) (by kernel_rfl) (by kernel_rfl) (by kernel_rfl) rfl (by decide) ?hrun ?hrunk ?htail
          case hrun =>
            intro ix hi hne op hop a' w' ht hw'
            have hF : Frm [] w2 w' := by
              rcases hw' with rfl | hC
              · exact (Frm.refl _ _).drew.drew
              · exact hC
            have k2 := hF.cell c2 (by simp)
            have k5 := hF.cell c5 (by simp)
            have k6 := hF.cell c6 (by simp)
            have kq0 := hF.cell q0 (by simp)
            have kq1 := hF.cell q1 (by simp)
            have kq2 := hF.cell q2 (by simp)
            rcases (by omega : ix = 0 ∨ ix = 1 ∨ ix = 2 ∨ ix = 4 ∨ ix = 5 ∨ ix = 6 ∨ ix = 7 ∨ ix = 8 ∨ ix = 9 ∨ ix = 10) with rfl | rfl | rfl | rfl | rfl | rfl | rfl | rfl | rfl | rfl
            all_goals obtain rfl := Option.some.inj hop
            · have h1 := ht.free 8 (by kernel_rfl)
              simp [execOp, go_sem, Act.eval, h1, k6]
            · have h1 := ht.free 3 (by kernel_rfl)
              simp [execOp, go_sem, Act.eval, h1, k2]
            · have h1 := ht.free 11 (by kernel_rfl)
              simp [execOp, go_sem, Act.eval, h1, kq0, kq1, kq2]
            · have h1 := ht.free 12 (by kernel_rfl)
              simp [execOp, go_sem, Act.eval, h1]
            · have h1 := ht.free 9 (by kernel_rfl)
              simp [execOp, go_sem, Act.eval, h1, k5]
            · have h1 := ht.dep 4 44 (by kernel_rfl) rfl
              have h2 := ht.dep 5 45 (by kernel_rfl) rfl
              simp [execOp, go_sem, Act.eval, h1, h2, hw1]
              try rfl
            · have h1 := ht.free 13 (by kernel_rfl)
              simp [execOp, go_sem, Act.eval, h1]
            · have h1 := ht.free 9 (by kernel_rfl)
              simp [execOp, go_sem, Act.eval, h1, k5]
            · have h1 := ht.dep 7 47 (by kernel_rfl) rfl
              have h2 := ht.dep 8 48 (by kernel_rfl) rfl
              simp [execOp, go_sem, Act.eval, h1, h2, hw2]
              try rfl
            · rw [HE.out]; exact ex_slice_str (P := Tryz.prog) ⟨B.toArray⟩ _ _ _ _ (ht.dep 3 43 (by kernel_rfl) rfl) (ht.dep 6 46 (by kernel_rfl) rfl) (ht.dep 9 49 (by kernel_rfl) rfl) Tryz.underlying9 (by omega) (by omega) (by omega) (by rw [HBS.out]; omega)
          case hrunk =>
            intro op hop a' ht
            obtain rfl := Option.some.inj hop
            have h1 := ht.dep 1 41 (by kernel_rfl) rfl
            have h2 := ht.dep 2 42 (by kernel_rfl) rfl
            right
            refine ⟨62, #[.pointer (some ⟨x, 0, none⟩), .agg #[.bool b, .int .i64 o, .int .i64 (M : Int)]], ?_, ?_⟩
            · simp [execOp, go_sem, Act.eval, h1, h2]
            · refine (tblText w2.drew.drew x fp f a ps size most edits (HJ1.out.frm (Frm.refl [] w2).drew.drew (by simp)) (b, o, (M : Int)) HPO.out (by omega) (by omega)).mono ?_
              rintro e w3 ⟨rfl, hf3⟩
              exact ⟨by rw [HBE.out]; rfl, hf3.ofDrew.ofDrew⟩
          case htail =>
            intro w3 hF3
            have hrow3 := ownsRow_heap HJ7.out (fun b o _ ho => hF3.heap ho (by simp))
            have h63 := hF3.heap HJ6.out (by simp)
            have z63 : w3.frozen? ⟨w.heap.size + 1 + 1 + 1, 0, none⟩ = false := frozen_of_heap 0 h63
            have hxs : E.data.toList = (B.take (off + n - AT)).drop (off - AT) := by
              rw [HE.out, Lib.extract_eq]
              have e1 : off - AT = off - AT := by omega
              have hBL := HEXT.out
              simp only [List.drop_take, e1]
              all_goals first
              | rfl
              | (congr 1; omega)
              | (rw [List.take_of_length_le (by rw [List.length_drop]; omega), List.take_of_length_le (by rw [List.length_drop]; omega)])
            have hcl : (colO off n (told f.data.toList a (ps.take k))).length ≤ 1073741824 := by
              unfold colO
              rw [List.length_drop, List.length_take]
              omega
            have hextl : E.size ≤ 1073741824 := by
              rw [HE.out, ByteArray.size_extract]
              omega
            obtain ⟨i0, hi0, hz0, hz1, hz2⟩ := info_parts infoU8
            have hovb : ∀ q, ov.ownBlock = some q → w1.heap.size ≤ q ∧ q ≠ W.heap.size := HI8.out
            obtain ⟨oa, oc, rfl, _, _⟩ := hovF
            have k5 := hF3.cell c5 (by simp)
            have kq2 := hF3.cell q2 (by simp)
            have h53 := hF3.heap HJ5.out (by simp)
            have HOW := Lib.hid hrow3
            have H63 := Lib.hid h63
            have H53 := Lib.hid h53
            have HF3 := Lib.hid hF3
            have HXS := Lib.hid hxs
            have HOVB := Lib.hid hovb
            have hs3 := hF3.size
            clear hrow3 h63 h53 hF3 hxs hovb
            simp only [List.take_succ_cons, List.take_zero, List.drop_succ_cons, List.drop_zero, putAll, Act.put, Nat.reduceAdd, List.getD_cons_succ, List.getD_cons_zero]
            refine wpListIn_append_str_row rfl (.tmp 40) (.tmp 50) 37 9 rfl 0 5 i0 Tryz.underlying37 Tryz.underlying9 hi0 hz0 hz1 hz2 (.slice oa (colO off n (told f.data.toList a (ps.take k))).length oc) _ _ (by simp [Act.eval]) HOW.out E (by simp [Act.eval]) (by unfold maxLen; omega) (by omega) (Nat.zero_le _) ?_
            intro v4 w4 hown4 hf4 hb4 hnil4
            have hnb : ∀ q, q < w1.heap.size ∨ q = W.heap.size → q ∉ (Value.slice oa (colO off n (told f.data.toList a (ps.take k))).length oc).ownBlock.toList := fun q hq hm => by
              have := HOVB.out q (by simpa using hm)
              omega
            have h64 := hf4.heap H63.out (hnb _ (.inl (by omega)))
            have h54 := hf4.heap H53.out (hnb _ (.inl (by omega)))
            have c64 := cell_of_heap (i := 0) h64 rfl
            have z64 : w4.frozen? ⟨w.heap.size + 1 + 1 + 1, 0, none⟩ = false := frozen_of_heap 0 h64
            have c54 : w4.cell? ⟨w.heap.size + 1 + 1 + 1 + 1, 0, none⟩ = some (.int .i64 (AT : Int)) := cell_of_heap (i := 0) h54 rfl
            have z54 : w4.frozen? ⟨w.heap.size + 1 + 1 + 1 + 1, 0, none⟩ = false := frozen_of_heap 0 h54
            have q24 := hf4.cell kq2 (hnb _ (.inr rfl))
            obtain ⟨a4, c4', rfl, _, _⟩ := ownsRow_form hown4
            have HO4 := Lib.hid hown4
            have HF4 := Lib.hid hf4
            have HB4' := Lib.hid hb4
            have H64 := Lib.hid h64
            have H54 := Lib.hid h54
            clear hown4 hf4 hb4 hnil4 hnb h64 h54 k5 kq2
            gi_wp2_with fail
            have hf4' := HF4.out
            have hfA : Frm ((w.heap.size + 3) :: (w.heap.size + 4) :: (Value.slice oa (colO off n (told f.data.toList a (ps.take k))).length oc).ownBlock.toList) w2 ((w4.setCell ⟨w.heap.size + 1 + 1 + 1, 0, none⟩ (.slice a4 ((colO off n (told f.data.toList a (ps.take k))).length + E.size) c4')).setCell ⟨w.heap.size + 1 + 1 + 1 + 1, 0, none⟩ (.int .i64 ((AT : Int) + (M : Int)))) :=
              (((HF3.out.mono (by simp)).trans hf4' (fun q hq => .inl (List.mem_cons_of_mem _ (List.mem_cons_of_mem _ hq)))).setCell (.inl (by simp)) _).setCell (.inl (by simp)) _
            have hfB : Frm [w.heap.size + 3, w.heap.size + 4] w4 ((w4.setCell ⟨w.heap.size + 1 + 1 + 1, 0, none⟩ (.slice a4 ((colO off n (told f.data.toList a (ps.take k))).length + E.size) c4')).setCell ⟨w.heap.size + 1 + 1 + 1 + 1, 0, none⟩ (.int .i64 ((AT : Int) + (M : Int)))) :=
              ((Frm.refl _ w4).setCell (.inl (by simp)) _).setCell (.inl (by simp)) _
            have hSb : ∀ b ∈ (Value.slice oa (colO off n (told f.data.toList a (ps.take k))).length oc).ownBlock.toList, w1.heap.size ≤ b := fun b hb => (HOVB.out b (by simpa using hb)).1
            have he : colO off n (told f.data.toList a (ps.take (k + 1))) = colO off n (told f.data.toList a (ps.take k)) ++ E.data.toList := by rw [HXS.out, HCOL.out, ← HBE.out]
            have hnb4 : ∀ q, (Value.slice a4 ((colO off n (told f.data.toList a (ps.take k))).length + E.size) c4').ownBlock = some q → w1.heap.size ≤ q := fun q hq => by
              rcases HB4'.out q hq with h | h
              · exact (HOVB.out q h.symm).1
              · omega
            have hl2 : (colO off n (told f.data.toList a (ps.take (k + 1)))).length = (colO off n (told f.data.toList a (ps.take k))).length + E.size := by rw [he, List.length_append]; rfl
            have hown5 : w4.ownsRow 0 5 1 (.slice a4 ((colO off n (told f.data.toList a (ps.take k))).length + E.size) c4') (colO off n (told f.data.toList a (ps.take (k + 1)))).length ((colO off n (told f.data.toList a (ps.take (k + 1)))).map encB) := by
              have := HO4.out
              rw [strCells_eq, ← List.map_append, ← he] at this
              rw [hl2]
              exact this
            have hcA := heap_set_at (i := 0) (.slice a4 ((colO off n (told f.data.toList a (ps.take k))).length + E.size) c4') H64.out
            have hcB := heap_set_at (i := 0) (.int .i64 ((AT : Int) + (M : Int))) ((heap_set_other (w := w4) (a := ⟨w.heap.size + 1 + 1 + 1, 0, none⟩) (.slice a4 ((colO off n (told f.data.toList a (ps.take k))).length + E.size) c4') (b := w.heap.size + 4) (by simp)).trans H54.out)
            refine ⟨KeepsFrom.frm hfA (fun b hb => ?_), Keep.frm hfA (fun b hb => ⟨by have := (HL.out b hb).2; omega, fun hm => ?_⟩), HI2.out.add (by omega) HFPL.out hSb hfA (by simpa using hcB) HAT2.out ?_ (ownsRow_heap hown5 (fun b o hb ho => hfB.heap ho (fun hm => ?_))) hnb4⟩
            · rcases List.mem_cons.1 hb with rfl | hb
              · exact .inl (by omega)
              · rcases List.mem_cons.1 hb with rfl | hb
                · exact .inl (by omega)
                · right
                  rcases HJ7.out.2 with ⟨h, _⟩ | ⟨g, c, cur, h, _, hg, _⟩
                  · rw [h] at hb
                    simp [Value.ownBlock] at hb
                  · rw [h] at hb
                    obtain rfl : b = g := by simpa [Value.ownBlock] using hb
                    exact ⟨_, _, _, hg⟩
            · have hLb := HL.out b hb
              rcases List.mem_cons.1 hm with rfl | hm
              · omega
              · rcases List.mem_cons.1 hm with rfl | hm
                · omega
                · have := hSb b hm
                  omega
            · rw [heap_set_other _ (by simp)]
              exact hcA
            · rcases List.mem_cons.1 hm with rfl | hm
              · exact absurd (hnb4 _ hb) (by omega)
              · obtain rfl : b = w.heap.size + 4 := by simpa using hm
                exact absurd (hnb4 _ hb) (by omega)
        · have hlt2 : ¬ (off : Int) < ((off : Int) + (n : Int)) := by omega
          gi_wp2_with fail
          refine wpIn_region_tail (wide_round l) 12 mixed (by kernel_rfl) (by kernel_rfl) ?_
          simp only [List.take_succ_cons, List.take_zero, List.drop_succ_cons, List.drop_zero]
          repeat still_step
          refine wpStill_nil ?_
          gi_wp2_with fail
          have he : colO off n (told f.data.toList a (ps.take (k + 1))) = colO off n (told f.data.toList a (ps.take k)) := by
            rw [HCOL.out, ← HBE.out]
            have hnil : (B.take (off + n - AT)).drop (off - AT) = [] := List.drop_eq_nil_of_le (by have := HBL.out; rw [List.length_take]; omega)
            rw [hnil, List.append_nil]
          have hfs : Frm [w.heap.size + 4] w2 ((w2.setCell ⟨w.heap.size + 1 + 1 + 1 + 1, 0, none⟩ (.int .i64 ((AT : Int) + (M : Int)))).drew) := ((Frm.refl _ w2).setCell (.inl (by simp)) _).drew
          have hcl := heap_set_at (i := 0) (.int .i64 ((AT : Int) + (M : Int))) HJ5.out
          exact ⟨KeepsFrom.frm hfs (fun b hb => .inl (by simp at hb; omega)), Keep.frm hfs (fun b hb => ⟨by have := (HL.out b hb).2; omega, fun hm => by have := (HL.out b hb).1; simp at hm; omega⟩), HI2.out.skip (by omega) HFPL.out hfs hcl HAT2.out he⟩
  case hdone =>
    rintro D W hD ⟨i1, i2, i3, i4, i5, ⟨ov, i6, i7, i8⟩, i9, i10⟩ hK
    rw [elemsP_length, List.take_length] at i7
    have hcv := convert_own i7
    have c6 : W.cell? ⟨w.heap.size + 1 + 1 + 1, 0, none⟩ = some ov := cell_of_heap (i := 0) i6 rfl
    have HI9 := Lib.hid i9
    have HK := Lib.hid hK
    clear i1 i2 i3 i4 i5 i6 i7 i8 i9 hK
    gi_wp2_with fail
    refine ⟨by simp, .inl ⟨_, _, rfl, run_takeDeferred HK.out, ?_⟩⟩
    exact ⟨.tuple #[.string ⟨(colO off n (told f.data.toList a ps)).toArray⟩, .int .i64 0], by simp [results, Tryz.results38, go_sem], rfl, HI9.out.putObj (.inr (by omega)) _⟩
  case hstop =>
    rintro D q k W _ _ h _
    exact h.elim

end Go.Proofs.YtnajkjgjeiodmaaGreatDoor.Pp
