/-
  CONTRACT OF piece.Table.cut: a place of the text becomes a place between two pieces. Conditions: fewer than 2^40 bytes and pieces.
-/
import Derived.Test.YtnajkjgjeiodmaaGreatDoorTxt
import Derived.Test.YtnajkjgjeiodmaaGreatDoorBase3
namespace Go.Proofs.YtnajkjgjeiodmaaGreatDoor.Pp
open Go.RowKit
open Go.Proofs (Tryz.prog)

attribute [local go_sem] Oper.semAt_some

/-- What cut leaves: the pieces fall in two at i, at this place of the text; at most one piece more. -/
def CutAt (f a : List UInt8) (ps ps' : List Pc) (off i : Nat) : Prop :=
  i ≤ ps'.length ∧ told f a (ps'.take i) = (told f a ps).take off ∧ told f a (ps'.drop i) = (told f a ps).drop off ∧ (∀ p ∈ ps', Okp f a p) ∧ ps'.length ≤ ps.length + 1 ∧
    ∀ m, (told f a (ps.take m)).length < off → m < i ∧ ps'.take m = ps.take m
theorem told_take_le (f a : List UInt8) (ps : List Pc) {m k : Nat} (h : m ≤ k) : (told f a (ps.take m)).length ≤ (told f a (ps.take k)).length := by
  obtain ⟨d, rfl⟩ : ∃ d, k = m + d := ⟨k - m, by omega⟩
  rw [List.take_add, told_append, List.length_append]
  omega
theorem cutAt_here {f a : List UInt8} {ps : List Pc} {off k : Nat} (hok : ∀ p ∈ ps, Okp f a p) (hk : k ≤ ps.length) (h : (told f a (ps.take k)).length = off) : CutAt f a ps ps off k := by
  obtain ⟨h1, h2⟩ := split_at (told_split f a ps k) h
  refine ⟨hk, h1, h2, hok, by omega, fun m hm => ⟨?_, rfl⟩⟩
  rcases Nat.lt_or_ge m k with h' | h'
  · exact h'
  · have := told_take_le f a ps h'
    omega
theorem cutAt_split {f a : List UInt8} {ps : List Pc} {off k : Nat} {b : Bool} {o n d : Int} (hok : ∀ p ∈ ps, Okp f a p) (hp : ps[k]? = some (b, o, n)) (h0 : 0 < d) (h1 : d < n) (h : ((told f a (ps.take k)).length : Int) + d = off) :
    CutAt f a ps ((ps.set k (b, o, d)).take (k + 1) ++ [(b, o + d, n - d)] ++ (ps.set k (b, o, d)).drop (k + 1)) off (k + 1) := by
  have hkl := (List.getElem?_eq_some_iff.1 hp).1
  have hpm := hok _ (List.mem_of_getElem? hp)
  obtain ⟨c1, c2, c3⟩ := cut_ok hpm h0 h1
  have ht : (ps.set k (b, o, d)).take (k + 1) = ps.take k ++ [(b, o, d)] := by
    rw [List.take_add_one, List.take_set_of_le (Nat.le_refl _)]
    simp [hkl]
  have hdr : (ps.set k (b, o, d)).drop (k + 1) = ps.drop (k + 1) := List.drop_set_of_lt (by omega)
  rw [ht, hdr]
  have hl : (ps.take k ++ [(b, o, d)]).length = k + 1 := by simp; omega
  have hA : (ps.take k ++ [(b, o, d)] ++ [(b, o + d, n - d)] ++ ps.drop (k + 1)).take (k + 1) = ps.take k ++ [(b, o, d)] := by
    rw [List.append_assoc, List.take_left' hl]
  have hB : (ps.take k ++ [(b, o, d)] ++ [(b, o + d, n - d)] ++ ps.drop (k + 1)).drop (k + 1) = [(b, o + d, n - d)] ++ ps.drop (k + 1) := by
    rw [List.append_assoc, List.drop_left' hl]
  have hT : told f a ps = told f a (ps.take k ++ [(b, o, d)]) ++ told f a ([(b, o + d, n - d)] ++ ps.drop (k + 1)) := by
    conv => lhs; rw [← List.take_append_drop k ps, List.drop_eq_getElem_cons hkl]
    have e : ps[k] = (b, o, n) := by
      have := List.getElem?_eq_getElem hkl
      rw [hp] at this
      exact (Option.some.inj this).symm
    rw [e]
    simp only [told_append, told_cons, told_nil, List.append_nil, List.append_assoc, ← c3]
  have hlen : (told f a (ps.take k ++ [(b, o, d)])).length = off := by
    have := txt_length c1
    simp only [told_append, told_cons, told_nil, List.append_nil, List.length_append]
    simp only at this
    omega
  obtain ⟨s1, s2⟩ := split_at hT hlen
  refine ⟨by simp; omega, by rw [hA]; exact s1, by rw [hB]; exact s2, ?_, by simp; omega, fun m hm => ?_⟩
  rotate_left
  · have hn1 := told_next f a ps k _ hp
    have hnl : (told f a (ps.take (k + 1))).length = (told f a (ps.take k)).length + (txt f a (b, o, n)).length := by rw [hn1, List.length_append]
    have htl := txt_length hpm
    simp only at htl
    have hmk : m ≤ k := by
      rcases Nat.lt_or_ge k m with h' | h'
      · have := told_take_le f a ps (show k + 1 ≤ m by omega)
        omega
      · exact h'
    refine ⟨by omega, ?_⟩
    rw [List.append_assoc, List.append_assoc, List.take_append_of_le_length (by simp; omega), List.take_take, Nat.min_eq_left hmk]
  intro p hp'
  simp only [List.mem_append, List.mem_cons, List.not_mem_nil, or_false] at hp'
  rcases hp' with ((h | rfl) | rfl) | h
  · exact hok _ (List.mem_of_mem_take h)
  · exact c1
  · exact c2
  · exact hok _ (List.mem_of_mem_drop h)

theorem Raw.ext {w w' : World} {x base : Nat} {fp : List Nat} {f : ByteArray} {a : List UInt8} {ps : List Pc} {size most edits : Int} (h : Raw w x fp f a ps size most edits) (hE : Ext base w w') : Raw w' x fp f a ps size most edits := by
  obtain ⟨av, p, fv, hx, hr, hv, rfl⟩ := h
  refine ⟨av, p, fv, hE.cells hx, ownsRow_heap hr (fun b o hb ho => ?_), hv.ext hE, rfl⟩
  rcases hr.2 with ⟨rfl, _⟩ | ⟨g, c, cur, rfl, _, hg, _⟩
  · simp [Value.ownBlock] at hb
  · obtain rfl : g = b := by simpa [Value.ownBlock] using hb
    rw [hg] at ho
    cases ho
    exact hE.cells hg

theorem ownsRow_lit (w : World) (c : Array Value) (e size n : Nat) (hs : c.size = n * size) (hn : n ≤ maxLen) : ((w.alloc (.cells c e)).drew).ownsRow 0 e size (.slice (some ⟨w.heap.size, 0, none⟩) n n) n c.toList :=
  ⟨by simpa using hs, .inr ⟨w.heap.size, n, c, rfl, Nat.zero_le _, heap_alloc_at w _, Nat.le_refl _, hn, hs, by rw [List.take_of_length_le]; simp [hs]⟩⟩
theorem Raw.vec {w w' : World} {x p : Nat} {fv fv' : List Nat} {f : ByteArray} {a : List UInt8} {ps ps' : List Pc} {av : Value} {size most edits : Int}
    (hx : w.heap[x]? = some (.cells #[.string f, av, .pointer (some ⟨p, 0, none⟩), .int .i64 size, .int .i64 most, .int .i64 edits] 89 (0, 0))) (hr : w.ownsRow 0 5 1 av a.length (a.map encB)) (hv : VecP w p fv ps)
    (hf : Frm fv w w') (hv' : VecP w' p fv' ps') : Raw w' x (x :: (av.ownBlock.toList ++ fv')) f a ps' size most edits := by
  refine ⟨av, p, fv', hf.heap hx (hv.not_mem hx (by decide) (by decide)), ownsRow_heap hr (fun b o hb ho => hf.heap ho ?_), hv', rfl⟩
  rcases hr.2 with ⟨rfl, _⟩ | ⟨g, c, cur, rfl, _, hg, _⟩
  · simp [Value.ownBlock] at hb
  · obtain rfl : g = b := by simpa [Value.ownBlock] using hb
    exact hv.not_mem hg (by decide) (by decide)

set_option maxRecDepth 100000 in
set_option maxHeartbeats 4000000 in
theorem tblCut (w : World) (x : Nat) (fp : List Nat) (f : ByteArray) (a : List UInt8) (ps : List Pc) (size most edits : Int) (off : Nat) (h : Raw w x fp f a ps size most edits) (hok : ∀ p ∈ ps, Okp f.data.toList a p) (ho : off ≤ (told f.data.toList a ps).length)
    (hf : f.size ≤ 1073741824) (ha : a.length ≤ 1073741824) (hn : ps.length ≤ 1073741824) (ht : (told f.data.toList a ps).length ≤ 1073741824) :
    Calls Tryz.prog 76 #[.pointer (some ⟨x, 0, none⟩), .int .i64 off] w fun e w' => ∃ (i : Nat) (ps' : List Pc) (fp' : List Nat), e = .returned (.int .i64 i) ∧ CutAt f.data.toList a ps ps' off i ∧ Raw w' x fp' f a ps' size most edits ∧ Frm fp w w' ∧ (∀ b ∈ fp', b ∈ fp ∨ w.heap.size ≤ b) ∧ w'.heap[x]? = w.heap[x]? := by
  have hxl := h.lt x h.mem
  have H := Lib.hid h
  obtain ⟨av, p, fv, hx, hr, hv, hFP⟩ := h
  have HX0 := Lib.hid hx
  obtain ⟨W0, hW0⟩ : ∃ W0, W0 = (((w.alloc (.cells #[.pointer (some ⟨x, 0, none⟩)] 54)).alloc (.cells #[.int .i64 off] 3)).alloc (.cells #[.int .i64 0] 3)).alloc (.cells #[.int .i64 0] 3) := ⟨_, rfl⟩
  have hF0 : Frm [] w W0 := by rw [hW0]; exact ((((Frm.refl _ w).alloc _).alloc _).alloc _).alloc _
  have hb2 : W0.heap[w.heap.size]? = some (.cells #[.pointer (some ⟨x, 0, none⟩)] 54 (0, 0)) := by
    rw [hW0, heap_alloc_below _ (by simp; try omega), heap_alloc_below _ (by simp; try omega), heap_alloc_below _ (by simp)]; exact heap_alloc_at w _
  have hb3 : W0.heap[w.heap.size + 1]? = some (.cells #[.int .i64 off] 3 (0, 0)) := by
    rw [hW0, heap_alloc_below _ (by simp; try omega), heap_alloc_below _ (by simp)]
    have := heap_alloc_at (w.alloc (.cells #[.pointer (some ⟨x, 0, none⟩)] 54)) (.cells #[.int .i64 off] 3)
    rwa [World.size_alloc] at this
  have hb4 : W0.heap[w.heap.size + 2]? = some (.cells #[.int .i64 0] 3 (0, 0)) := by
    rw [hW0, heap_alloc_below _ (by simp)]
    have := heap_alloc_at ((w.alloc (.cells #[.pointer (some ⟨x, 0, none⟩)] 54)).alloc (.cells #[.int .i64 off] 3)) (.cells #[.int .i64 0] 3)
    rwa [World.size_alloc, World.size_alloc] at this
  have hb5 : W0.heap[w.heap.size + 3]? = some (.cells #[.int .i64 0] 3 (0, 0)) := by
    rw [hW0]
    have := heap_alloc_at (((w.alloc (.cells #[.pointer (some ⟨x, 0, none⟩)] 54)).alloc (.cells #[.int .i64 off] 3)).alloc (.cells #[.int .i64 0] 3)) (.cells #[.int .i64 0] 3)
    rwa [World.size_alloc, World.size_alloc, World.size_alloc] at this
  have hx0 := hF0.heap hx (by simp)
  have hv0 := hv.frm hF0 (by simp)
  have hall := vecAllP W0 p fv ps hv0 (by omega)
  have hcell0 := cell_of_heap (i := 2) hx0 rfl
  have hcell2 := cell_of_heap (i := 0) hb2 rfl
  subst hW0
  have HALL := Lib.hid hall
  have HB2 := Lib.hid hb2
  have HB3 := Lib.hid hb3
  have HB4 := Lib.hid hb4
  have HB5 := Lib.hid hb5
  have HF0 := Lib.hid hF0
  have HOK := Lib.hid hok
  clear hFP
  clear hall hb2 hb3 hb4 hb5 hF0 hx0 hv0 hx hr hv hok
  refine callsIn_wide.1 (callsIn_of_wp_marks (n := 3) Tryz.func76 rfl trivial ?_ rfl)
  simp only [Tryz.ntmps76, List.size_toArray, List.length_cons, List.length_nil, Nat.reduceAdd, Nat.reduceSub, Array.replicate_succ, Array.replicate_zero, List.push_toArray, List.append_toArray, List.nil_append, List.cons_append]
  gi_wp2_with fail
  refine ⟨trivial, (callsIn_wide.2 HALL.out).mono ?_⟩
  rintro e w1 ⟨Bs, L, rfl, hit, hf1, hL, -⟩
  have hB2 := hf1.heap HB2.out (by simp)
  have hB3 := hf1.heap HB3.out (by simp)
  have hB4 := hf1.heap HB4.out (by simp)
  have hB5 := hf1.heap HB5.out (by simp)
  have hF1 : Frm [] w w1 := HF0.out.trans hf1 (by simp)
  have hR1 := H.out.frm hF1 (by simp)
  have hsz1 := hF1.size
  have hszT := hf1.size
  simp only [World.size_alloc] at hszT hL
  have HL := Lib.hid hL
  have HIT := Lib.hid hit
  clear hf1 hcell0 hcell2 hL hit
  gi_wp2_with fail
  refine wp_range (gf := 99) (lb := #[.pointer (some ⟨Bs, 0, none⟩)]) rfl (enters_of Tryz.func99 (by kernel_rfl) rfl) HIT.out Keep.trans (Keep.putObj (fun b hb => (HL.out b hb).2)) ?hps
    (fun k W => Raw W x fp f a ps size most edits ∧ W.heap[w.heap.size]? = some (.cells #[.pointer (some ⟨x, 0, none⟩)] 54 (0, 0)) ∧ W.heap[w.heap.size + 1]? = some (.cells #[.int .i64 off] 3 (0, 0)) ∧ W.heap[w.heap.size + 2]? = some (.cells #[.int .i64 0] 3 (0, 0)) ∧
      W.heap[w.heap.size + 3]? = some (.cells #[.int .i64 ((told f.data.toList a (ps.take k)).length : Nat)] 3 (0, 0)) ∧ (told f.data.toList a (ps.take k)).length ≤ off ∧ Frm [] w W ∧ w1.heap.size ≤ W.heap.size)
    (fun c _ W => c = .ret ∧ ∃ (i : Nat) (ps' : List Pc) (fp' : List Nat), CutAt f.data.toList a ps ps' off i ∧ Raw W x fp' f a ps' size most edits ∧ W.heap[w.heap.size + 2]? = some (.cells #[.int .i64 i] 3 (0, 0)) ∧ Frm fp w W ∧ (∀ b ∈ fp', b ∈ fp ∨ w.heap.size ≤ b) ∧ w1.heap.size ≤ W.heap.size ∧ W.heap[x]? = w.heap[x]?)
    ?hI ?hIx ?h0 ?hround ?hdone ?hstop
  case hps =>
    intro z hz
    obtain ⟨k, hk⟩ := List.mem_iff_getElem?.1 hz
    obtain ⟨s, _, rfl⟩ := elemsP_inv hk
    rfl
  case hI =>
    rintro k X Y ⟨i1, i2, i3, i4, i5, i6, i7, i8⟩ hE
    exact ⟨i1.ext hE, hE.cells i2, hE.cells i3, hE.cells i4, hE.cells i5, i6, i7.ext hE hsz1, Nat.le_trans i8 hE.size⟩
  case hIx =>
    rintro c k X Y ⟨hc, i, ps', fp', i1, i2, i3, i4, i5, i6, i7⟩ hE
    exact ⟨hc, i, ps', fp', i1, i2.ext hE, hE.cells i3, i4.ext hE hsz1, i5, Nat.le_trans i6 hE.size, (hE.cells (i7.trans HX0.out)).trans HX0.out.symm⟩
  case h0 => exact ⟨hR1, hB2, hB3, hB4, by simpa [told] using hB5, by simp [told], hF1, Nat.le_refl _⟩
  case hround =>
    rintro l k z W hl hz ⟨i1, i2, i3, i4, i5, i6, i7, i8⟩ K' hK'
    obtain ⟨⟨b, o, n⟩, hp, rfl⟩ := elemsP_inv hz
    clear hz
    gi_wp2_with fail
    refine hK' _ _ (KeepsFrom.frm ((Frm.refl [] W).alloc _) (by simp)) (Keep.frm ((Frm.refl [] W).alloc _) (fun b hb => ⟨by have := (HL.out b hb).2; omega, by simp⟩)) ?_
    intro w2 hE2 hs2
    have hE : Ext w1.heap.size W w2 := ((Ext.refl _ W).alloc _).trans hE2
    have hq : w2.heap[W.heap.size]? = some (.cells #[.bool b, .int .i64 o, .int .i64 n] 87 (0, 0)) := hE2.cells (heap_alloc_at W _)
    have j1 := i1.ext hE
    have j2 := hE.cells i2
    have j3 := hE.cells i3
    have j4 := hE.cells i4
    have j5 := hE.cells i5
    have j7 := i7.ext hE hsz1
    have j8 := Nat.le_trans i8 hE.size
    clear i1 i2 i3 i4 i5 i7 hE hE2 hs2 hK'
    have hkl := (List.getElem?_eq_some_iff.1 hp).1
    have hpo := HOK.out _ (List.mem_of_getElem? hp)
    have htn := told_next f.data.toList a ps k _ hp
    have htl := txt_length hpo
    have hsum : (told f.data.toList a (ps.take (k + 1))).length = (told f.data.toList a (ps.take k)).length + (txt f.data.toList a (b, o, n)).length := by rw [htn, List.length_append]
    simp only at htl
    have hle : (told f.data.toList a (ps.take (k + 1))).length ≤ (told f.data.toList a ps).length := by
      rw [told_split f.data.toList a ps (k + 1), List.length_append]
      omega
    have c2 := cell_of_heap (i := 0) j2 rfl
    have c3 := cell_of_heap (i := 0) j3 rfl
    have c4 : w2.cell? ⟨w.heap.size + 1 + 1, 0, none⟩ = some (.int .i64 0) := cell_of_heap (i := 0) j4 rfl
    have c5 : w2.cell? ⟨w.heap.size + 1 + 1 + 1, 0, none⟩ = some (.int .i64 ((told f.data.toList a (ps.take k)).length : Nat)) := cell_of_heap (i := 0) j5 rfl
    have z4 : w2.frozen? ⟨w.heap.size + 1 + 1, 0, none⟩ = false := frozen_of_heap 0 j4
    have z5 : w2.frozen? ⟨w.heap.size + 1 + 1 + 1, 0, none⟩ = false := frozen_of_heap 0 j5
    have q0 := cell_of_heap (i := 0) hq rfl
    have q1 := cell_of_heap (i := 1) hq rfl
    have q2 := cell_of_heap (i := 2) hq rfl
    have HHERE := Lib.hid (show (told f.data.toList a (ps.take k)).length = off → CutAt f.data.toList a ps ps off k from fun h => cutAt_here HOK.out (Nat.le_of_lt hkl) h)
    have HSPLIT := Lib.hid (show ∀ d : Int, 0 < d → d < n → ((told f.data.toList a (ps.take k)).length : Int) + d = off → _ from fun d h0 h1 h => cutAt_split HOK.out hp h0 h1 h)
    have HSUM := Lib.hid hsum
    have HJ1 := Lib.hid j1
    have HJ2 := Lib.hid j2
    have HJ3 := Lib.hid j3
    have HJ4 := Lib.hid j4
    have HJ5 := Lib.hid j5
    have HJ7 := Lib.hid j7
    have HQ := Lib.hid hq
    have hfpl := H.out.lt
    have HFPL := Lib.hid hfpl
    have hat2 : (((told f.data.toList a (ps.take (k + 1))).length : Nat) : Int) = ((told f.data.toList a (ps.take k)).length : Nat) + n := by omega
    have HAT2 := Lib.hid hat2
    have hn0 : 0 < n := hpo.2.1
    have ho0 : 0 ≤ o := hpo.1
    have ho1 : o + n ≤ 1073741824 := by
      have h3 := hpo.2.2
      cases b <;> simp at h3 <;> omega
    have hn1 : n ≤ 1073741824 := by omega
    clear j1 j2 j3 j4 j5 j7 hq htn htl hsum hfpl hat2 hpo hp
    generalize hAT : (told f.data.toList a (ps.take k)).length = AT at *
    by_cases hA : AT = off
    · have heq : ((AT : Int) == (off : Int)) = true := by rw [hA]; simp
      gi_wp2_with fail
      have hfs : Frm [w.heap.size + 1 + 1] w2 (w2.setCell ⟨w.heap.size + 1 + 1, 0, none⟩ (.int .i64 (k : Nat))) := (Frm.refl _ w2).setCell (.inl (by simp)) _
      refine ⟨KeepsFrom.frm hfs (fun b hb => .inl (by simp at hb; omega)), rfl, k, ps, fp, HHERE.out hA, HJ1.out.frm hfs (fun b hb hm => ?_), ?_, (HJ7.out.mono (S' := fp) (by simp)).trans hfs (fun b hb => .inr (by simp at hb; omega)), fun b hb => .inl hb, ?_, (hfs.same x (Nat.lt_of_lt_of_le hxl HJ7.out.size) (by simp; omega)).trans (HJ7.out.same x hxl (by simp))⟩
      · have := HFPL.out b hb
        simp at hm
        omega
      · have := heap_set_at (i := 0) (.int .i64 (k : Nat)) HJ4.out
        simpa using this
      · simpa using j8
    · have hne : ((AT : Int) == (off : Int)) = false := by rw [beq_eq_false_iff_ne]; omega
      by_cases hB : (off : Int) < (AT : Int) + n
      · have hsp := HSPLIT.out ((off : Int) - (AT : Int)) (by omega) (by omega) (by omega)
        obtain ⟨av2, p2, fv2, hx2, hr2, hv2, hfp2⟩ := HJ1.out
        have hpx : x ∉ fv2 := hv2.not_mem hx2 (by decide) (by decide)
        have hv2l := hv2.lt
        have hv2b : ∀ q ∈ fv2, q < w.heap.size := fun q hq => HFPL.out q (by rw [hfp2]; simp [hq])
        have hset := vecSetP w2.drew p2 fv2 ps k b o ((off : Int) - (AT : Int)) (hv2.frm (Frm.refl [] w2).drew (by simp)) hkl
        have cx := cell_of_heap (i := 2) hx2 rfl
        have hwd : IntKind.i64.wrap ((off : Int) - (AT : Int)) = (off : Int) - (AT : Int) := by rw [IntKind.wrap_i64]; omega
        have mixed : Tryz.prog.follows .mixedOrders = true := by kernel_rfl
        have HV2 := Lib.hid hv2
        have HX2 := Lib.hid hx2
        have HR2 := Lib.hid hr2
        have HV2B := Lib.hid hv2b
        have HPX := Lib.hid hpx
        have HSP := Lib.hid hsp
        have HFP2 := Lib.hid hfp2
        have HSET := Lib.hid hset
        clear hx2 hr2 hv2 hfp2 hpx hv2l hv2b hset hsp
        gi_wp2_with fail
        refine wpIn_region_tail (wide_round l) 11 mixed (by kernel_rfl) (by kernel_rfl) ?_
        simp only [List.take_succ_cons, List.take_zero, List.drop_succ_cons, List.drop_zero]
        repeat still_step
        refine wpStill_nil ?_
        gi_wp2_with fail
        refine ⟨trivial, (CallsIn.inRound l (callsIn_wide.2 HSET.out)).mono ?_⟩
        rintro e W1 ⟨rfl, hv3, hf3⟩
        have hf3' : Frm fv2 w2 W1 := ⟨hf3.os, hf3.tape, hf3.output, hf3.size, hf3.same⟩
        clear hf3
        have hsp2 : ∀ q, w.heap.size ≤ q → q ∉ fv2 := fun q hq hm => by have := HV2B.out q hm; omega
        have hqW : W.heap.size ∉ fv2 := hsp2 _ (by omega)
        have d2 := hf3'.cell c2 (hsp2 w.heap.size (Nat.le_refl _))
        have dx := hf3'.cell cx HPX.out
        have dq0 := hf3'.cell q0 hqW
        have dq1 := hf3'.cell q1 hqW
        have dq2 := hf3'.cell q2 hqW
        have hws : IntKind.i64.wrap (o + ((off : Int) - (AT : Int))) = o + ((off : Int) - (AT : Int)) := by rw [IntKind.wrap_i64]; omega
        have hwn : IntKind.i64.wrap (n - ((off : Int) - (AT : Int))) = n - ((off : Int) - (AT : Int)) := by rw [IntKind.wrap_i64]; omega
        have hwk : IntKind.i64.wrap ((k : Int) + 1) = (k : Int) + 1 := by rw [IntKind.wrap_i64]; omega
        have hins := vecInsertP ((W1.alloc (.cells #[.bool b, .int .i64 (o + ((off : Int) - (AT : Int))), .int .i64 (n - ((off : Int) - (AT : Int)))] 87)).drew) p2 fv2 (ps.set k (b, o, (off : Int) - (AT : Int))) [(b, o + ((off : Int) - (AT : Int)), n - ((off : Int) - (AT : Int)))] (k + 1) (.slice (some ⟨W1.heap.size, 0, none⟩) 1 1)
          (hv3.frm ((Frm.refl [] W1).alloc _).drew (by simp)) (ownsRow_lit W1 _ 87 3 1 (by simp) (by unfold maxLen; omega)) (fun q hq hm => by
            have := HV2B.out q hm
            have h5 := hf3'.size
            simp [Value.ownBlock] at hq
            omega) (by simp; omega) (by simp; omega)
        have HINS := Lib.hid hins
        clear hins
        gi_wp2_with fail
        refine wpIn_region_vals (size := 73) (mk := 17) (wide_round l) 18 (fun i => [Value.pointer (some ⟨x, 0, none⟩), .pointer (some ⟨x, 0, none⟩), .pointer (some ⟨x, 2, none⟩), .pointer (some ⟨p2, 0, none⟩), .int .i64 k, .int .i64 ((k : Int) + 1), .pointer (some ⟨W.heap.size, 0, none⟩), .bool b,
          .pointer (some ⟨W.heap.size, 1, none⟩), .int .i64 o, .int .i64 ((off : Int) - (AT : Int)), .int .i64 (o + ((off : Int) - (AT : Int))), .pointer (some ⟨W.heap.size, 2, none⟩), .int .i64 n, .int .i64 ((off : Int) - (AT : Int)), .int .i64 (n - ((off : Int) - (AT : Int))),
          .agg #[.bool b, .int .i64 (o + ((off : Int) - (AT : Int))), .int .i64 (n - ((off : Int) - (AT : Int)))], .slice (some ⟨W1.heap.size, 0, none⟩) 1 1].getD i undef)
          (fun w' => w' = W1.drew.alloc (.cells #[.bool b, .int .i64 (o + ((off : Int) - (AT : Int))), .int .i64 (n - ((off : Int) - (AT : Int)))] 87)) mixed (by kernel_rfl) (by kernel_rfl) (by decide) (by kernel_rfl) (by kernel_rfl) (by kernel_rfl) (by kernel_rfl) rfl (by decide) ?hrun ?hrunk ?htail
        case hrun =>
          intro i hi hne op hop a' w' ht hw'
          have hF : Frm [] W1 w' := by
            rcases hw' with rfl | rfl
            · exact (Frm.refl _ _).drew
            · exact ((Frm.refl _ _).drew).alloc _
          have k2 := hF.cell d2 (by simp)
          have kx := hF.cell dx (by simp)
          have kq0 := hF.cell dq0 (by simp)
          have kq1 := hF.cell dq1 (by simp)
          have kq2 := hF.cell dq2 (by simp)
          rcases (by omega : i = 0 ∨ i = 1 ∨ i = 2 ∨ i = 3 ∨ i = 4 ∨ i = 5 ∨ i = 6 ∨ i = 7 ∨ i = 8 ∨ i = 9 ∨ i = 10 ∨ i = 11 ∨ i = 12 ∨ i = 13 ∨ i = 14 ∨ i = 15 ∨ i = 16) with rfl | rfl | rfl | rfl | rfl | rfl | rfl | rfl | rfl | rfl | rfl | rfl | rfl | rfl | rfl | rfl | rfl
          all_goals obtain rfl := Option.some.inj hop
          · have h1 := ht.free 2 (by kernel_rfl)
            simp [execOp, go_sem, Act.eval, h1, k2]
          · have h1 := ht.dep 0 43 (by kernel_rfl) rfl
            simp [execOp, go_sem, Act.eval, h1]
          · have h1 := ht.dep 1 44 (by kernel_rfl) rfl
            simp [execOp, go_sem, Act.eval, h1]
          · have h1 := ht.dep 2 45 (by kernel_rfl) rfl
            simp [execOp, go_sem, Act.eval, h1, kx]
          · have h1 := ht.free 6 (by kernel_rfl)
            simp [execOp, go_sem, Act.eval, h1]
          · have h1 := ht.dep 4 47 (by kernel_rfl) rfl
            simp [execOp, go_sem, Act.eval, h1, hwk]
          · have h1 := ht.free 7 (by kernel_rfl)
            simp [execOp, go_sem, Act.eval, h1]
          · have h1 := ht.dep 6 49 (by kernel_rfl) rfl
            simp [execOp, go_sem, Act.eval, h1, kq0]
          · have h1 := ht.free 7 (by kernel_rfl)
            simp [execOp, go_sem, Act.eval, h1]
          · have h1 := ht.dep 8 51 (by kernel_rfl) rfl
            simp [execOp, go_sem, Act.eval, h1, kq1]
          · have h1 := ht.free 8 (by kernel_rfl)
            simp [execOp, go_sem, Act.eval, h1]
          · have h1 := ht.dep 9 52 (by kernel_rfl) rfl
            have h2 := ht.dep 10 53 (by kernel_rfl) rfl
            simp [execOp, go_sem, Act.eval, h1, h2, hws]
          · have h1 := ht.free 7 (by kernel_rfl)
            simp [execOp, go_sem, Act.eval, h1]
          · have h1 := ht.dep 12 55 (by kernel_rfl) rfl
            simp [execOp, go_sem, Act.eval, h1, kq2]
          · have h1 := ht.free 8 (by kernel_rfl)
            simp [execOp, go_sem, Act.eval, h1]
          · have h1 := ht.dep 13 56 (by kernel_rfl) rfl
            have h2 := ht.dep 14 57 (by kernel_rfl) rfl
            simp [execOp, go_sem, Act.eval, h1, h2, hwn]
          · have h1 := ht.dep 7 50 (by kernel_rfl) rfl
            have h2 := ht.dep 11 54 (by kernel_rfl) rfl
            have h3 := ht.dep 15 58 (by kernel_rfl) rfl
            simp [execOp, go_sem, Act.eval, h1, h2, h3]
        case hrunk =>
          intro op hop a' ht
          obtain rfl := Option.some.inj hop
          have h1 := ht.dep 16 59 (by kernel_rfl) rfl
          left
          refine ⟨_, ?_, rfl⟩
          simp [execOp, go_sem, Act.eval, h1]
        case htail =>
          rintro w' rfl
          simp only [List.take_succ_cons, List.take_zero, List.drop_succ_cons, List.drop_zero, putAll, Act.put, Nat.reduceAdd, List.getD_cons_succ, List.getD_cons_zero]
          gi_wp2_with fail
          refine ⟨trivial, (CallsIn.inRound l (callsIn_wide.2 HINS.out)).mono ?_⟩
          rintro e W3 ⟨rfl, fv3, hv4, hf4, hb4⟩
          have hF3 : Frm fv2 w2 W3 := (((hf3'.alloc _).drew).trans hf4 (fun q hq => .inl hq))
          have hR3 := Raw.vec HX2.out HR2.out HV2.out hF3 hv4
          have hsz3 := hF3.size
          have h43 := hF3.heap HJ4.out (hsp2 _ (by omega))
          have c43 : W3.cell? ⟨w.heap.size + 1 + 1, 0, none⟩ = some (.int .i64 0) := cell_of_heap (i := 0) h43 rfl
          have z43 : W3.frozen? ⟨w.heap.size + 1 + 1, 0, none⟩ = false := frozen_of_heap 0 h43
          have hsA : w2.heap.size ≤ W1.heap.size := hf3'.size
          simp only [World.size_alloc, World.size_drew] at hb4
          have HF3 := Lib.hid hF3
          have HR3 := Lib.hid hR3
          have HB4 := Lib.hid hb4
          have H43 := Lib.hid h43
          clear hF3 hR3 hb4 h43 hv4 hf4 d2 dx dq0 dq1 dq2 hws hwn
          gi_wp2_with fail
          have hfs : Frm [w.heap.size + 2] W3 (W3.setCell ⟨w.heap.size + 1 + 1, 0, none⟩ (.int .i64 ((k : Int) + 1))) := (Frm.refl _ W3).setCell (.inl (by simp)) _
          have hFA : Frm ((w.heap.size + 2) :: fv2) w2 (W3.setCell ⟨w.heap.size + 1 + 1, 0, none⟩ (.int .i64 ((k : Int) + 1))) := (HF3.out.mono (fun q hq => .inl (List.mem_cons_of_mem _ hq))).trans hfs (fun q hq => .inl (by simp at hq; simp [hq]))
          have hfb : ∀ q ∈ x :: (av2.ownBlock.toList ++ fv3), q ∈ fp ∨ W1.heap.size + 1 ≤ q := fun q hq => by
            rw [HFP2.out]
            rcases List.mem_cons.1 hq with rfl | hq
            · exact .inl (by simp)
            · rcases List.mem_append.1 hq with hq | hq
              · exact .inl (List.mem_cons_of_mem _ (List.mem_append_left _ hq))
              · rcases HB4.out q hq with h | h
                · exact .inl (List.mem_cons_of_mem _ (List.mem_append_right _ h))
                · exact .inr h
          have hR4 := HR3.out.frm hfs (fun q hq hm => by
            obtain rfl : q = w.heap.size + 2 := by simpa using hm
            rcases hfb _ hq with h | h
            · have := HFPL.out _ h
              omega
            · omega)
          refine ⟨KeepsFrom.frm hFA (fun q hq => ?_), rfl, k + 1, _, _, HSP.out, hR4, ?_, ?_, fun q hq => ?_, ?_, (hFA.same x (Nat.lt_of_lt_of_le hxl HJ7.out.size) (fun hm => (List.mem_cons.1 hm).elim (fun e => by omega) HPX.out)).trans (HJ7.out.same x hxl (by simp))⟩
          · rcases List.mem_cons.1 hq with rfl | hq
            · exact .inl (by omega)
            · exact .inl (by have := HV2B.out q hq; omega)
          · have := heap_set_at (i := 0) (.int .i64 ((k : Int) + 1)) H43.out
            simpa using this
          · refine (HJ7.out.mono (S' := fp) (by simp)).trans hFA (fun q hq => ?_)
            rcases List.mem_cons.1 hq with rfl | hq
            · exact .inr (by omega)
            · exact .inl (by rw [HFP2.out]; exact List.mem_cons_of_mem _ (List.mem_append_right _ hq))
          · rcases hfb q hq with h | h
            · exact .inl h
            · exact .inr (by omega)
          · have := hFA.size
            omega
      · gi_wp2_with fail
        have hfs : Frm [w.heap.size + 1 + 1 + 1] w2 (w2.setCell ⟨w.heap.size + 1 + 1 + 1, 0, none⟩ (.int .i64 ((AT : Int) + n))) := (Frm.refl _ w2).setCell (.inl (by simp)) _
        refine ⟨KeepsFrom.frm hfs (fun b hb => .inl (by simp at hb; omega)), Keep.frm hfs (fun b hb => ⟨by have := (HL.out b hb).2; omega, fun hm => by have := (HL.out b hb).1; simp at hm; omega⟩), HJ1.out.frm hfs (fun b hb hm => ?_), hfs.heap HJ2.out (by simp; try omega), hfs.heap HJ3.out (by simp; try omega), hfs.heap HJ4.out (by simp; try omega), ?_, ?_, HJ7.out.trans hfs (fun b hb => .inr (by simp at hb; omega)), ?_⟩
        · have := HFPL.out b hb
          simp at hm
          omega
        · have := heap_set_at (i := 0) (.int .i64 ((AT : Int) + n)) HJ5.out
          rw [HAT2.out]
          simpa using this
        · have := HAT2.out
          omega
        · simpa using j8
  case hdone =>
    rintro D W hD ⟨i1, i2, i3, i4, i5, i6, i7, i8⟩ hK
    rw [elemsP_length, List.take_length] at i6
    have hcut : CutAt f.data.toList a ps ps off ps.length := cutAt_here HOK.out (Nat.le_refl _) (by rw [List.take_length]; omega)
    have HR := Lib.hid i1
    obtain ⟨av2, p2, fv2, hx2, -, hv2, -⟩ := i1
    have hlen := vecLenP W p2 fv2 ps hv2
    have cx := cell_of_heap (i := 2) hx2 rfl
    have c2 := cell_of_heap (i := 0) i2 rfl
    have c4 : W.cell? ⟨w.heap.size + 1 + 1, 0, none⟩ = some (.int .i64 0) := cell_of_heap (i := 0) i4 rfl
    have z4 : W.frozen? ⟨w.heap.size + 1 + 1, 0, none⟩ = false := frozen_of_heap 0 i4
    have HX2 := Lib.hid hx2
    have HI4 := Lib.hid i4
    have HI7 := Lib.hid i7
    have HK := Lib.hid hK
    have HCUT := Lib.hid hcut
    clear hx2 hv2 i2 i3 i4 i5 i7 hK hcut
    gi_wp2_with fail
    refine ⟨trivial, (callsIn_wide.2 hlen).mono ?_⟩
    rintro e w' ⟨rfl, rfl⟩
    clear hlen
    gi_wp2_with fail
    have hfs : Frm [w.heap.size + 1 + 1] W (W.setCell ⟨w.heap.size + 1 + 1, 0, none⟩ (.int .i64 (ps.length : Nat))) := (Frm.refl _ W).setCell (.inl (by simp)) _
    have hK2 := hfs.heap HK.out (by simp; omega)
    have h4 : (W.setCell ⟨w.heap.size + 1 + 1, 0, none⟩ (.int .i64 (ps.length : Nat))).heap[w.heap.size + 1 + 1]? = some (.cells #[.int .i64 (ps.length : Nat)] 3 (0, 0)) := by
      have := heap_set_at (i := 0) (.int .i64 (ps.length : Nat)) HI4.out
      simpa using this
    have hR2 := HR.out.frm hfs (fun b hb hm => by
      have := H.out.lt b hb
      simp at hm
      omega)
    have hF2 : Frm fp w (W.setCell ⟨w.heap.size + 1 + 1, 0, none⟩ (.int .i64 (ps.length : Nat))) := (HI7.out.mono (S' := fp) (by simp)).trans hfs (fun b hb => .inr (by simp at hb; omega))
    have h5 : ((W.setCell ⟨w.heap.size + 1 + 1, 0, none⟩ (.int .i64 (ps.length : Nat))).putObj D (.deferred none)).cell? ⟨w.heap.size + 1 + 1, 0, none⟩ = some (.int .i64 (ps.length : Nat)) :=
      cell_of_heap (i := 0) ((World.putObj_heap_other (by omega)).trans h4) rfl
    refine ⟨by simp, .inl ⟨_, _, rfl, run_takeDeferred hK2, ?_⟩⟩
    exact ⟨.int .i64 (ps.length : Nat), by simp [results, Tryz.results76, go_sem, h5], ps.length, ps, fp, rfl, HCUT.out, hR2.ext ((Ext.refl w1.heap.size _).putObj hK2 rfl hD _), hF2.putObj (.inr (by omega)) _, fun b hb => .inl hb, (World.putObj_heap_other (by omega)).trans ((hfs.same x (Nat.lt_of_lt_of_le hxl HI7.out.size) (by simp; omega)).trans (HI7.out.same x hxl (by simp)))⟩
  case hstop =>
    rintro D c k W hD hk ⟨rfl, i, ps', fp', i1, i2, i3, i4, i5, i6, i7⟩ hK
    have HI7 := Lib.hid i7
    have HR := Lib.hid i2
    have HI3 := Lib.hid i3
    have HI4 := Lib.hid i4
    have HI1 := Lib.hid i1
    have HI5 := Lib.hid i5
    have c4 : W.cell? ⟨w.heap.size + 1 + 1, 0, none⟩ = some (.int .i64 i) := cell_of_heap (i := 0) i3 rfl
    clear i1 i2 i3 i4 i5 i7
    gi_wp2_with fail
    have h5 : ((W.putObj D (.deferred none)).cell? ⟨w.heap.size + 1 + 1, 0, none⟩) = some (.int .i64 i) :=
      (World.cell?_of_block (World.putObj_heap_other (by have := hszT; simp only; omega))).trans c4
    refine ⟨by simp, .inl ⟨_, _, rfl, run_takeDeferred hK, ?_⟩⟩
    exact ⟨.int .i64 i, by simp [results, Tryz.results76, go_sem, h5], i, ps', fp', rfl, HI1.out, HR.out.ext ((Ext.refl w1.heap.size _).putObj hK rfl hD _), HI4.out.putObj (.inr (by omega)) _, HI5.out, (World.putObj_heap_other (by omega)).trans HI7.out⟩

end Go.Proofs.YtnajkjgjeiodmaaGreatDoor.Pp
