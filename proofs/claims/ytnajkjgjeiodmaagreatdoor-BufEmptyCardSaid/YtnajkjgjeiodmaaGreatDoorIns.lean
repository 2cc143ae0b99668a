/-
  CONTRACT OF piece.Table.Insert. Conditions: texts of fewer than 2^30 bytes.
-/
import Derived.Test.YtnajkjgjeiodmaaGreatDoorNew
import Derived.Test.YtnajkjgjeiodmaaGreatDoorBase4
namespace Go.Proofs.YtnajkjgjeiodmaaGreatDoor.Pp
open Go.RowKit
open Go.Proofs (Tryz.prog)

/-! ### Plain -/
def InsAt (f a s : List UInt8) (ps ps' : List Pc) (off : Nat) : Prop :=
  told f (a ++ s) ps' = (told f a ps).take off ++ s ++ (told f a ps).drop off ∧ (∀ p ∈ ps', Okp f (a ++ s) p) ∧ ps'.length ≤ ps.length + 2
theorem ins_widen {f a s : List UInt8} {ps ps' : List Pc} {off j : Nat} {o n : Int} (h : CutAt f a ps ps' off (j + 1)) (hp : ps'[j]? = some (true, o, n)) (he : o + n = (a.length : Nat)) :
    InsAt f a s ps (ps'.set j (true, o, n + (s.length : Nat))) off := by
  obtain ⟨h1, h2, h3, h4, h5, -⟩ := h
  have hj := (List.getElem?_eq_some_iff.1 hp).1
  have hpo := h4 _ (List.mem_of_getElem? hp)
  obtain ⟨w1, w2⟩ := widen_ok (s := s) hpo he
  have e : ps'.set j (true, o, n + (s.length : Nat)) = ps'.take j ++ [(true, o, n + (s.length : Nat))] ++ ps'.drop (j + 1) := by
    rw [List.set_eq_take_append_cons_drop, if_pos hj]
    simp
  have hA : ∀ p ∈ ps'.take j, Okp f a p := fun p hp => h4 p (List.mem_of_mem_take hp)
  have hB : ∀ p ∈ ps'.drop (j + 1), Okp f a p := fun p hp => h4 p (List.mem_of_mem_drop hp)
  refine ⟨?_, ?_, by simp; omega⟩
  · rw [e, told_append, told_append, told_grow s _ hA, told_grow s _ hB, told_cons, told_nil, w2, List.append_nil, ← h3, ← h2, told_next f a ps' j _ hp]
    simp [List.append_assoc]
  · intro p hp'
    rw [e] at hp'
    simp only [List.mem_append, List.mem_cons, List.not_mem_nil, or_false] at hp'
    rcases hp' with (h | rfl) | h
    · exact (grow_ok (hA p h)).1
    · exact w1
    · exact (grow_ok (hB p h)).1
theorem ins_fresh {f a s : List UInt8} {ps ps' : List Pc} {off i : Nat} (h : CutAt f a ps ps' off i) (hs : s ≠ []) :
    InsAt f a s ps (ps'.take i ++ [((true, (a.length : Int), (s.length : Int)) : Pc)] ++ ps'.drop i) off := by
  obtain ⟨h1, h2, h3, h4, h5, -⟩ := h
  obtain ⟨w1, w2⟩ := fresh_ok (f := f) (a := a) hs
  have hA : ∀ p ∈ ps'.take i, Okp f a p := fun p hp => h4 p (List.mem_of_mem_take hp)
  have hB : ∀ p ∈ ps'.drop i, Okp f a p := fun p hp => h4 p (List.mem_of_mem_drop hp)
  refine ⟨?_, ?_, by simp; omega⟩
  · rw [told_append, told_append, told_grow s _ hA, told_grow s _ hB, told_cons, told_nil, w2, List.append_nil, ← h3, ← h2]
  · intro p hp'
    simp only [List.mem_append, List.mem_cons, List.not_mem_nil, or_false] at hp'
    rcases hp' with (h | rfl) | h
    · exact (grow_ok (hA p h)).1
    · exact w1
    · exact (grow_ok (hB p h)).1

/-! ### Refused, or nothing to do -/
set_option maxHeartbeats 800000 in
theorem tblInsert_place (w : World) (x : Nat) (fp : List Nat) (f : ByteArray) (a : List UInt8) (ps : List Pc) (size : Nat) (most edits : Int) (h : Raw w x fp f a ps size most edits) (off : Int) (s : ByteArray) (hno : off < 0 ∨ (size : Int) < off) (hs : size ≤ 1099511627776) :
    Calls Tryz.prog 56 #[.pointer (some ⟨x, 0, none⟩), .int .i64 off, .string s] w fun e w' => e = .returned (.int .i64 20) ∧ w = w' := by
  obtain ⟨av, p, fv, hx, -, -, -⟩ := h
  have hc := cell_of_heap (i := 3) hx rfl
  clear hx
  rcases hno with h | h
  · go_enter Tryz.func56, Tryz.ntmps56
    go_wp2_with fail
    go_ret
    exact ⟨rfl, rfl⟩
  · have h2 : ¬ off < 0 := by omega
    go_enter Tryz.func56, Tryz.ntmps56
    go_wp2_with fail
    go_ret
    exact ⟨rfl, rfl⟩

set_option maxRecDepth 100000 in
set_option maxHeartbeats 800000 in
theorem tblInsert_full (w : World) (x : Nat) (fp : List Nat) (f : ByteArray) (a : List UInt8) (ps : List Pc) (size : Nat) (most edits : Int) (h : Raw w x fp f a ps size most edits) (off : Nat) (s : ByteArray) (hin : off ≤ size) (hs : size ≤ 1099511627776)
    (hm : (size : Int) ≤ most) (hm2 : most ≤ 4611686018427387904) (hs2 : s.size ≤ 140737488355328) (hfull : most - (size : Int) < (s.size : Int)) :
    Calls Tryz.prog 56 #[.pointer (some ⟨x, 0, none⟩), .int .i64 off, .string s] w fun e w' => e = .returned (.int .i64 21) ∧ Frm [] w w' := by
  obtain ⟨av, p, fv, hx, -, -, -⟩ := h
  have hc := cell_of_heap (i := 3) hx rfl
  have hc4 := cell_of_heap (i := 4) hx rfl
  have hwr : IntKind.i64.wrap (most - (size : Int)) = most - (size : Int) := by rw [IntKind.wrap_i64]; omega
  have hnp : ¬ (size : Int) < (off : Int) := by omega
  clear hx
  go_enter Tryz.func56, Tryz.ntmps56
  go_wp2_with fail
  go_quiet (fail)
  go_wp2_with fail
  go_ret
  exact ⟨rfl, (Frm.refl _ w).drewN _⟩

set_option maxRecDepth 100000 in
set_option maxHeartbeats 800000 in
theorem tblInsert_none (w : World) (x : Nat) (fp : List Nat) (f : ByteArray) (a : List UInt8) (ps : List Pc) (size : Nat) (most edits : Int) (h : Raw w x fp f a ps size most edits) (off : Nat) (s : ByteArray) (hin : off ≤ size) (hs : size ≤ 1099511627776)
    (hm : (size : Int) ≤ most) (hm2 : most ≤ 4611686018427387904) (hs0 : s.size = 0) :
    Calls Tryz.prog 56 #[.pointer (some ⟨x, 0, none⟩), .int .i64 off, .string s] w fun e w' => e = .returned (.int .i64 0) ∧ Frm [] w w' := by
  obtain ⟨av, p, fv, hx, -, -, -⟩ := h
  have hc := cell_of_heap (i := 3) hx rfl
  have hc4 := cell_of_heap (i := 4) hx rfl
  have hwr : IntKind.i64.wrap (most - (size : Int)) = most - (size : Int) := by rw [IntKind.wrap_i64]; omega
  have hnp : ¬ (size : Int) < (off : Int) := by omega
  have hl2 : s.toList.isEmpty = true := by
    rw [ByteArray.toList_eq, List.isEmpty_iff]
    exact List.eq_nil_of_length_eq_zero (by simpa using hs0)
  have hs1 : ¬ most - (size : Int) < (s.size : Int) := by omega
  clear hx hs0
  go_enter Tryz.func56, Tryz.ntmps56
  go_wp2_with fail
  go_quiet (fail)
  go_wp2_with fail
  go_ret
  exact ⟨rfl, (Frm.refl _ w).drewN _⟩

/-! ### A text put in -/
theorem _root_.Go.Proofs.YtnajkjgjeiodmaaGreatDoor.Frm.ofDrewN {S : List Nat} {a b : World} {n : Nat} (h : Frm S (a.drewN n) b) : Frm S a b := ⟨h.os, h.tape, h.output, h.size, h.same⟩
theorem _root_.Go.Proofs.YtnajkjgjeiodmaaGreatDoor.Frm.ofDrew {S : List Nat} {a b : World} (h : Frm S a.drew b) : Frm S a b := ⟨h.os, h.tape, h.output, h.size, h.same⟩
theorem strCells_eq (s : ByteArray) : Lib.strCells s = s.data.toList.map encB := rfl

set_option maxRecDepth 100000 in
set_option maxHeartbeats 4000000 in
theorem tblInsert_some (w : World) (x : Nat) (fp : List Nat) (f : ByteArray) (a : List UInt8) (ps : List Pc) (size : Nat) (most edits : Int) (h : Raw w x fp f a ps size most edits) (off : Nat) (s : ByteArray) (hin : off ≤ size)
    (hok : ∀ p ∈ ps, Okp f.data.toList a p) (hT : (told f.data.toList a ps).length = size)
    (hf : f.size ≤ 1073741824) (ha : a.length ≤ 1073741824) (hn : ps.length ≤ 1073741824) (ht : size ≤ 1073741824) (hs : s.size ≤ 1073741824) (he : 0 ≤ edits ∧ edits ≤ 1073741824)
    (hm : (size : Int) + (s.size : Int) ≤ most) (hm2 : most ≤ 4611686018427387904) (hs0 : s.size ≠ 0) :
    Calls Tryz.prog 56 #[.pointer (some ⟨x, 0, none⟩), .int .i64 off, .string s] w fun e w' => e = .returned (.int .i64 0) ∧
      ∃ ps' fp', InsAt f.data.toList a s.data.toList ps ps' off ∧ Raw w' x fp' f (a ++ s.data.toList) ps' (size + s.size : Nat) most (edits + 1) ∧ Frm fp w w' ∧ ∀ b ∈ fp', b ∈ fp ∨ w.heap.size ≤ b := by
  have hfpl := h.lt
  have hcut := fun nq => tblCut (w.drewN nq) x fp f a ps size most edits off (h.frm ((Frm.refl [] w).drewN nq) (by simp)) hok (by omega) hf ha hn (by omega)
  obtain ⟨av, p, fv, hx, -, -, -⟩ := h
  have hc := cell_of_heap (i := 3) hx rfl
  have hc4 := cell_of_heap (i := 4) hx rfl
  have hwr : IntKind.i64.wrap (most - (size : Int)) = most - (size : Int) := by rw [IntKind.wrap_i64]; omega
  have hnp : ¬ (size : Int) < (off : Int) := by omega
  have hl2 : s.toList.isEmpty = false := by
    rw [ByteArray.toList_eq]
    cases h : s.data.toList with
    | nil => exact absurd (by have := congrArg List.length h; simpa using this) hs0
    | cons _ _ => rfl
  have hs1 : ¬ most - (size : Int) < (s.size : Int) := by omega
  have hs3 : 1 ≤ s.size := by omega
  obtain ⟨i0, hi0, hz0, hz1, hz2⟩ := info_parts infoU8
  have HX := Lib.hid hx
  have HFPL := Lib.hid hfpl
  have HOK := Lib.hid hok
  have HT := Lib.hid hT
  have HCUT := Lib.hid hcut
  clear hx hs0 hfpl hok hT hcut
  go_enter Tryz.func56, Tryz.ntmps56
  go_wp2_with fail
  go_quiet (fail)
  go_wp2_with fail
  refine (HCUT.out _).mono ?_
  rintro e w1 ⟨i, ps', fp1, rfl, hcutat, hR1, hF1, hB1, -⟩
  have hFA := hF1.ofDrewN
  have hil := hcutat.1
  have hlen' := hcutat.2.2.2.2.1
  obtain ⟨av1, p1, fv1, hx1, hr1, hv1, hFP1⟩ := hR1
  have hxl1 := lt_of_heap hx1
  have hav := ownsRow_type hr1 hx1 (by decide)
  have hxv := hv1.not_mem hx1 (by decide) (by decide)
  have hapart : ∀ q ∈ fv1, q ∉ av1.ownBlock.toList := fun q hq hm => by
    rcases hr1.2 with ⟨rfl, _⟩ | ⟨g, c, cur, rfl, _, hg, _⟩
    · simp [Value.ownBlock] at hm
    · obtain rfl : q = g := by simpa [Value.ownBlock] using hm
      exact hv1.not_mem hg (by decide) (by decide) hq
  obtain ⟨aa, ac, rfl, _, _⟩ := ownsRow_form hr1
  have cx1 := cell_of_heap (i := 1) hx1 rfl
  have HX1 := Lib.hid hx1
  have HR1 := Lib.hid hr1
  have HV1 := Lib.hid hv1
  have HFA := Lib.hid hFA
  have HB1 := Lib.hid hB1
  have HFP1 := Lib.hid hFP1
  have HCA := Lib.hid hcutat
  have HAV := Lib.hid hav
  have HXV := Lib.hid hxv
  have HAP := Lib.hid hapart
  clear hx1 hr1 hv1 hF1 hFA hB1 hFP1 hcutat hav hxv hapart hc hc4
  go_wp2_with (at_builtin; refine wpList_append_str_row rfl (.tmp 50) (.tmp 51) 37 9 rfl 0 5 i0 Tryz.underlying37 Tryz.underlying9 hi0 hz0 hz1 hz2 _ a.length (a.map encB) rfl HR1.out s rfl (by unfold maxLen; omega) (by omega) (Nat.zero_le _) ?_)
  intro v2 w2 hown2 hf2 hb2 hnil2
  have hx2 := hf2.heap HX1.out (by simpa using HAV.out)
  obtain ⟨a2, c2, rfl, _, _⟩ := ownsRow_form hown2
  have cx21 := cell_of_heap (i := 1) hx2 rfl
  have cx22 := cell_of_heap (i := 2) hx2 rfl
  have cx23 := cell_of_heap (i := 3) hx2 rfl
  have cx25 := cell_of_heap (i := 5) hx2 rfl
  have zx1 := frozen_of_heap 1 hx2
  have zx3 := frozen_of_heap 3 hx2
  have zx5 := frozen_of_heap 5 hx2
  have HX2 := Lib.hid hx2
  have HO2 := Lib.hid hown2
  have HF2 := Lib.hid hf2
  have HB2 := Lib.hid hb2
  clear hx2 hown2 hf2 hb2 hnil2
  go_wp2_with fail
  obtain ⟨W5, hW5⟩ : ∃ W5, W5 = (((w2.setCell ⟨x, 1, none⟩ (.slice a2 (a.length + s.size) c2)).setCell ⟨x, 3, none⟩ (.int .i64 ((size : Int) + (s.size : Int)))).setCell ⟨x, 5, none⟩ (.int .i64 (edits + 1))) := ⟨_, rfl⟩
  rw [← hW5]
  have hx5 : W5.heap[x]? = some (.cells #[.string f, .slice a2 (a.length + s.size) c2, .pointer (some ⟨p1, 0, none⟩), .int .i64 ((size : Int) + (s.size : Int)), .int .i64 most, .int .i64 (edits + 1)] 89 (0, 0)) := by
    rw [hW5]
    exact heap_set_at (i := 5) _ (heap_set_at (i := 3) _ (heap_set_at (i := 1) _ HX2.out))
  have hset5 : Frm [x] w2 W5 := by
    rw [hW5]
    exact (((Frm.refl [x] w2).setCell (.inl (by simp)) _).setCell (.inl (by simp)) _).setCell (.inl (by simp)) _
  have ho2 := HO2.out
  have hx2n : (Value.slice a2 (a.length + s.size) c2).ownBlock ≠ some x := ownsRow_type ho2 HX2.out (by decide)
  have ho5 : W5.ownsRow 0 5 1 (.slice a2 (a.length + s.size) c2) (a ++ s.data.toList).length ((a ++ s.data.toList).map encB) := by
    rw [List.map_append, List.length_append, show s.data.toList.length = s.size by simp]
    exact ownsRow_heap ho2 (fun b o hb hb2 => hset5.heap hb2 (by
      intro hm
      obtain rfl : b = x := by simpa using hm
      exact hx2n hb))
  have hv5 : VecP W5 p1 fv1 ps' := (HV1.out.frm HF2.out HAP.out).frm hset5 (fun q hq hm => by
    obtain rfl : q = x := by simpa using hm
    exact HXV.out hq)
  have hxfp : x ∈ fp1 := by rw [HFP1.out]; simp
  have hF5 : Frm fp w W5 := (HFA.out.trans HF2.out (fun q hq => HB1.out q (by rw [HFP1.out]; simp only [List.mem_cons, List.mem_append]; exact .inr (.inl hq)))).trans hset5 (fun q hq => by
    obtain rfl : q = x := by simpa using hq
    exact HB1.out q hxfp)
  have hsz1 : w.heap.size ≤ w1.heap.size := HFA.out.size
  have hB5 : ∀ b ∈ x :: ((Value.slice a2 (a.length + s.size) c2).ownBlock.toList ++ fv1), b ∈ fp ∨ w.heap.size ≤ b := fun b hb => by
    rcases List.mem_cons.1 hb with rfl | hb
    · exact HB1.out _ hxfp
    · rcases List.mem_append.1 hb with hb | hb
      · rcases HB2.out b (by simpa using hb) with h | h
        · exact HB1.out b (by rw [HFP1.out]; simp [← h])
        · exact .inr (by omega)
      · exact HB1.out b (by rw [HFP1.out]; simp [hb])
  have hsz5 : w.heap.size ≤ W5.heap.size := hF5.size
  -- what a change of the pieces at the end comes to
  have hend : ∀ (W6 W' : World) (fv' : List Nat) (qs : List Pc), Frm [] W5 W6 → VecP W' p1 fv' qs → Frm fv1 W6 W' → (∀ b ∈ fv', b ∈ fv1 ∨ W6.heap.size ≤ b) → InsAt f.data.toList a s.data.toList ps qs off →
      ∃ ps' fp', InsAt f.data.toList a s.data.toList ps ps' off ∧ Raw W' x fp' f (a ++ s.data.toList) ps' (size + s.size : Nat) most (edits + 1) ∧ Frm fp w W' ∧ ∀ b ∈ fp', b ∈ fp ∨ w.heap.size ≤ b := fun W6 W' fv' qs hf6 hv' hf' hb' hq => by
    have h67 : Frm fv1 W5 W' := (hf6.mono (by simp)).trans hf' (fun q hq => .inl hq)
    have hR := Raw.vec hx5 ho5 hv5 h67 hv'
    refine ⟨qs, _, hq, by simpa using hR, hF5.trans h67 (fun q hq => hB5 q (by simp [hq])), fun b hb => ?_⟩
    have h6 := hf6.size
    rcases List.mem_cons.1 hb with rfl | hb
    · exact hB5 _ (by simp)
    · rcases List.mem_append.1 hb with hb | hb
      · exact hB5 b (List.mem_cons_of_mem _ (List.mem_append_left _ hb))
      · rcases hb' b hb with h | h
        · exact hB5 b (by simp [h])
        · exact .inr (by omega)
  have hv5l := hv5.lt
  have HX5 := Lib.hid hx5
  have HV5 := Lib.hid hv5
  have HEND := Lib.hid hend
  have HV5L := Lib.hid hv5l
  have hxl5 := lt_of_heap hx5
  clear hW5 hx5 hset5 ho2 hx2n ho5 hv5 hxfp hF5 hB5 hend hv5l cx1 cx21 cx22 cx23 cx25 zx1 zx3 zx5
  have mixed : Tryz.prog.follows .mixedOrders = true := by kernel_rfl
  have HSL : Hid (s.data.toList.length ≠ 0) := Lib.hid (by have : s.data.toList.length = s.size := rfl; omega)
  rcases (by omega : i = 0 ∨ 0 < i) with hi | hi
  · have hat := vecAtP_no W5 p1 fv1 ps' ((i : Int) - 1) HV5.out (by omega)
    clear hi
    refine hat.mono ?_
    rintro e w6 ⟨rfl, hf6⟩
    clear hat
    have hx6 := hf6.heap HX5.out (by simp)
    have c62 := cell_of_heap (i := 2) hx6 rfl
    have hsz6 := hf6.size
    have hxl6 := lt_of_heap hx6
    have hfr7 : Frm [] w6 ((w6.alloc (.cells #[.bool false, .int .i64 0, .int .i64 0] 87)).alloc (.cells #[.bool true, .int .i64 a.length, .int .i64 s.size] 87)) := ((Frm.refl _ w6).alloc _).alloc _
    have hins := vecInsertP ((w6.alloc (.cells #[.bool false, .int .i64 0, .int .i64 0] 87)).alloc (.cells #[.bool true, .int .i64 a.length, .int .i64 s.size] 87)) p1 fv1 ps' [((true, (a.length : Int), (s.size : Int)) : Pc)] i (.slice (some ⟨w6.heap.size + 1, 0, none⟩) 1 1)
      ((HV5.out.frm hf6 (by simp)).frm hfr7 (by simp)) (by
        have := ownsRow_lit0 (w6.alloc (.cells #[.bool false, .int .i64 0, .int .i64 0] 87)) #[.bool true, .int .i64 a.length, .int .i64 s.size] 87 3 1 rfl (by unfold maxLen; omega)
        rwa [World.size_alloc] at this) (fun q hq hm => by
        have := HV5L.out q hm
        simp [Value.ownBlock] at hq
        omega) hil (by simp; omega)
    have HINS := Lib.hid hins
    have HF67 := Lib.hid (hf6.trans hfr7 (by simp))
    clear hins hx6 hf6 hfr7
    go_wp2_with fail
    refine HINS.out.mono ?_
    rintro e w8 ⟨rfl, fv8, hv8, hf8, hb8⟩
    have HV8 := Lib.hid hv8
    have HF8 := Lib.hid hf8
    have HB8 := Lib.hid hb8
    clear hv8 hf8 hb8
    go_wp2_with fail
    go_ret
    have hq := ins_fresh (s := s.data.toList) HCA.out (fun e => by rw [e] at HSL; exact absurd HSL.out (by simp))
    refine ⟨rfl, HEND.out _ _ fv8 _ HF67.out HV8.out HF8.out HB8.out ?_⟩
    simpa using hq
  · obtain ⟨⟨b, o, n⟩, hp⟩ : ∃ y, ps'[i - 1]? = some y := ⟨_, List.getElem?_eq_getElem (by omega)⟩
    have hpo := HCA.out.2.2.2.1 _ (List.mem_of_getElem? hp)
    have hat := vecAtP_yes W5 p1 fv1 ps' (i - 1) b o n HV5.out hp
    rw [show ((i - 1 : Nat) : Int) = (i : Int) - 1 from by omega] at hat
    cases b with
    | false =>
      clear hp hpo
      refine hat.mono ?_
      rintro e w6 ⟨rfl, hf6⟩
      clear hat
      have hx6 := hf6.heap HX5.out (by simp)
      have c62 := cell_of_heap (i := 2) hx6 rfl
      have hsz6 := hf6.size
      have hxl6 := lt_of_heap hx6
      have hfr7 : Frm [] w6 ((w6.alloc (.cells #[.bool false, .int .i64 o, .int .i64 n] 87)).alloc (.cells #[.bool true, .int .i64 a.length, .int .i64 s.size] 87)) := ((Frm.refl _ w6).alloc _).alloc _
      have hins := vecInsertP ((w6.alloc (.cells #[.bool false, .int .i64 o, .int .i64 n] 87)).alloc (.cells #[.bool true, .int .i64 a.length, .int .i64 s.size] 87)) p1 fv1 ps' [((true, (a.length : Int), (s.size : Int)) : Pc)] i (.slice (some ⟨w6.heap.size + 1, 0, none⟩) 1 1)
        ((HV5.out.frm hf6 (by simp)).frm hfr7 (by simp)) (by
          have := ownsRow_lit0 (w6.alloc (.cells #[.bool false, .int .i64 o, .int .i64 n] 87)) #[.bool true, .int .i64 a.length, .int .i64 s.size] 87 3 1 rfl (by unfold maxLen; omega)
          rwa [World.size_alloc] at this) (fun q hq hm => by
          have := HV5L.out q hm
          simp [Value.ownBlock] at hq
          omega) hil (by simp; omega)
      have HINS := Lib.hid hins
      have HF67 := Lib.hid (hf6.trans hfr7 (by simp))
      clear hins hx6 hf6 hfr7
      go_wp2_with fail
      refine HINS.out.mono ?_
      rintro e w8 ⟨rfl, fv8, hv8, hf8, hb8⟩
      have HV8 := Lib.hid hv8
      have HF8 := Lib.hid hf8
      have HB8 := Lib.hid hb8
      clear hv8 hf8 hb8
      go_wp2_with fail
      go_ret
      have hq := ins_fresh (s := s.data.toList) HCA.out (fun e => by rw [e] at HSL; exact absurd HSL.out (by simp))
      refine ⟨rfl, HEND.out _ _ fv8 _ HF67.out HV8.out HF8.out HB8.out ?_⟩
      simpa using hq
    | true =>
      have ho0 : 0 ≤ o := hpo.1
      have ho1 : o + n ≤ (a.length : Int) := by simpa using hpo.2.2
      have hn0 : 0 < n := hpo.2.1
      have hwo : IntKind.i64.wrap (o + n) = o + n := by rw [IntKind.wrap_i64]; omega
      by_cases hend : o + n = (a.length : Int)
      · have hbe : ((o + n) == (a.length : Int)) = true := by rw [beq_iff_eq]; exact hend
        have HEQ := Lib.hid hend
        have HP := Lib.hid hp
        clear hend hp hpo
        refine hat.mono ?_
        rintro e w6 ⟨rfl, hf6⟩
        clear hat
        have hx6 := hf6.heap HX5.out (by simp)
        have c62 := cell_of_heap (i := 2) hx6 rfl
        have hsz6 := hf6.size
        have hxl6 := lt_of_heap hx6
        have hfr7 : Frm [] w6 ((w6.alloc (.cells #[.bool true, .int .i64 o, .int .i64 n] 87)).drew) := ((Frm.refl _ w6).alloc _).drew
        have hwn : IntKind.i64.wrap (n + (s.size : Int)) = n + (s.size : Int) := by rw [IntKind.wrap_i64]; omega
        have hwi : IntKind.i64.wrap ((i : Int) - 1) = (i : Int) - 1 := by rw [IntKind.wrap_i64]; omega
        have hset := vecSetP ((w6.alloc (.cells #[.bool true, .int .i64 o, .int .i64 n] 87)).drew) p1 fv1 ps' (i - 1) true o (n + (s.size : Int)) ((HV5.out.frm hf6 (by simp)).frm hfr7 (by simp)) (by omega)
        rw [show ((i - 1 : Nat) : Int) = (i : Int) - 1 from by omega] at hset
        have HSET := Lib.hid hset
        have HF67 := Lib.hid (hf6.trans hfr7 (by simp))
        clear hset hx6 hf6 hfr7
        go_wp2_with fail
        refine wp_region_tail 14 mixed (by kernel_rfl) ?_
        simp only [List.take_succ_cons, List.take_zero, List.drop_succ_cons, List.drop_zero]
        repeat still_step
        refine wpStill_nil ?_
        go_wp2_with fail
        refine HSET.out.mono ?_
        rintro e w8 ⟨rfl, hv8, hf8⟩
        have HV8 := Lib.hid hv8
        have HF8 := Lib.hid hf8
        clear hv8 hf8
        go_wp2_with fail
        go_ret
        have hca := HCA.out
        rw [show i = (i - 1) + 1 from by omega] at hca
        have hq := ins_widen (s := s.data.toList) hca HP.out HEQ.out
        refine ⟨rfl, HEND.out _ _ fv1 _ HF67.out HV8.out HF8.out (fun b hb => .inl hb) ?_⟩
        simpa using hq
      · have hbe : ((o + n) == (a.length : Int)) = false := by rw [beq_eq_false_iff_ne]; exact hend
        clear hend hp hpo
        refine hat.mono ?_
        rintro e w6 ⟨rfl, hf6⟩
        clear hat
        have hx6 := hf6.heap HX5.out (by simp)
        have c62 := cell_of_heap (i := 2) hx6 rfl
        have hsz6 := hf6.size
        have hxl6 := lt_of_heap hx6
        have hfr7 : Frm [] w6 ((w6.alloc (.cells #[.bool true, .int .i64 o, .int .i64 n] 87)).alloc (.cells #[.bool true, .int .i64 a.length, .int .i64 s.size] 87)) := ((Frm.refl _ w6).alloc _).alloc _
        have hins := vecInsertP ((w6.alloc (.cells #[.bool true, .int .i64 o, .int .i64 n] 87)).alloc (.cells #[.bool true, .int .i64 a.length, .int .i64 s.size] 87)) p1 fv1 ps' [((true, (a.length : Int), (s.size : Int)) : Pc)] i (.slice (some ⟨w6.heap.size + 1, 0, none⟩) 1 1)
          ((HV5.out.frm hf6 (by simp)).frm hfr7 (by simp)) (by
            have := ownsRow_lit0 (w6.alloc (.cells #[.bool true, .int .i64 o, .int .i64 n] 87)) #[.bool true, .int .i64 a.length, .int .i64 s.size] 87 3 1 rfl (by unfold maxLen; omega)
            rwa [World.size_alloc] at this) (fun q hq hm => by
            have := HV5L.out q hm
            simp [Value.ownBlock] at hq
            omega) hil (by simp; omega)
        have HINS := Lib.hid hins
        have HF67 := Lib.hid (hf6.trans hfr7 (by simp))
        clear hins hx6 hf6 hfr7
        go_wp2_with fail
        refine HINS.out.mono ?_
        rintro e w8 ⟨rfl, fv8, hv8, hf8, hb8⟩
        have HV8 := Lib.hid hv8
        have HF8 := Lib.hid hf8
        have HB8 := Lib.hid hb8
        clear hv8 hf8 hb8
        go_wp2_with fail
        go_ret
        have hq := ins_fresh (s := s.data.toList) HCA.out (fun e => by rw [e] at HSL; exact absurd HSL.out (by simp))
        refine ⟨rfl, HEND.out _ _ fv8 _ HF67.out HV8.out HF8.out HB8.out ?_⟩
        simpa using hq

end Go.Proofs.YtnajkjgjeiodmaaGreatDoor.Pp
