/-
  CONTRACT OF foolscaplaw3.whole: at an index of just this text it returns true, and changes nothing that lay in memory. Conditions: the text has fewer than 2^30 bytes.
-/
import Derived.Test.YtnajkjgjeiodmaaL3lines
namespace Go.Proofs.Ytnajkjgjeiodmaa
open Go.RowKit
open Go.Proofs (Try.prog)

theorem start_at_break (t : List UInt8) (k : Nat) (hk : t[k]? = some 10) : (starts t)[nl (t.take k) + 1]? = some ((k : Int) + 1) := by
  have hlt : k < t.length := (List.getElem?_eq_some_iff.1 hk).1
  rw [starts_split t (k + 1) (by omega), List.getElem?_append_left (by simp [brk_length, nl_snoc _ _ _ hk])]
  rw [brk_snoc 0 t k 10 hk, List.getElem?_cons_succ, List.getElem?_append_right (by rw [brk_length]; omega), brk_length]
  simp
theorem bound_next (t : List UInt8) (k : Nat) (hk : k ≤ t.length) : ∃ e', (bnd t)[nl (t.take k) + 1]? = some e' ∧ (k : Int) + 1 ≤ e' ∧ e' ≤ (t.length : Int) + 1 := by
  have hn := nl_take_total t k
  by_cases hl : nl (t.take k) = nl t
  · exact ⟨_, by rw [hl]; exact bnd_last t, by omega, by omega⟩
  · have hj : nl (t.take k) + 1 < nl t + 1 := by omega
    have h1 : nl (t.take k) + 1 < (starts t).length := by rw [starts_length]; omega
    have h2 := List.getElem?_eq_getElem h1
    have h3 := starts_range t _ (List.mem_of_getElem? h2)
    have h4 := starts_le t k hk _ _ h2
    refine ⟨_, by rw [bnd_start t _ hj]; exact h2, ?_, by omega⟩
    have : ¬ (nl (t.take k) + 1 ≤ nl (t.take k)) := by omega
    have h5 := mt h4.1 this
    omega

set_option maxRecDepth 100000 in
set_option maxHeartbeats 4000000 in
theorem whole3 (w : World) (x : Nat) (fp : List Nat) (s : ByteArray) (h : Idx w x fp s.data.toList) (hs : s.size ≤ 1000000) :
    Calls Try.prog 23 #[.pointer (some ⟨x, 0, none⟩), .string s] w fun e w' => e = .returned (.bool true) ∧ Frm [] w w' := by
  have HI := Lib.hid h
  clear h
  go_enter Try.func23, Try.ntmps23
  go_wp2_with fail
  go_loopw [5, 6, 7] (fun l f i wr => ∃ (k : Nat) (fr : Int), i = .int .i64 k ∧ f = .int .i64 fr ∧ ((k ≤ s.size ∧ l = .int .i64 (nl (s.data.toList.take k) : Nat) ∧ (starts s.data.toList)[nl (s.data.toList.take k)]? = some fr) ∨ (k = s.size + 1 ∧ l = .int .i64 (nl s.data.toList + 1 : Nat))) ∧ Frm [] w wr) (fun _ _ i _ => s.size + 1 - (intOf i).toNat)
  case atStart => exact ⟨0, 0, rfl, rfl, .inl ⟨Nat.zero_le _, rfl, rfl⟩, Frm.refl _ _⟩
  case round =>
    obtain ⟨k, fr, rfl, rfl, hcase, hfr⟩ := hrel
    have hss : s.data.toList.length = s.size := by simp
    rcases hcase with ⟨hk, rfl, hst⟩ | ⟨rfl, rfl⟩
    · have hi := HI.out.frm hfr (by simp)
      have hat := idxAt_yes wr x fp _ hi (by omega) k (by omega) fr hst
      have hr0 := starts_range _ _ (List.mem_of_getElem? hst)
      have hr1 := (starts_le _ k (by omega) _ _ hst).2 (Nat.le_refl _)
      have hL := nl_take_total s.data.toList k
      have hL2 := nl_le s.data.toList
      obtain ⟨e', he, he1, he2⟩ := bound_next s.data.toList k (by omega)
      have hbs : (bnd s.data.toList)[nl (s.data.toList.take k)]? = some fr := by rw [bnd_start _ _ (by omega)]; exact hst
      have hoff : ∀ w1, Frm [] wr w1 → Calls Try.prog 18 #[.pointer (some ⟨x, 0, none⟩), .agg #[.int .i64 (nl (s.data.toList.take k) : Nat), .int .i64 ((k : Int) - fr)]] w1 fun e w' => e = .returned (.tuple #[.int .i64 k, .bool true]) ∧ Frm [] w1 w' := fun w1 hf1 => by
        have := idxOff_yes w1 x fp _ (hi.frm hf1 (by simp)) (by omega) (nl (s.data.toList.take k)) fr e' ((k : Int) - fr) (by omega) hbs he (by omega) (by omega)
        rw [show fr + ((k : Int) - fr) = k by omega] at this
        exact this
      have hstart : ∀ w1, Frm [] wr w1 → _ := fun w1 hf1 => idxStart_yes w1 x fp _ (hi.frm hf1 (by simp)) (nl (s.data.toList.take k)) fr hst
      have hsize : ∀ w1, Frm [] wr w1 → _ := fun w1 hf1 => idxSize_yes w1 x fp _ (hi.frm hf1 (by simp)) (by omega) (nl (s.data.toList.take k)) fr e' (by omega) hbs he
      have HOFF := Lib.hid hoff
      have HSTART := Lib.hid hstart
      have HSIZE := Lib.hid hsize
      have HFR := Lib.hid hfr
      have HHE := Lib.hid he
      have HST := Lib.hid hst
      have hwrap : IntKind.i64.wrap ((k : Int) - fr) = (k : Int) - fr := by rw [IntKind.wrap_i64]; omega
      by_cases hlt : k < s.size
      · have hsk := str_get s k hlt
        have hsn := nl_snoc _ k _ hsk
        by_cases h10 : s[k] = 10
        · as_aux_lemma =>
          have htest := test10_yes h10
          rw [if_pos h10] at hsn
          have hsb := start_at_break _ k (by rw [hsk, h10])
          have hll := nl_take_total s.data.toList (k + 1)
          have he2 : (e' : Int) - 1 - fr = (k : Int) - fr := by
            rw [bnd_start _ _ (by omega), hsb] at he
            have := Option.some.inj he
            omega
          have HE2 := Lib.hid he2
          have HSB := Lib.hid hsb
          have HSN := Lib.hid hsn
          clear hsb he2
          clear hoff hstart hsize he hst hbs hi hfr hsn hsk h10
          generalize hLe : nl (s.data.toList.take k) = L at *
          have HLE := Lib.hid hLe
          clear hLe
          go_wp2_with fail
          refine hat.mono ?_
          rintro e w1 ⟨rfl, hf1⟩
          have hf2 : Frm [] wr (w1.alloc (.cells #[.int .i64 (L : Nat), .int .i64 ((k : Int) - fr)] 23)) := hf1.alloc _
          have ho := HOFF.out _ hf2
          have HF2 := Lib.hid hf2
          clear hat hf1 hf2
          go_wp2_with fail
          refine ho.mono ?_
          rintro e w3 ⟨rfl, hf3⟩
          have hp3 := hf3.heap (heap_alloc_at w1 (.cells #[.int .i64 (L : Nat), .int .i64 ((k : Int) - fr)] 23)) (by simp)
          have hc0 := cell_of_heap (i := 0) hp3 rfl
          have hc1 := cell_of_heap (i := 1) hp3 rfl
          have HF3 := Lib.hid (HF2.out.trans hf3 (by simp))
          clear ho hf3 hp3
          go_wp2_with fail
          have hs3 := HSTART.out _ HF3.out
          have hz3 := HSIZE.out _ HF3.out
          rw [HE2.out] at hz3
          go_wp2_with fail
          refine hs3.mono ?_
          rintro e w' ⟨rfl, rfl⟩
          clear hs3
          go_wp2_with fail
          refine hz3.mono ?_
          rintro e w' ⟨rfl, rfl⟩
          clear hz3
          go_wp2_with fail
          refine ⟨⟨k + 1, (k : Int) + 1, by go_num, rfl, .inl ⟨by omega, ?_, ?_⟩, HFR.out.trans HF3.out (by simp)⟩, ?_⟩
          · rw [HSN.out]
            go_num
          · rw [HSN.out]
            exact HSB.out
          · simp [intOf]
            omega
        · as_aux_lemma =>
          have htest := test10_no h10
          rw [if_neg h10, Nat.add_zero] at hsn
          have HSN := Lib.hid hsn
          clear hoff hstart hsize he hst hbs hi hfr hsn hsk h10
          generalize hLe : nl (s.data.toList.take k) = L at *
          have HLE := Lib.hid hLe
          clear hLe
          go_wp2_with fail
          refine hat.mono ?_
          rintro e w1 ⟨rfl, hf1⟩
          have hf2 : Frm [] wr (w1.alloc (.cells #[.int .i64 (L : Nat), .int .i64 ((k : Int) - fr)] 23)) := hf1.alloc _
          have ho := HOFF.out _ hf2
          have HF2 := Lib.hid hf2
          clear hat hf1 hf2
          go_wp2_with fail
          refine ho.mono ?_
          rintro e w3 ⟨rfl, hf3⟩
          have hp3 := hf3.heap (heap_alloc_at w1 (.cells #[.int .i64 (L : Nat), .int .i64 ((k : Int) - fr)] 23)) (by simp)
          have hc0 := cell_of_heap (i := 0) hp3 rfl
          have hc1 := cell_of_heap (i := 1) hp3 rfl
          have HF3 := Lib.hid (HF2.out.trans hf3 (by simp))
          clear ho hf3 hp3
          go_wp2_with fail
          refine ⟨⟨k + 1, fr, by go_num, rfl, .inl ⟨by omega, ?_, ?_⟩, HFR.out.trans HF3.out (by simp)⟩, ?_⟩
          · rw [HSN.out, Nat.add_zero]
          · rw [HSN.out, Nat.add_zero]
            exact HST.out
          · simp [intOf]
            omega
      · as_aux_lemma =>
          obtain rfl : k = s.size := by omega
          have hall : s.data.toList.take s.size = s.data.toList := List.take_of_length_le (by simp)
          have he2 : (e' : Int) - 1 - fr = (s.size : Int) - fr := by
            rw [hall, bnd_last] at he
            have := Option.some.inj he
            omega
          have HE2 := Lib.hid he2
          have HALL := Lib.hid hall
          clear he2 hall
          clear hoff hstart hsize he hst hbs hi hfr
          generalize hLe : nl (s.data.toList.take s.size) = L at *
          have HLE := Lib.hid hLe
          clear hLe
          go_wp2_with fail
          refine hat.mono ?_
          rintro e w1 ⟨rfl, hf1⟩
          have hf2 : Frm [] wr (w1.alloc (.cells #[.int .i64 (L : Nat), .int .i64 ((s.size : Int) - fr)] 23)) := hf1.alloc _
          have ho := HOFF.out _ hf2
          have HF2 := Lib.hid hf2
          clear hat hf1 hf2
          go_wp2_with fail
          refine ho.mono ?_
          rintro e w3 ⟨rfl, hf3⟩
          have hp3 := hf3.heap (heap_alloc_at w1 (.cells #[.int .i64 (L : Nat), .int .i64 ((s.size : Int) - fr)] 23)) (by simp)
          have hc0 := cell_of_heap (i := 0) hp3 rfl
          have hc1 := cell_of_heap (i := 1) hp3 rfl
          have HF3 := Lib.hid (HF2.out.trans hf3 (by simp))
          clear ho hf3 hp3
          go_wp2_with fail
          have hs3 := HSTART.out _ HF3.out
          have hz3 := HSIZE.out _ HF3.out
          rw [HE2.out] at hz3
          go_wp2_with fail
          refine hs3.mono ?_
          rintro e w' ⟨rfl, rfl⟩
          clear hs3
          go_wp2_with fail
          refine hz3.mono ?_
          rintro e w' ⟨rfl, rfl⟩
          clear hz3
          go_wp2_with fail
          refine ⟨⟨s.size + 1, (s.size : Int) + 1, by go_num, rfl, .inr ⟨rfl, ?_⟩, HFR.out.trans HF3.out (by simp)⟩, ?_⟩
          · rw [← HLE.out, HALL.out]
            go_num
          · simp [intOf]
    · as_aux_lemma =>
      have hN := nl_le s.data.toList
      have hi := HI.out.frm hfr (by simp)
      have hst := idxStart_no wr x fp _ hi ((nl s.data.toList : Int) + 1) (by omega)
      have hsz := idxSize_no wr x fp _ hi (-1) (by omega)
      have hat := idxAt_no wr x fp _ hi ((s.size : Int) + 1) (by omega)
      have hat2 : ∀ w1, Frm [] wr w1 → _ := fun w1 hf1 => idxAt_no w1 x fp _ (hi.frm hf1 (by simp)) (-1) (by omega)
      have hli : ∀ w1, Frm [] wr w1 → _ := fun w1 hf1 => idxLines w1 x fp _ (hi.frm hf1 (by simp))
      have hle : ∀ w1, Frm [] wr w1 → _ := fun w1 hf1 => idxLen w1 x fp _ (hi.frm hf1 (by simp))
      rw [hss] at hle
      have HFR := Lib.hid hfr
      have HAT2 := Lib.hid hat2
      have HLI := Lib.hid hli
      have HLE := Lib.hid hle
      clear hi hfr hat2 hli hle
      rw [hss] at hN
      clear hss
      generalize nl s.data.toList = N at *
      rw [show ((N + 1 : Nat) : Int) = (N : Int) + 1 by omega]
      go_wp2_with fail
      refine hst.mono ?_
      rintro e w' ⟨rfl, rfl⟩
      clear hst
      go_wp2_with fail
      refine hsz.mono ?_
      rintro e w' ⟨rfl, rfl⟩
      clear hsz
      go_wp2_with fail
      refine hat.mono ?_
      rintro e w1 ⟨rfl, hf1⟩
      have hf2 : Frm [] wr (w1.alloc (.cells #[.int .i64 0, .int .i64 0] 23)) := hf1.alloc _
      have ha2 := HAT2.out _ hf2
      have HF2 := Lib.hid hf2
      clear hat hf1 hf2
      go_wp2_with fail
      refine ha2.mono ?_
      rintro e w3 ⟨rfl, hf3⟩
      have hf4 : Frm [] wr (w3.alloc (.cells #[.int .i64 0, .int .i64 0] 23)) := (HF2.out.trans hf3 (by simp)).alloc _
      have hl1 := HLI.out _ hf4
      have hl2 := HLE.out _ hf4
      have HF4 := Lib.hid hf4
      clear ha2 hf3 hf4
      go_wp2_with fail
      refine hl1.mono ?_
      rintro e w' ⟨rfl, rfl⟩
      clear hl1
      go_wp2_with fail
      refine hl2.mono ?_
      rintro e w' ⟨rfl, rfl⟩
      clear hl2
      go_wp2_with fail
      go_ret
      exact ⟨rfl, HFR.out.trans HF4.out (by simp)⟩

end Go.Proofs.Ytnajkjgjeiodmaa
