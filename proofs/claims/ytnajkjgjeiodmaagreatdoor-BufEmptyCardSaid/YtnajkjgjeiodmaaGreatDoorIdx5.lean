/-
  CONTRACT OF lineidx.Index.Insert. Conditions: the text has fewer than 2^30 bytes.
-/
import Derived.Test.YtnajkjgjeiodmaaGreatDoorIdx4
import Derived.Maps.AppendAt
namespace Go.Proofs.YtnajkjgjeiodmaaGreatDoor
open Go.RowKit
open Go.Proofs (Tryz.prog)

theorem brk_snoc (o : Int) (l : List UInt8) (k : Nat) (c : UInt8) (hc : l[k]? = some c) : brk o (l.take (k + 1)) = brk o (l.take k) ++ (if c = 10 then [o + (k : Int) + 1] else []) := by
  have hk : k < l.length := (List.getElem?_eq_some_iff.1 hc).1
  rw [List.take_add_one, hc, brk_append, List.length_take, Nat.min_eq_left (Nat.le_of_lt hk)]
  simp [brk]

/-- The loop that collects where new lines begin. -/
def collects (W : World) (off : Nat) (l : List UInt8) (k : Nat) (v : Value) (wr : World) : Prop :=
  wr.ownsRow W.heap.size 3 1 v (brk off (l.take k)).length ((brk off (l.take k)).flatMap encI) ∧ Frm [] W wr
theorem collects.start (W : World) (off : Nat) (l : List UInt8) : collects W off l 0 (.slice none 0 0) W := by
  refine ⟨?_, Frm.refl _ _⟩
  simpa [brk] using World.ownsRow_nil W W.heap.size 3 1
theorem collects.keep {W wr : World} {off : Nat} {l : List UInt8} {k : Nat} {v : Value} {c : UInt8} (h : collects W off l k v wr) (hc : l[k]? = some c) (hn : c ≠ 10) : collects W off l (k + 1) v wr := by
  obtain ⟨h1, h2⟩ := h
  refine ⟨?_, h2⟩
  rw [brk_snoc off l k c hc, if_neg hn, List.append_nil]
  exact h1
theorem collects.put {W wr w2 : World} {off : Nat} {l : List UInt8} {k : Nat} {v v' : Value} {c : UInt8} {o : Obj} (h : collects W off l k v wr) (hc : l[k]? = some c) (hn : c = 10)
    (hr : w2.ownsRow W.heap.size 3 1 v' ((brk off (l.take k)).length + 1) ((brk off (l.take k)).flatMap encI ++ [.int .i64 ((off : Int) + k + 1)])) (hf : Frm v.ownBlock.toList (wr.alloc o) w2) : collects W off l (k + 1) v' w2 := by
  obtain ⟨h1, h2⟩ := h
  refine ⟨?_, (h2.alloc o).trans hf (fun x hx => .inr (h1.lt x (by simpa using hx)).1)⟩
  rw [brk_snoc off l k c hc, if_pos hn, List.length_append, List.flatMap_append]
  exact hr
theorem ownsRow_zero {w : World} {base e size : Nat} {v : Value} {n : Nat} {cs : List Value} (h : w.ownsRow base e size v n cs) : w.ownsRow 0 e size v n cs := by
  refine ⟨h.1, ?_⟩
  rcases h.2 with h0 | ⟨g, cap, cur, rfl, _, h1⟩
  · exact .inl h0
  · exact .inr ⟨g, cap, cur, rfl, Nat.zero_le _, h1⟩
theorem collects.form {W wr : World} {off : Nat} {l : List UInt8} {k : Nat} {v : Value} (h : collects W off l k v wr) : ∃ a n c, v = .slice a n c := by
  obtain ⟨a, c, rfl, _⟩ := ownsRow_form h.1
  exact ⟨_, _, _, rfl⟩

theorem mvd_split (by_ : Int) (n : Nat) (A B : List Int) (hA : A.length = n + 1) : mvd (n : Int) by_ (A ++ B) = A ++ B.map (· + by_) := by
  apply List.ext_getElem?
  intro i
  by_cases hi : i < A.length
  · rw [List.getElem?_append_left hi]
    have h1 : (A ++ B)[i]? = some A[i] := by rw [List.getElem?_append_left hi, List.getElem?_eq_getElem hi]
    rw [mvd_get h1, if_neg (by omega), List.getElem?_eq_getElem hi]
  · rw [List.getElem?_append_right (by omega), List.getElem?_map]
    cases hb : B[i - A.length]? with
    | none =>
      have : (A ++ B).length ≤ i := by
        have := List.getElem?_eq_none_iff.1 hb
        rw [List.length_append]; omega
      rw [List.getElem?_eq_none (by rw [mvd_length]; exact this)]
      rfl
    | some b =>
      have h1 : (A ++ B)[i]? = some b := by rw [List.getElem?_append_right (by omega), hb]
      rw [mvd_get h1, if_pos (by omega)]
      rfl

set_option maxRecDepth 100000 in
set_option maxHeartbeats 2000000 in
theorem idxInsert (w : World) (x : Nat) (fp : List Nat) (t : List UInt8) (off : Nat) (s : ByteArray) (h : Idx w x fp t) (ho : off ≤ t.length) (ht : t.length + s.size ≤ 1073741824) :
    Calls Tryz.prog 51 #[.pointer (some ⟨x, 0, none⟩), .int .i64 off, .string s] w fun e w' => e = .returned (.bool true) ∧ ∃ fp', Idx w' x fp' (t.take off ++ s.data.toList ++ t.drop off) ∧ Frm fp w w' ∧ ∀ b ∈ fp', b ∈ fp ∨ w.heap.size ≤ b := by
  have hline := idxLine w x fp t off h ho (by omega)
  obtain ⟨p, fv, hx, hv, rfl⟩ := h
  have hxl := lt_of_heap hx
  have hxv : x ∉ fv := hv.not_mem hx (by decide) (by decide)
  have hvl := hv.lt
  have hnt := nl_le t
  have hL := nl_take_total t off
  have hmove := idxMove w x p fv (starts t) (nl (t.take off) : Nat) (s.size : Int) _ hx rfl hv (by rw [starts_length]; omega) (fun q hq => by have := starts_range t q hq; omega) (by omega) (by omega)
  have hc0 := cell_of_heap (i := 0) hx rfl
  have hc1 := cell_of_heap (i := 1) hx rfl
  obtain ⟨L, hLe⟩ : ∃ L, L = nl (t.take off) := ⟨_, rfl⟩
  rw [← hLe] at hline hmove hL
  have hLb : L ≤ 1073741824 := by omega
  obtain ⟨T, hT⟩ : ∃ T, T = t.length := ⟨_, rfl⟩
  rw [← hT] at ho ht hc1
  have HX := Lib.hid hx
  have HXV := Lib.hid hxv
  have HV := Lib.hid hv
  have HVL := Lib.hid hvl
  have HLE := Lib.hid hLe
  have HT := Lib.hid hT
  clear hx hxv hv hvl hLe hT
  go_enter Tryz.func51, Tryz.ntmps51
  go_wp2_with fail
  refine hline.mono ?_
  rintro e w' ⟨rfl, rfl⟩
  clear hline
  go_wp2_with fail
  refine hmove.mono ?_
  rintro e w1 ⟨⟨ve, rfl⟩, hv1, hf1⟩
  have hx1 := hf1.heap HX.out HXV.out
  have HX1 := Lib.hid hx1
  have HV1 := Lib.hid hv1
  have HF1 := Lib.hid hf1
  clear hmove hv1 hf1 hx1 hc0 hc1
  go_wp2_with fail
  obtain ⟨i0, hi, hz0, hz1, hz2⟩ := info_parts infoI
  go_loopw [8, 9, 30] (fun v _ i wr => ∃ k : Nat, k ≤ s.size ∧ i = .int .i64 k ∧ collects w1 off s.data.toList k v wr) (fun _ _ i _ => s.size - (intOf i).toNat)
  case atStart => exact ⟨0, Nat.zero_le _, rfl, collects.start _ _ _⟩
  case round =>
    obtain ⟨k, hk, rfl, hcol⟩ := hrel
    have HCOL := Lib.hid hcol
    by_cases hlt : k < s.size
    · have hsk : s.data.toList[k]? = some s[k] := by
        rw [List.getElem?_eq_getElem (by simpa using hlt)]; rfl
      by_cases h10 : s[k] = 10
      · have htest : ((s[k].toNat : Int) == 10) = true := by rw [h10]; rfl
        obtain ⟨hown, hfr⟩ := hcol
        have hput := fun (v' : Value) (w2 : World) (o : Obj) => collects.put (v' := v') (w2 := w2) (o := o) HCOL.out hsk h10
        obtain ⟨cs, hcs⟩ : ∃ cs, cs = (brk off (s.data.toList.take k)).flatMap encI := ⟨_, rfl⟩
        have hM : (brk off (s.data.toList.take k)).length ≤ s.size := by
          rw [brk_length]
          have := nl_le (s.data.toList.take k)
          rw [List.length_take] at this
          omega
        rw [← hcs] at hown hput
        generalize (brk off (s.data.toList.take k)).length = M at hown hput hM
        obtain ⟨a, c, rfl, _, _⟩ := ownsRow_form hown
        have hsz := hfr.size
        have HPUT := Lib.hid hput
        have HSK := Lib.hid hsk
        have H10 := Lib.hid h10
        clear hput hsk h10 hcs hfr
        go_wp2_with (at_builtin; refine wpList_append_row rfl (.tmp 37) (.tmp 42) 113 rfl w1.heap.size 3 i0 (.int .i64 0) 1 8 Tryz.underlying113 hi hz0 hz1 hz2 rfl (by decide) _ M cs rfl (hown.alloc _) _ 1 [.int .i64 ((off : Int) + k + 1)] rfl (.inr ⟨_, _, rfl, cell_one_new _ _ _⟩) rfl (by simp [Value.oneCell']) (by unfold maxLen; omega) (by omega) (by simp; omega) ?_)
        intro v' w2 hr2 hf2 _ _
        have hcol2 := HPUT.out v' w2 _ hr2 hf2
        obtain ⟨a2, n2, c2, rfl⟩ := hcol2.form
        have HC2 := Lib.hid hcol2
        clear hr2 hf2 hcol2 hown
        go_wp2_with fail
        go_roundw
        case rel => exact ⟨k + 1, by omega, by go_num, HC2.out⟩
        case measure => simp [intOf]; omega
      · have htest : ((s[k].toNat : Int) == 10) = false := by
          have : s[k].toNat ≠ 10 := fun e => h10 (UInt8.toNat_inj.1 e)
          rw [beq_eq_false_iff_ne]; omega
        have hcol2 := HCOL.out.keep hsk h10
        obtain ⟨a, n, c, rfl⟩ := hcol2.form
        have HC2 := Lib.hid hcol2
        clear hcol hcol2 hsk h10
        go_wp2_with fail
        go_roundw
        case rel => exact ⟨k + 1, by omega, by go_num, HC2.out⟩
        case measure => simp [intOf]; omega
    · obtain rfl : k = s.size := by omega
      have hall : s.data.toList.take s.size = s.data.toList := List.take_of_length_le (by simp)
      obtain ⟨hown, hfr⟩ := hcol
      rw [hall] at hown
      obtain ⟨a, c, rfl, _, _⟩ := ownsRow_form hown
      have hxr := hfr.heap HX1.out (by simp)
      have hvr := HV1.out.frm hfr (by simp)
      have hw1 := HF1.out.size
      have hTT := HT.out
      have hss : s.data.toList.length = s.size := by simp
      have hml : (mvd (L : Nat) (s.size : Int) (starts t)).length = nl t + 1 := by rw [mvd_length, starts_length]
      have hbl : (brk off s.data.toList).length ≤ s.size := by
        rw [brk_length]
        have := nl_le s.data.toList
        simpa using this
      have hins := vecInsertI wr p fv _ (brk off s.data.toList) (L + 1) _ hvr (ownsRow_zero hown) (fun b hb hm => by
        have h1 := (hown.lt b hb).1
        have h2 := HVL.out b hm
        omega) (by omega) (by omega)
      have hres : (mvd (L : Nat) (s.size : Int) (starts t)).take (L + 1) ++ brk off s.data.toList ++ (mvd (L : Nat) (s.size : Int) (starts t)).drop (L + 1) = starts (t.take off ++ s.data.toList ++ t.drop off) := by
        rw [starts_insert t _ off (by omega), starts_split t off (by omega)]
        have hA : (0 :: brk 0 (t.take off)).length = L + 1 := by simp [brk_length, HLE.out]
        rw [mvd_split _ _ _ _ hA, List.take_left' hA, List.drop_left' hA, hss]
      rw [hres] at hins
      have hlen : ((t.take off ++ s.data.toList ++ t.drop off).length : Int) = (t.length : Int) + (s.size : Int) := by
        simp only [List.length_append, List.length_take, List.length_drop, Array.length_toList]
        have : s.data.size = s.size := rfl
        omega
      have hcr0 := cell_of_heap (i := 0) hxr rfl
      have hxlr := lt_of_heap hxr
      have HINS := Lib.hid hins
      have HXR := Lib.hid hxr
      have HFR := Lib.hid hfr
      have HLEN := Lib.hid hlen
      have HSZR := Lib.hid hfr.size
      have hLi : ((L : Int) + 1) = ((L + 1 : Nat) : Int) := by omega
      have HLI := Lib.hid hLi
      clear hins hxr hfr hlen hown hvr hml hres hall hLi HCOL hk hlt hTT hss
      generalize (brk off s.data.toList).length = nb at *
      go_wp2_with fail
      rw [HLI.out]
      refine HINS.out.mono ?_
      rintro e w3 ⟨rfl, fp3, hv3, hf3, hb3⟩
      have hx3 := hf3.heap HXR.out HXV.out
      have hc3 := cell_of_heap (i := 1) hx3 rfl
      have hz3 := frozen_of_heap 1 hx3
      have HX3 := Lib.hid hx3
      have HV3 := Lib.hid hv3
      have HF3 := Lib.hid hf3
      have HB3 := Lib.hid hb3
      clear hx3 hv3 hf3 hb3 hcr0
      rw [← HT.out] at hc3
      go_wp2_with fail
      go_ret
      have hxf : x ∉ fp3 := fun hm => by
        rcases HB3.out x hm with h | h
        · exact HXV.out h
        · omega
      have hF : Frm (x :: fv) w w3 := ((HF1.out.mono (S' := x :: fv) (fun b hb => .inl (List.mem_cons_of_mem _ hb))).trans HFR.out (by simp)).trans HF3.out (fun b hb => .inl (List.mem_cons_of_mem _ hb))
      refine ⟨rfl, x :: fp3, ⟨p, fp3, ?_, HV3.out.kept (fun b o hb ho => by rw [heap_set_other _ (fun e => hxf (by have e' : b = x := e; rw [← e']; exact hb))]; exact ho), rfl⟩, hF.setCell (.inl (by simp)) _, ?_⟩
      · have h1 := heap_set_at (i := 1) (.int .i64 ((T : Int) + (s.size : Int))) HX3.out
        rw [HLEN.out, ← HT.out]
        simpa using h1
      · intro b hb
        rcases List.mem_cons.1 hb with rfl | hb
        · exact .inl (by simp)
        · rcases HB3.out b hb with h | h
          · exact .inl (by simp [h])
          · have := HSZR.out
            have := HF1.out.size
            exact .inr (by omega)

end Go.Proofs.YtnajkjgjeiodmaaGreatDoor
