/-
  CONTRACTS OF lineidx.Index: Insert and Delete out of range, Delete in range. Conditions: the text has fewer than 2^30 bytes.
-/
import Derived.Test.YtnajkjgjeiodmaaGreatDoorIdx6
import Derived.Test.YtnajkjgjeiodmaaGreatDoorBase2
namespace Go.Proofs.YtnajkjgjeiodmaaGreatDoor
open Go.RowKit
open Go.Proofs (Tryz.prog)

set_option maxHeartbeats 400000 in
theorem idxInsert_no (w : World) (x : Nat) (fp : List Nat) (t : List UInt8) (off : Int) (s : ByteArray) (h : Idx w x fp t) (ho : ¬ (0 ≤ off ∧ off ≤ t.length)) :
    Calls Tryz.prog 51 #[.pointer (some ⟨x, 0, none⟩), .int .i64 off, .string s] w fun e w' => e = .returned (.bool false) ∧ w = w' := by
  obtain ⟨p, fv, h0, h1, hv⟩ := h.open
  clear h hv
  generalize t.length = T at *
  by_cases h2 : 0 ≤ off
  · have h3 : (T : Int) < off := by omega
    clear ho
    go_enter Tryz.func51, Tryz.ntmps51
    go_wp2_with fail
    go_ret
    exact ⟨rfl, rfl⟩
  · clear ho
    go_enter Tryz.func51, Tryz.ntmps51
    go_wp2_with fail
    go_ret
    exact ⟨rfl, rfl⟩

set_option maxHeartbeats 800000 in
theorem idxDelete_no (w : World) (x : Nat) (fp : List Nat) (t : List UInt8) (off n : Int) (h : Idx w x fp t) (ht : t.length ≤ 1073741824) (ho : ¬ (0 ≤ off ∧ 0 ≤ n ∧ off ≤ t.length ∧ n ≤ t.length - off)) :
    Calls Tryz.prog 55 #[.pointer (some ⟨x, 0, none⟩), .int .i64 off, .int .i64 n] w fun e w' => e = .returned (.bool false) ∧ w = w' := by
  obtain ⟨p, fv, h0, h1, hv⟩ := h.open
  clear h hv
  generalize t.length = T at *
  by_cases h2 : 0 ≤ off
  · by_cases h3 : 0 ≤ n
    · by_cases h4 : off ≤ T
      · have h5 : (T : Int) - off < n := by omega
        clear ho
        go_enter Tryz.func55, Tryz.ntmps55
        go_wp2_with fail
        go_ret
        exact ⟨rfl, rfl⟩
      · clear ho
        go_enter Tryz.func55, Tryz.ntmps55
        go_wp2_with fail
        go_ret
        exact ⟨rfl, rfl⟩
    · clear ho
      go_enter Tryz.func55, Tryz.ntmps55
      go_wp2_with fail
      go_ret
      exact ⟨rfl, rfl⟩
  · clear ho
    go_enter Tryz.func55, Tryz.ntmps55
    go_wp2_with fail
    go_ret
    exact ⟨rfl, rfl⟩

/-- vec.Delete of a stretch that may be empty. -/
theorem vecDeleteI_any (w : World) (p : Nat) (fp : List Nat) (xs : List Int) (i j : Nat) (h : VecI w p fp xs) (hij : i ≤ j) (hj : j ≤ xs.length) (hx : xs.length ≤ 1099511627776) :
    Calls Tryz.prog 78 #[.pointer (some ⟨p, 0, none⟩), .int .i64 i, .int .i64 ((j : Int) - (i : Int))] w fun e w' => (∃ v, e = .returned v) ∧ ∃ fp', VecI w' p fp' (xs.take i ++ xs.drop j) ∧ Frm fp w w' ∧ ∀ b ∈ fp', b ∈ fp ∨ w.heap.size ≤ b := by
  by_cases he : i = j
  · subst he
    refine (vecDeleteI_none w p fp xs i _ h (.inr (by omega))).mono ?_
    rintro e w' ⟨hv, rfl⟩
    exact ⟨hv, fp, by rw [List.take_append_drop]; exact h, Frm.refl _ _, fun b hb => .inl hb⟩
  · have hd := vecDeleteI w p fp xs i (j - i) h (by omega) (by omega) hx
    rw [show ((j - i : Nat) : Int) = (j : Int) - (i : Int) by omega, show i + (j - i) = j by omega] at hd
    exact hd

set_option maxRecDepth 100000 in
set_option maxHeartbeats 2000000 in
theorem idxDelete (w : World) (x : Nat) (fp : List Nat) (t : List UInt8) (off n : Nat) (h : Idx w x fp t) (ho : off + n ≤ t.length) (ht : t.length ≤ 1073741824) :
    Calls Tryz.prog 55 #[.pointer (some ⟨x, 0, none⟩), .int .i64 off, .int .i64 n] w fun e w' => e = .returned (.bool true) ∧ ∃ fp', Idx w' x fp' (t.take off ++ t.drop (off + n)) ∧ Frm fp w w' ∧ ∀ b ∈ fp', b ∈ fp ∨ w.heap.size ≤ b := by
  have hl1 := idxLine w x fp t off h (by omega) ht
  have hl2 := idxLine w.drew x fp t (off + n) h (by omega) ht
  obtain ⟨p, fv, hx, hv, rfl⟩ := h
  have hxl := lt_of_heap hx
  have hxv : x ∉ fv := hv.not_mem hx (by decide) (by decide)
  have hnt := nl_le t
  have hL := nl_take_total t off
  have hL2 := nl_take_total t (off + n)
  have hLL := nl_take_le t (show off ≤ off + n by omega)
  have hdel := vecDeleteI_any w.drew p fv (starts t) (nl (t.take off) + 1) (nl (t.take (off + n)) + 1) hv (by omega) (by rw [starts_length]; omega) (by rw [starts_length]; omega)
  have hA : (0 :: brk 0 (t.take off)).length = nl (t.take off) + 1 := by simp [brk_length]
  have hA2 : (0 :: brk 0 (t.take (off + n))).length = nl (t.take (off + n)) + 1 := by simp [brk_length]
  have hxs : (starts t).take (nl (t.take off) + 1) ++ (starts t).drop (nl (t.take (off + n)) + 1) = (0 :: brk 0 (t.take off)) ++ brk (off + n : Nat) (t.drop (off + n)) := by
    congr 1
    · rw [starts_split t off (by omega), List.take_left' hA]
    · rw [starts_split t (off + n) (by omega), List.drop_left' hA2]
  rw [hxs] at hdel
  have hres : mvd (nl (t.take off) : Nat) (-(n : Int)) ((0 :: brk 0 (t.take off)) ++ brk (off + n : Nat) (t.drop (off + n))) = starts (t.take off ++ t.drop (off + n)) := by
    rw [mvd_split _ _ _ _ hA, starts_delete t off n ho]
  have hxr : ∀ q ∈ (0 :: brk 0 (t.take off)) ++ brk (off + n : Nat) (t.drop (off + n)), 0 ≤ q ∧ q ≤ t.length := fun q hq => by
    rw [← hxs] at hq
    refine starts_range t q ?_
    rcases List.mem_append.1 hq with h | h
    · exact List.mem_of_mem_take h
    · exact List.mem_of_mem_drop h
  have hxlen : ((0 :: brk 0 (t.take off)) ++ brk (off + n : Nat) (t.drop (off + n))).length ≤ 1099511627776 := by
    rw [← hxs, List.length_append, List.length_take, List.length_drop, starts_length]
    omega
  have hlen : ((t.take off ++ t.drop (off + n)).length : Int) = (t.length : Int) - (n : Int) := by
    simp only [List.length_append, List.length_take, List.length_drop]
    omega
  have hc0 := cell_of_heap (i := 0) hx rfl
  have hc1 := cell_of_heap (i := 1) hx rfl
  have hd0 : w.drew.cell? ⟨x, 0, none⟩ = some (.pointer (some ⟨p, 0, none⟩)) := hc0
  generalize hYS : (0 :: brk 0 (t.take off)) ++ brk (off + n : Nat) (t.drop (off + n)) = YS at *
  clear hYS hA hA2 hxs
  generalize hLe : nl (t.take off) = L at *
  generalize nl (t.take (off + n)) = M at *
  have HRES := Lib.hid hres
  have HLEN := Lib.hid hlen
  clear hLe hres hlen
  generalize hTL : t.length = T at *
  have hs1 : IntKind.i64.wrap ((L : Int) + 1) = ((L + 1 : Nat) : Int) := by rw [IntKind.wrap_i64]; omega
  have hs2 : IntKind.i64.wrap ((off : Int) + (n : Int)) = ((off + n : Nat) : Int) := by rw [IntKind.wrap_i64]; omega
  have hs3 : IntKind.i64.wrap ((M : Int) - (L : Int)) = (M : Int) - (L : Int) := by rw [IntKind.wrap_i64]; omega
  have hs4 : ((M + 1 : Nat) : Int) - ((L + 1 : Nat) : Int) = (M : Int) - (L : Int) := by omega
  rw [hs4] at hdel
  have mixed : Tryz.prog.follows .mixedOrders = true := by kernel_rfl
  have HX := Lib.hid hx
  have HXV := Lib.hid hxv
  have HTL := Lib.hid hTL
  have HXR := Lib.hid hxr
  have HXLEN := Lib.hid hxlen
  have HS1 := Lib.hid hs1
  have HS2 := Lib.hid hs2
  have HD0 := Lib.hid hd0
  have HDEL := Lib.hid hdel
  have HL2 := Lib.hid hl2
  clear hx hxv hv hTL hxr hxlen hs1 hs2 hd0 hdel hl2 hs4
  go_enter Tryz.func55, Tryz.ntmps55
  go_wp2_with fail
  refine hl1.mono ?_
  rintro e w' ⟨rfl, rfl⟩
  clear hl1
  go_wp2_with fail
  have hs1 := HS1.out
  have hs2 := HS2.out
  have hd0 := HD0.out
  refine wp_region_tail 13 mixed (by kernel_rfl) ?_
  simp only [List.take_succ_cons, List.take_zero, List.drop_succ_cons, List.drop_zero]
  repeat still_step
  clear hs1 hs2 hd0
  still_call (HL2.out.mono fun e w' h => ⟨h.1, h.2.symm⟩)
  repeat still_step
  refine wpStill_nil ?_
  go_wp2_with fail
  refine HDEL.out.mono ?_
  rintro e w2 ⟨⟨ve, rfl⟩, fp2, hv2, hf2, hb2⟩
  have hxf : x ∉ fp2 := fun hm => by
    rcases hb2 x hm with h | h
    · exact HXV.out h
    · have : w.drew.heap.size = w.heap.size := rfl
      omega
  have hx2 := hf2.heap (a := w.drew) HX.out HXV.out
  have hmv := idxMove w2 x p fp2 YS (L : Nat) (-(n : Int)) _ hx2 rfl hv2 HXLEN.out (fun q hq => by have := HXR.out q hq; omega) (by omega) (by omega)
  rw [HRES.out] at hmv
  have HF2 := Lib.hid (show Frm fv w w2 from ⟨hf2.os, hf2.tape, hf2.output, hf2.size, hf2.same⟩)
  have HB2 := Lib.hid hb2
  have HXF := Lib.hid hxf
  have HX2 := Lib.hid hx2
  clear hv2 hf2 hb2 hxf hx2 hc0 hc1
  go_wp2_with fail
  refine hmv.mono ?_
  rintro e w3 ⟨⟨ve3, rfl⟩, hv3, hf3⟩
  have hx3 := hf3.heap HX2.out HXF.out
  have hc3 := cell_of_heap (i := 1) hx3 rfl
  have hz3 := frozen_of_heap 1 hx3
  have HX3 := Lib.hid hx3
  have HV3 := Lib.hid hv3
  have HF3 := Lib.hid hf3
  clear hx3 hv3 hf3 hmv
  go_wp2_with fail
  go_ret
  have hF : Frm (x :: fv) w w3 := (HF2.out.mono (S' := x :: fv) (fun b hb => .inl (List.mem_cons_of_mem _ hb))).trans HF3.out (fun b hb => by
    rcases HB2.out b hb with h | h
    · exact .inl (List.mem_cons_of_mem _ h)
    · exact .inr h)
  refine ⟨rfl, x :: fp2, ⟨p, fp2, ?_, HV3.out.kept (fun b o hb ho => by rw [heap_set_other _ (fun e => HXF.out (by have e' : b = x := e; rw [← e']; exact hb))]; exact ho), rfl⟩, hF.setCell (.inl (by simp)) _, ?_⟩
  · have h1 := heap_set_at (i := 1) (.int .i64 ((T : Int) - (n : Int))) HX3.out
    rw [HLEN.out]
    simpa using h1
  · intro b hb
    rcases List.mem_cons.1 hb with rfl | hb
    · exact .inl (by simp)
    · rcases HB2.out b hb with h | h
      · exact .inl (by simp [h])
      · exact .inr h

end Go.Proofs.YtnajkjgjeiodmaaGreatDoor
