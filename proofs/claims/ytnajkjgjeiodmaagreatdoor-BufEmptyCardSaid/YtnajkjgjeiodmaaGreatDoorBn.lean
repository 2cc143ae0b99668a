/-
  CONTRACT OF textbuf.New. Conditions: as it says.
-/
import Derived.Test.YtnajkjgjeiodmaaGreatDoorBa
import Derived.Test.YtnajkjgjeiodmaaGreatDoorBg
namespace Go.Proofs.YtnajkjgjeiodmaaGreatDoor
open Go.RowKit
open Go.Proofs (Tryz.prog)

/-- Both halves of a buffer, each of its own text. -/
def Bq (w : World) (b t : Nat) (ft : List Nat) (x : Nat) (fx : List Nat) (T T2 : List UInt8) (edits np cap : Nat) : Prop :=
  w.heap[b]? = some (.cells #[.pointer (some ⟨t, 0, none⟩), .pointer (some ⟨x, 0, none⟩)] 60 (0, 0)) ∧ Pp.Tbl w t ft T 4095 edits np cap ∧ Idx w x fx T2 ∧ b ∉ ft ∧ b ∉ fx ∧ ∀ q ∈ ft, q ∉ fx
theorem Bq.left {w w' : World} {b t : Nat} {ft ft' : List Nat} {x : Nat} {fx : List Nat} {T T2 T' : List UInt8} {edits np cap edits' np' cap' : Nat} (h : Bq w b t ft x fx T T2 edits np cap) (hf : Frm ft w w') (ht : Pp.Tbl w' t ft' T' 4095 edits' np' cap') (hb : ∀ q ∈ ft', q ∈ ft ∨ w.heap.size ≤ q) : Bq w' b t ft' x fx T' T2 edits' np' cap' := by
  obtain ⟨h1, h2, h3, h4, h5, h6⟩ := h
  refine ⟨hf.heap h1 h4, ht, h3.frm hf (fun q hq hm => h6 q hm hq), fun hm => ?_, h5, fun q hq hx => ?_⟩
  · rcases hb b hm with k | k
    · exact h4 k
    · have := lt_of_heap h1; omega
  · rcases hb q hq with k | k
    · exact h6 q k hx
    · have := h3.lt q hx; omega
theorem Bq.right {w w' : World} {b t : Nat} {ft : List Nat} {x : Nat} {fx fx' : List Nat} {T T2 T' : List UInt8} {edits np cap : Nat} (h : Bq w b t ft x fx T T2 edits np cap) (hf : Frm fx w w') (ht : Idx w' x fx' T') (hb : ∀ q ∈ fx', q ∈ fx ∨ w.heap.size ≤ q) : Bq w' b t ft x fx' T T' edits np cap := by
  obtain ⟨h1, h2, h3, h4, h5, h6⟩ := h
  refine ⟨hf.heap h1 h5, h2.frm hf (fun q hq hm => h6 q hq hm), ht, h4, fun hm => ?_, fun q hq hx => ?_⟩
  · rcases hb b hm with k | k
    · exact h5 k
    · have := lt_of_heap h1; omega
  · rcases hb q hx with k | k
    · exact h6 q hq k
    · have := h2.lt q hq; omega
theorem Bq.buf {w : World} {b t : Nat} {ft : List Nat} {x : Nat} {fx : List Nat} {T : List UInt8} {edits np cap : Nat} (h : Bq w b t ft x fx T T edits np cap) : Buf w b (b :: (ft ++ fx)) T edits np cap := ⟨t, ft, x, fx, h.1, h.2.1, h.2.2.1, rfl, h.2.2.2⟩

theorem tDelete_any {w : World} {x : Nat} {fp : List Nat} {T : List UInt8} {most : Int} {edits np cap : Nat} (h : Pp.Tbl w x fp T most edits np cap) (off n : Nat) (hc : cap + 1 ≤ 536870912) (hin : off + n ≤ T.length) :
    Calls Tryz.prog 54 #[.pointer (some ⟨x, 0, none⟩), .int .i64 off, .int .i64 n] w fun e w' => e = .returned (.int .i64 0) ∧
      ∃ fp' ed' np', Pp.Tbl w' x fp' (T.take off ++ T.drop (off + n)) most ed' np' (cap + 1) ∧ Frm fp w w' ∧ ∀ b ∈ fp', b ∈ fp ∨ w.heap.size ≤ b := by
  by_cases hn : n = 0
  · subst hn
    refine (Pp.tDelete_none h (by omega) off (by omega)).mono ?_
    rintro e w' ⟨rfl, rfl⟩
    exact ⟨rfl, fp, edits, np, by rw [Nat.add_zero, List.take_append_drop]; exact h.mono (by omega), Frm.refl _ _, fun b hb => .inl hb⟩
  · refine (Pp.tDelete_some h off n hc hin (by omega)).mono ?_
    rintro e w' ⟨rfl, fp', np', h1, h2, h3⟩
    exact ⟨rfl, fp', _, np', h1, h2, h3⟩
theorem tInsert_any {w : World} {x : Nat} {fp : List Nat} {T : List UInt8} {most : Int} {edits np cap : Nat} (h : Pp.Tbl w x fp T most edits np cap) (off : Nat) (s : ByteArray) (hc : cap + s.size + 1 ≤ 536870912) (hin : off ≤ T.length) (hm : (T.length : Int) + (s.size : Int) ≤ most) :
    Calls Tryz.prog 56 #[.pointer (some ⟨x, 0, none⟩), .int .i64 off, .string s] w fun e w' => e = .returned (.int .i64 0) ∧
      ∃ fp' ed' np', Pp.Tbl w' x fp' (T.take off ++ s.data.toList ++ T.drop off) most ed' np' (cap + s.size + 1) ∧ Frm fp w w' ∧ ∀ b ∈ fp', b ∈ fp ∨ w.heap.size ≤ b := by
  by_cases hn : s.size = 0
  · refine (Pp.tInsert_none h (by omega) off s hin hn).mono ?_
    rintro e w' ⟨rfl, hf⟩
    have hs : s.data.toList = [] := List.eq_nil_of_length_eq_zero (by simpa using hn)
    exact ⟨rfl, fp, edits, np, by rw [hs, List.append_nil, List.take_append_drop]; exact (h.frm hf (by simp)).mono (by omega), hf.mono (by simp), fun b hb => .inl hb⟩
  · refine (Pp.tInsert_some h off s hc hin hn hm).mono ?_
    rintro e w' ⟨rfl, fp', np', h1, h2, h3⟩
    exact ⟨rfl, fp', _, np', h1, h2, h3⟩

set_option maxRecDepth 100000 in
set_option maxHeartbeats 1600000 in
theorem bPut {w : World} {b : Nat} {fp : List Nat} {T : List UInt8} {edits np cap : Nat} (h : Buf w b fp T edits np cap) (off n : Nat) (s : ByteArray) (hin : off + n ≤ T.length) (hm : T.length - n + s.size ≤ 4095) (hc : cap + s.size + 2 ≤ 268435456) :
    Calls Tryz.prog 33 #[.pointer (some ⟨b, 0, none⟩), .int .i64 off, .int .i64 n, .string s] w fun e w' => e = .returned (.int .i64 0) ∧
      ∃ fp' ed' np', Buf w' b fp' (T.take off ++ s.data.toList ++ T.drop (off + n)) ed' np' (cap + s.size + 2) ∧ Frm fp w w' ∧ ∀ q ∈ fp', q ∈ fp ∨ w.heap.size ≤ q := by
  have hmo := h.most
  obtain ⟨t, ft, x, fx, h1, h2, h3, rfl, h5⟩ := h
  have hq : Bq w b t ft x fx T T edits np cap := ⟨h1, h2, h3, h5⟩
  have hlen : (T.take off ++ T.drop (off + n)).length = T.length - n := by
    rw [List.length_append, List.length_take, List.length_drop]; omega
  have htk : (T.take off ++ T.drop (off + n)).take off = T.take off := by
    rw [List.take_left']; rw [List.length_take]; omega
  have hdr : (T.take off ++ T.drop (off + n)).drop off = T.drop (off + n) := by
    rw [List.drop_left']; rw [List.length_take]; omega
  have hd1 := tDelete_any h2 off n (by omega) hin
  have hx1 := cell_of_heap (i := 1) h1 rfl
  have ht1 := cell_of_heap (i := 0) h1 rfl
  have HQ := Lib.hid hq
  have HTK := Lib.hid htk
  have HDR := Lib.hid hdr
  clear h1 h2 h3 h5 hq htk hdr
  generalize hMid : T.take off ++ T.drop (off + n) = M at *
  generalize hZ : T.take off ++ s.data.toList ++ T.drop (off + n) = Z
  have hIns : M.take off ++ s.data.toList ++ M.drop off = Z := by rw [HTK.out, HDR.out, hZ]
  have HIN := Lib.hid hIns
  clear hIns hZ
  have hin2 : off ≤ M.length := by omega
  have HHH := Lib.hid hMid
  clear hMid
  go_enter Tryz.func33, Tryz.ntmps33
  go_wp2_with fail
  refine hd1.mono ?_
  rintro e w1 ⟨rfl, ft1, ed1, np1, k1, k2, k3⟩
  have hq1 := HQ.out.left k2 k1 k3
  have hd2 := idxDelete w1 x fx T off n hq1.2.2.1 hin (by omega)
  rw [HHH.out] at hd2
  have hx2 := cell_of_heap (i := 1) hq1.1 rfl
  have ht2 := cell_of_heap (i := 0) hq1.1 rfl
  have HQ1 := Lib.hid hq1
  have HK2 := Lib.hid k2
  have HK3 := Lib.hid k3
  clear k1 k2 k3 hq1 hd1 hx1 ht1
  go_wp2_with fail
  refine hd2.mono ?_
  rintro e w2 ⟨rfl, fx2, k1, k2, k3⟩
  have hq2 := HQ1.out.right k2 k1 k3
  have hd3 := tInsert_any hq2.2.1 off s (by omega) hin2 (by omega)
  rw [HIN.out] at hd3
  have hx3 := cell_of_heap (i := 1) hq2.1 rfl
  have ht3 := cell_of_heap (i := 0) hq2.1 rfl
  have HQ2 := Lib.hid hq2
  have HL2 := Lib.hid k2
  have HL3 := Lib.hid k3
  clear k1 k2 k3 hq2 hd2 hx2 ht2
  go_wp2_with fail
  refine hd3.mono ?_
  rintro e w3 ⟨rfl, ft3, ed3, np3, k1, k2, k3⟩
  have hq3 := HQ2.out.left k2 k1 k3
  have hd4 := idxInsert w3 x fx2 M off s hq3.2.2.1 hin2 (by omega)
  rw [HIN.out] at hd4
  have hx4 := cell_of_heap (i := 1) hq3.1 rfl
  have HQ3 := Lib.hid hq3
  have HM2 := Lib.hid k2
  have HM3 := Lib.hid k3
  clear k1 k2 k3 hq3 hd3 hx3 ht3
  go_wp2_with fail
  refine hd4.mono ?_
  rintro e w4 ⟨rfl, fx4, k1, k2, k3⟩
  have hq4 := HQ3.out.right k2 k1 k3
  have HQ4 := Lib.hid hq4
  have HN2 := Lib.hid k2
  have HN3 := Lib.hid k3
  clear k1 k2 k3 hq4 hd4 hx4
  go_wp2_with fail
  go_ret
  have f1 : Frm (ft ++ fx) w w1 := HK2.out.mono (fun q hq => .inl (by simp [hq]))
  have f2 : Frm (ft ++ fx) w w2 := f1.trans HL2.out (fun q hq => .inl (by simp [hq]))
  have g3 : ∀ q ∈ ft1, q ∈ ft ++ fx ∨ w.heap.size ≤ q := fun q hq => (HK3.out q hq).imp (fun h => by simp [h]) id
  have g4 : ∀ q ∈ fx2, q ∈ ft ++ fx ∨ w.heap.size ≤ q := fun q hq => by
    rcases HL3.out q hq with h | h
    · exact .inl (by simp [h])
    · exact .inr (Nat.le_trans HK2.out.size h)
  have f3 : Frm (ft ++ fx) w w3 := f2.trans HM2.out g3
  have f4 : Frm (ft ++ fx) w w4 := f3.trans HN2.out g4
  refine ⟨rfl, b :: (ft3 ++ fx4), ed3, np3, ?_, f4.mono (fun q hq => .inl (List.mem_cons_of_mem _ hq)), fun q hq => ?_⟩
  · obtain ⟨q1, q2, q3⟩ := HQ4.out
    exact Bq.buf ⟨q1, q2.mono (by omega), q3⟩
  · rcases List.mem_cons.1 hq with rfl | hq
    · exact .inl (by simp)
    · rcases List.mem_append.1 hq with hq | hq
      · rcases HM3.out q hq with h | h
        · exact (g3 q h).imp (fun h => List.mem_cons_of_mem _ h) id
        · exact .inr (Nat.le_trans f2.size h)
      · rcases HN3.out q hq with h | h
        · exact (g4 q h).imp (fun h => List.mem_cons_of_mem _ h) id
        · exact .inr (Nat.le_trans f3.size h)

end Go.Proofs.YtnajkjgjeiodmaaGreatDoor

namespace Go.Proofs.YtnajkjgjeiodmaaGreatDoor
open Go.RowKit
open Go.Proofs (Tryz.prog)

theorem tNew2 (w : World) (s : ByteArray) (hm : s.size ≤ 4095) :
    Calls Tryz.prog 28 #[.string s, .int .i64 4095] w fun e w' => ∃ x fp np, e = .returned (.tuple #[.pointer (some ⟨x, 0, none⟩), .int .i64 0]) ∧ Pp.Tbl w' x fp s.data.toList 4095 0 np 4095 ∧ Frm [] w w' ∧ ∀ b ∈ fp, w.heap.size ≤ b :=
  Pp.tNew w s 4095 4095 (by omega) (by decide) (by omega) (by decide)

/-- New, once the lines are at least one. -/
theorem joinTo (L : List (List UInt8)) : (⟨(Lib.join L [10]).toArray⟩ : ByteArray).size = (Lib.join L [10]).length := rfl

set_option maxRecDepth 100000 in
set_option maxHeartbeats 3200000 in
theorem bNew_broken (w : World) (v : Value) (L : List (List UInt8)) (hv : RdL w v L) (hl : L.length ≤ 4611686018427387904) (hc : ¬ Clean L) :
    Calls Tryz.prog 10 #[v] w fun e w' => e = .returned (.tuple #[.pointer none, .int .i64 20]) ∧ Frm [] w w' := by
  have hne : L.length ≠ 0 := fun h => hc (by rw [List.eq_nil_of_length_eq_zero h]; simp [Clean])
  have hb := tbBroken w v L hv hl
  rw [decide_eq_true hc] at hb
  obtain ⟨va, vc, rfl⟩ := hv.form
  clear hv hc
  generalize L.length = n at *
  have hz : ((n : Int) == 0) = false := by rw [beq_eq_false_iff_ne]; omega
  go_enter Tryz.func10, Tryz.ntmps10
  go_wp2_with fail
  refine hb.mono ?_
  rintro e w' ⟨rfl, rfl⟩
  clear hb
  go_wp2_with fail
  go_ret2
  exact ⟨rfl, Frm.refl _ _⟩
set_option maxRecDepth 100000 in
set_option maxHeartbeats 3200000 in
theorem bNew_full (w : World) (v : Value) (L : List (List UInt8)) (hv : RdL w v L) (hl : L.length ≤ 4611686018427387904) (hs : sizeL L ≤ 4611686018427387904) (hc : Clean L) (hf : 4096 < sizeL L) :
    Calls Tryz.prog 10 #[v] w fun e w' => e = .returned (.tuple #[.pointer none, .int .i64 21]) ∧ Frm [] w w' := by
  have hne : L.length ≠ 0 := fun h => by
    rw [List.eq_nil_of_length_eq_zero h] at hf
    simp [sizeL, joinT_nil] at hf
  have hb := tbBroken w v L hv hl
  rw [decide_eq_false (fun h => h hc)] at hb
  have hz2 := tbSize w v L hv hs hl
  obtain ⟨va, vc, rfl⟩ := hv.form
  clear hv hc
  generalize L.length = n at *
  generalize sizeL L = z at *
  have hz : ((n : Int) == 0) = false := by rw [beq_eq_false_iff_ne]; omega
  go_enter Tryz.func10, Tryz.ntmps10
  go_wp2_with fail
  refine hb.mono ?_
  rintro e w' ⟨rfl, rfl⟩
  clear hb
  go_wp2_with fail
  refine hz2.mono ?_
  rintro e w' ⟨rfl, rfl⟩
  clear hz2
  go_wp2_with fail
  go_ret2
  exact ⟨rfl, Frm.refl _ _⟩

set_option maxRecDepth 100000 in
set_option maxHeartbeats 3200000 in
/-- What New does once the lines are at least one. -/
theorem bNew_some (w : World) (v : Value) (L : List (List UInt8)) (hv : RdL w v L) (hne : L ≠ []) (hc : Clean L) (hf : sizeL L ≤ 4096) (hl : L.length ≤ 4096) :
    Calls Tryz.prog 10 #[v] w fun e w' => ∃ b fp np, e = .returned (.tuple #[.pointer (some ⟨b, 0, none⟩), .int .i64 0]) ∧ Buf w' b fp (Lib.join L [10]) 0 np 4095 ∧ Frm [] w w' ∧ ∀ q ∈ fp, w.heap.size ≤ q := by
  have hne : L.length ≠ 0 := fun h => hne (List.eq_nil_of_length_eq_zero h)
  have hb := tbBroken w v L hv (by omega)
  rw [decide_eq_false (fun h => h hc)] at hb
  have hz2 := tbSize w v L hv (by omega) (by omega)
  have hsj := sizeL_join (xs := L) (by rintro rfl; simp at hne)
  have hj := strJoin w v L hv (by omega) (by omega)
  obtain ⟨va, vc, rfl⟩ := hv.form
  clear hv hc
  have hsz : (⟨(Lib.join L [10]).toArray⟩ : ByteArray).size = (Lib.join L [10]).length := rfl
  have hdt : (⟨(Lib.join L [10]).toArray⟩ : ByteArray).data.toList = Lib.join L [10] := rfl
  have HDT := Lib.hid hdt
  clear hdt
  generalize hBA : (⟨(Lib.join L [10]).toArray⟩ : ByteArray) = s at *
  clear hBA
  generalize Lib.join L [10] = J at *
  have hnew := fun w2 => tNew2 w2 s (by omega)
  have hix := fun w2 => idxNew w2 s (by omega)
  rw [HDT.out] at hnew hix
  generalize L.length = n at *
  generalize sizeL L = z at *
  have hz : ((n : Int) == 0) = false := by rw [beq_eq_false_iff_ne]; omega
  have HNEW := Lib.hid hnew
  have HIX := Lib.hid hix
  clear hnew hix
  go_enter Tryz.func10, Tryz.ntmps10
  go_wp2_with fail
  refine hb.mono ?_
  rintro e w' ⟨rfl, rfl⟩
  clear hb
  go_wp2_with fail
  refine hz2.mono ?_
  rintro e w' ⟨rfl, rfl⟩
  clear hz2
  go_wp2_with fail
  refine hj.mono ?_
  rintro e w1 ⟨rfl, hf1⟩
  have HF1 := Lib.hid hf1
  clear hj hf1
  go_wp2_with fail
  refine (HNEW.out w1).mono ?_
  rintro e w2 ⟨t, ft, np, rfl, k1, k2, k3⟩
  have K1 := Lib.hid k1
  have K2 := Lib.hid k2
  have K3 := Lib.hid k3
  clear k1 k2 k3
  go_wp2_with fail
  refine (HIX.out w2).mono ?_
  rintro e w3 ⟨x, fx, rfl, k1, k2, k3⟩
  have M1 := Lib.hid k1
  have M2 := Lib.hid k2
  have M3 := Lib.hid k3
  clear k1 k2 k3
  go_wp2_with fail
  go_ret2
  have hF := HF1.out.trans (K2.out.trans M2.out (by simp)) (by simp)
  have hal := (Frm.refl [] w3).alloc (.cells #[.pointer (some ⟨t, 0, none⟩), .pointer (some ⟨x, 0, none⟩)] 60 (0, 0))
  have hT := (K1.out.frm M2.out (by simp)).frm hal (by simp)
  have hX := M1.out.frm hal (by simp)
  have h12 : ∀ q ∈ ft, q < w2.heap.size := K1.out.lt
  have h13 : ∀ q ∈ fx, q < w3.heap.size := M1.out.lt
  have s1 := HF1.out.size
  have s2 := K2.out.size
  have s3 := M2.out.size
  refine ⟨w3.heap.size, _, np, rfl, ⟨t, ft, x, fx, by simpa using heap_alloc_at w3 _, hT, hX, rfl, fun h => ?_, fun h => ?_, fun q hq hx => ?_⟩, hF.trans hal (by simp), fun q hq => ?_⟩
  · have := h12 _ h; omega
  · have := h13 _ h; omega
  · have h1 := h12 q hq
    have h2 := M3.out q hx
    omega
  · rcases List.mem_cons.1 hq with rfl | hq
    · omega
    · rcases List.mem_append.1 hq with hq | hq
      · have := K3.out q hq; omega
      · have := M3.out q hq; omega

set_option maxRecDepth 100000 in
set_option maxHeartbeats 3200000 in
/-- New of no line. -/
theorem bNew_nil (w : World) (va : Option Addr) (vc : Nat) :
    Calls Tryz.prog 10 #[.slice va 0 vc] w fun e w' => ∃ b fp np, e = .returned (.tuple #[.pointer (some ⟨b, 0, none⟩), .int .i64 0]) ∧ Buf w' b fp [] 0 np 4095 ∧ Frm [] w w' ∧ ∀ q ∈ fp, w.heap.size ≤ q := by
  obtain ⟨w0, hw0⟩ : ∃ w0, w0 = w.alloc (.cells #[.string ⟨#[]⟩] 9 (0, 0)) := ⟨_, rfl⟩
  have hf0 : Frm [] w w0 := by rw [hw0]; exact (Frm.refl [] w).alloc _
  have hv : RdL w0 (.slice (some ⟨w.heap.size, 0, none⟩) 1 1) [[]] := by rw [hw0]; exact rdL_lit w _ [[]] _ 1 rfl (by decide) (0, 0)
  have hb := tbBroken w0 _ [[]] hv (by decide)
  rw [show decide (¬ Clean [[]]) = false by decide] at hb
  have hz2 := tbSize w0 _ [[]] hv (by decide) (by decide)
  rw [show sizeL [[]] = 1 by decide] at hz2
  have hj := strJoin w0 _ [[]] hv (by decide) (by decide)
  clear hv
  have HF0 := Lib.hid hf0
  clear hf0
  have HW := Lib.hid hw0
  have hsz : (⟨(Lib.join [[]] [10]).toArray⟩ : ByteArray).size = (Lib.join [[]] [10]).length := rfl
  have hdt : (⟨(Lib.join [[]] [10]).toArray⟩ : ByteArray).data.toList = Lib.join [[]] [10] := rfl
  have HDT := Lib.hid hdt
  clear hdt
  generalize hBA : (⟨(Lib.join [[]] [10]).toArray⟩ : ByteArray) = s at *
  clear hBA
  have HJJ := Lib.hid (show Lib.join [[]] [10] = [] from rfl)
  generalize Lib.join [[]] [10] = J at *
  have hs0 : s.size = 0 := by rw [hsz, HJJ.out]; rfl
  have hnew := fun w2 => tNew2 w2 s (by omega)
  have hix := fun w2 => idxNew w2 s (by omega)
  rw [HDT.out, HJJ.out] at hnew hix
  have HNEW := Lib.hid hnew
  have HIX := Lib.hid hix
  clear hnew hix
  go_enter Tryz.func10, Tryz.ntmps10
  go_wp2_with fail
  rw [← HW.out]
  refine hb.mono ?_
  rintro e w' ⟨rfl, rfl⟩
  clear hb
  go_wp2_with fail
  try rw [← HW.out]
  refine hz2.mono ?_
  rintro e w' ⟨rfl, rfl⟩
  clear hz2
  go_wp2_with fail
  try rw [← HW.out]
  refine hj.mono ?_
  rintro e w1 ⟨rfl, hf1⟩
  have HF1 := Lib.hid hf1
  clear hj hf1
  go_wp2_with fail
  refine (HNEW.out w1).mono ?_
  rintro e w2 ⟨t, ft, np, rfl, k1, k2, k3⟩
  have K1 := Lib.hid k1
  have K2 := Lib.hid k2
  have K3 := Lib.hid k3
  clear k1 k2 k3
  go_wp2_with fail
  refine (HIX.out w2).mono ?_
  rintro e w3 ⟨x, fx, rfl, k1, k2, k3⟩
  have M1 := Lib.hid k1
  have M2 := Lib.hid k2
  have M3 := Lib.hid k3
  clear k1 k2 k3
  go_wp2_with fail
  go_ret2
  have hF := (HF0.out.trans HF1.out (by simp)).trans (K2.out.trans M2.out (by simp)) (by simp)
  have hal := (Frm.refl [] w3).alloc (.cells #[.pointer (some ⟨t, 0, none⟩), .pointer (some ⟨x, 0, none⟩)] 60 (0, 0))
  have hT := (K1.out.frm M2.out (by simp)).frm hal (by simp)
  have hX := M1.out.frm hal (by simp)
  have h12 : ∀ q ∈ ft, q < w2.heap.size := K1.out.lt
  have h13 : ∀ q ∈ fx, q < w3.heap.size := M1.out.lt
  have s0 := HF0.out.size
  have s1 := HF1.out.size
  have s2 := K2.out.size
  have s3 := M2.out.size
  refine ⟨w3.heap.size, _, np, rfl, ⟨t, ft, x, fx, by simpa using heap_alloc_at w3 _, hT, hX, rfl, fun h => ?_, fun h => ?_, fun q hq hx => ?_⟩, hF.trans hal (by simp), fun q hq => ?_⟩
  · have := h12 _ h; omega
  · have := h13 _ h; omega
  · have h1 := h12 q hq
    have h2 := M3.out q hx
    omega
  · rcases List.mem_cons.1 hq with rfl | hq
    · omega
    · rcases List.mem_append.1 hq with hq | hq
      · have := K3.out q hq; omega
      · have := M3.out q hq; omega

end Go.Proofs.YtnajkjgjeiodmaaGreatDoor
