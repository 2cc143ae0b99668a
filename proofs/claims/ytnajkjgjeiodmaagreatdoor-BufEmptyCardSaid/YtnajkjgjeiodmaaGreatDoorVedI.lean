/-
  CONTRACTS OF vec.Vec[int]: Delete, All, and the iterator that All hands back. Conditions: fewer than 2^40 elements.
-/
import Derived.Test.YtnajkjgjeiodmaaGreatDoorVecI2
namespace Go.Proofs.YtnajkjgjeiodmaaGreatDoor
open Go.RowKit
open Go.Proofs (Tryz.prog)

/-! ### Delete -/
set_option maxRecDepth 100000 in
set_option maxHeartbeats 800000 in
theorem vecDeleteI_none (w : World) (p : Nat) (fp : List Nat) (xs : List Int) (i n : Int) (h : VecI w p fp xs) (hn : ¬ (0 ≤ i ∧ i < xs.length) ∨ n < 1) :
    Calls Tryz.prog 78 #[.pointer (some ⟨p, 0, none⟩), .int .i64 i, .int .i64 n] w fun e w' => (∃ v, e = .returned v) ∧ w = w' := by
  obtain ⟨a, c, hc, _, _⟩ := h.len
  clear h
  generalize xs.length = m at *
  by_cases hi : 0 ≤ i ∧ i < m
  · have hy := vecHasI_yes w p i a m c hc hi.1 hi.2
    have hn1 : n < 1 := by
      rcases hn with h | h
      · exact absurd hi h
      · exact h
    clear hn hi
    go_enter Tryz.func78, Tryz.ntmps78
    go_wp2_with (go_at_call 75; refine hy.mono ?_; rintro e w' ⟨rfl, rfl⟩)
    go_ret
    exact ⟨⟨_, rfl⟩, rfl⟩
  · have hy := vecHasI_no w p i a m c hc hi
    clear hn hi
    go_enter Tryz.func78, Tryz.ntmps78
    go_wp2_with (go_at_call 75; refine hy.mono ?_; rintro e w' ⟨rfl, rfl⟩)
    go_ret
    exact ⟨⟨_, rfl⟩, rfl⟩

set_option maxRecDepth 100000 in
set_option maxHeartbeats 1600000 in
theorem vecDeleteI (w : World) (p : Nat) (fp : List Nat) (xs : List Int) (i n : Nat) (h : VecI w p fp xs) (hn : 0 < n) (hin : i + n ≤ xs.length) (hx : xs.length ≤ 1099511627776) :
    Calls Tryz.prog 78 #[.pointer (some ⟨p, 0, none⟩), .int .i64 i, .int .i64 n] w fun e w' => (∃ v, e = .returned v) ∧ ∃ fp', VecI w' p fp' (xs.take i ++ xs.drop (i + n)) ∧ Frm fp w w' ∧ ∀ b ∈ fp', b ∈ fp ∨ w.heap.size ≤ b := by
  obtain ⟨v, hp, hr, rfl⟩ := h
  have hpl := lt_of_heap hp
  have hvb := ownsRow_type hr hp (by decide)
  have hlen : (xs.take i ++ xs.drop (i + n)).length = xs.length - (i + n - i) := by simp; omega
  rcases hr.2 with ⟨_, h0⟩ | ⟨g, c, cur, rfl, _, hg, hnc, hcm, hcs, htk⟩
  · omega
  -- the clone of what is taken out
  have hclone := fun (W : World) (hW : ∀ j u, (((xs.drop i).take n).flatMap encI)[j]? = some u → W.cell? ((⟨g, i * 1, none⟩ : Addr).add j) = some u) => cloneI W ⟨g, i * 1, none⟩ n (c - i) _ (by rw [encI_len]; simp; omega) hW (encI_one _) (by omega)
  have hrd : ∀ j u, (((xs.drop i).take n).flatMap encI)[j]? = some u → w.cell? ((⟨g, i * 1, none⟩ : Addr).add j) = some u := by
    intro j u hj
    rw [encI_take, encI_drop, List.getElem?_take] at hj
    split at hj
    · rw [List.getElem?_drop] at hj
      have := hr.cells (g := g) rfl (i * 1 + j) u hj
      rw [Addr.add_lit] at this ⊢
      simpa using this
    · cases hj
  have hdel := fun (W : World) (hW : W.ownsRow 0 3 1 (.slice (some ⟨g, 0, none⟩) xs.length c) xs.length (xs.flatMap encI)) => deleteI W _ xs.length i (i + n) _ hW (by omega) (by omega) (encI_one _) hx
  have hcell : w.cell? ⟨p, 0, none⟩ = some (.slice (some ⟨g, 0, none⟩) xs.length c) := cell_of_heap hp (by simp)
  have hfz : w.frozen? ⟨p, 0, none⟩ = false := frozen_of_heap 0 hp
  have hyes := vecHasI_yes w p i (some ⟨g, 0, none⟩) xs.length c hcell (by omega) (by omega)
  have hcl := hclone w hrd
  rw [← encI_take, ← encI_drop, ← List.flatMap_append] at hdel
  have HD := Lib.hid hdel
  have HP := Lib.hid hp
  have HR := Lib.hid hr
  have HL := Lib.hid hlen
  unfold maxLen at hcm
  clear hclone hrd hdel hp hr hlen hg htk hcs
  generalize hxs : xs.take i ++ xs.drop (i + n) = zs at *
  generalize hm : xs.length = m at *
  clear hxs
  have e1 : (m : Int) - (i : Int) = ((m - i : Nat) : Int) := by omega
  have hb1 : (n : Int) ≤ (m : Int) - (i : Int) := by omega
  have hb2 : ¬ ((n : Int) < 1) := by omega
  have hb3 : ¬ (c = i) := by omega
  have hb4 : ((i : Int) + (n : Int)).toNat = i + n := by omega
  have hb5 : i + n - i = n := by omega
  have HM := Lib.hid hm
  clear hm e1
  go_enter Tryz.func78, Tryz.ntmps78
  go_wp2_with (go_at_call 75; refine hyes.mono ?_; rintro e w' ⟨rfl, rfl⟩)
  try simp only [Nat.mul_one] at hcl
  refine hcl.mono ?_
  rintro e w1 ⟨g1, c1, rfl, hr1, hf1⟩
  have hc1 := hf1.cell hcell (by simp)
  have hp1 := hf1.heap HP.out (by simp)
  have hz1 := (hf1.frozen (p := ⟨p, 0, none⟩) hpl (by simp)).trans hfz
  have hd1 := HD.out w1 (ownsRow_heap HR.out (fun b o _ ho => hf1.heap ho (by simp)))
  have hpl1 := lt_of_heap hp1
  have HF1 := Lib.hid hf1
  have HP1 := Lib.hid hp1
  clear hr1 hf1 hp1 hcl
  go_wp2_with fail
  rw [show ((i : Int) + (n : Int)) = ((i + n : Nat) : Int) from by omega]
  refine hd1.mono ?_
  rintro e w2 ⟨v', rfl, hr2, hf2, hb2'⟩
  obtain ⟨a', c', rfl, _, _⟩ := ownsRow_form hr2
  have hpS : p ∉ (Value.slice (some ⟨g, 0, none⟩) m c).ownBlock.toList := by simpa using hvb
  have hc2 := hf2.cell hc1 hpS
  have hz2 := (hf2.frozen (p := ⟨p, 0, none⟩) hpl1 hpS).trans hz1
  have hp2 := hf2.heap HP1.out hpS
  have HR2 := Lib.hid hr2
  have HF2 := Lib.hid hf2
  have HB2 := Lib.hid hb2'
  have HP2 := Lib.hid hp2
  clear hr2 hf2 hb2' hp2 hd1 hc1 hz1 hcell hfz
  go_wp2
  go_ret
  have hnb : (Value.slice a' (m - (i + n - i)) c').ownBlock ≠ some p := by rw [HB2.out]; exact hvb
  refine ⟨⟨_, rfl⟩, p :: (Value.slice a' (m - (i + n - i)) c').ownBlock.toList, ⟨_, ?_, ?_, rfl⟩, ?_, ?_⟩
  · first
    | exact heap_set_at (i := 0) _ HP2.out
    | (simp only [hb5]; exact heap_set_at (i := 0) _ HP2.out)
  · rw [HL.out]
    exact ownsRow_heap HR2.out (fun b o hb ho => by rw [heap_set_other _ (fun e => hnb (by rw [hb]; exact congrArg some e))]; exact ho)
  · exact ((HF1.out.mono (S' := p :: (Value.slice (some ⟨g, 0, none⟩) m c).ownBlock.toList) (by simp)).trans HF2.out (fun x hx => .inl (List.mem_cons_of_mem _ hx))).setCell (.inl (by simp)) _
  · intro b hb
    rcases List.mem_cons.1 hb with rfl | hb
    · exact .inl (by simp)
    · rw [HB2.out] at hb
      exact .inl (List.mem_cons_of_mem _ hb)

end Go.Proofs.YtnajkjgjeiodmaaGreatDoor
