/-
  CONTRACT OF foolscapref32.KeysOf: the lines joined; plain laws of joined and cut lines. Conditions: texts below 2^40 bytes.
-/
import Derived.Test.YtaobohlcpgnebaaDoorKn3
import Derived.Test.YtaobohlcpgnebaaDoorBase4
import Derived.Test.YtaobohlcpgnebaaDoorLnp
import Derived.Test.YtaobohlcpgnebaaDoorHs
namespace Go.Proofs.YtaobohlcpgnebaaDoor
open Go.RowKit
open Go.Proofs (Tryd.prog)

theorem linesOf_cutL (K : List UInt8) : (linesOf K).map (·.data.toList) = cutL K := by
  unfold linesOf
  rw [Lib.splitB_data]
  exact splitK_cutL K
theorem joined_linesOf (K : List UInt8) : joined (linesOf K) = K := by
  unfold joined
  rw [linesOf_cutL, join_cutL]
theorem linesOf_eq (K : List UInt8) : linesOf K = (cutL K).map fun l => ⟨l.toArray⟩ := by
  rw [← linesOf_cutL, List.map_map]
  conv => lhs; rw [← List.map_id (linesOf K)]
  apply List.map_congr_left
  intro s _
  rfl
/-- The lines ahead of the k-th joined. -/
def jn (xs : List ByteArray) (k : Nat) : List UInt8 := joined (xs.take k)
theorem jn_zero (xs : List ByteArray) : jn xs 0 = [] := by simp [jn, joined, Lib.join_nil]
theorem jn_all (xs : List ByteArray) : jn xs xs.length = joined xs := by simp [jn]
theorem jn_one {xs : List ByteArray} {s : ByteArray} (h : xs[0]? = some s) : jn xs 1 = s.data.toList := by
  cases xs with
  | nil => simp at h
  | cons x r =>
    obtain rfl := Option.some.inj h
    simp [jn, joined, Lib.join_one]
theorem jn_succ {xs : List ByteArray} {k : Nat} {s : ByteArray} (h : xs[k + 1]? = some s) : jn xs (k + 2) = jn xs (k + 1) ++ [10] ++ s.data.toList := by
  cases xs with
  | nil => simp at h
  | cons x r =>
    unfold jn joined
    rw [List.take_succ_cons, List.take_succ_cons, List.map_cons, List.map_cons, Lib.join_cons, Lib.join_cons, List.map_take, List.map_take, Lib.joinTail_take_succ [10] (r.map (·.data.toList)) k s.data.toList (by
      rw [List.getElem?_cons_succ] at h
      rw [List.getElem?_map, h]
      rfl)]
    simp [List.append_assoc]
theorem jn_le (xs : List ByteArray) (k : Nat) : (jn xs k).length ≤ (joined xs).length := by
  unfold jn joined
  cases xs with
  | nil => simp
  | cons x r =>
    cases k with
    | zero => simp [Lib.join_nil]
    | succ k =>
      rw [List.take_succ_cons, List.map_cons, List.map_cons, Lib.join_cons, Lib.join_cons, List.map_take, List.length_append, List.length_append]
      have := Lib.joinTail_take_le [10] (r.map (·.data.toList)) k
      omega
theorem encB_str (s : ByteArray) : Lib.strCells s = s.data.toList.map encB := by
  unfold Lib.strCells
  rfl
theorem rd_one (w : World) (T : TypeId) (v : Value) : Rd (w.alloc (.cells #[v] T)) (.slice (some ⟨w.heap.size, 0, none⟩) 1 1) 1 [v] :=
  .inr ⟨_, _, rfl, fun j u hj => by
    match j, hj with
    | 0, hj =>
      obtain rfl := Option.some.inj hj
      rw [addr_add]
      exact cell_of_heap (heap_alloc_at w _) rfl⟩
def KoS (W : World) (xs : List ByteArray) (k : Nat) (b : Value) (wr : World) : Prop := wr.ownsRow W.heap.size 5 1 b (jn xs k).length ((jn xs k).map encB) ∧ Frm [] W wr

set_option maxRecDepth 100000 in
set_option maxHeartbeats 3200000 in
theorem refKeysOf (w : World) (kind : Int) (v : Value) (xs : List ByteArray) (h : RdS w v xs) (hN : xs.length ≤ 1000000) (hl : (joined xs).length ≤ 1099511627776) :
    Calls Tryd.prog 29 #[.agg #[.int .i64 kind, v]] w fun e w' => (∃ u, e = .returned u ∧ RdB w' u (keysOf kind xs)) ∧ Frm [] w w' := by
  obtain ⟨i0, hi, hz0, hz1, hz2⟩ := info_parts (show (Tryd.prog.info? 5).map (fun i => (i.zero, i.size, i.bytes)) = some (some (.int .u8 0), 1, 1) by kernel_rfl)
  obtain ⟨va, vc, rfl⟩ := h.form
  obtain ⟨W, hW⟩ : ∃ W, w.alloc (.cells #[.int .i64 kind, .slice va xs.length vc] 42) = W := ⟨_, rfl⟩
  have hfa : Frm [] w W := by rw [← hW]; exact (Frm.refl _ _).alloc _
  have hb : W.heap[w.heap.size]? = some (.cells #[.int .i64 kind, .slice va xs.length vc] 42 (0, 0)) := by rw [← hW]; exact heap_alloc_at w _
  have H := Lib.hid (h.frm hfa)
  have HFA := Lib.hid hfa
  have HB := Lib.hid hb
  have HI := Lib.hid (And.intro hz0 (And.intro hz1 hz2))
  clear hfa hb h hz0 hz1 hz2
  generalize hn : xs.length = n at *
  have HN := Lib.hid hn
  clear hn
  go_enter Tryd.func29, Tryd.ntmps29
  go_wp2_with fail
  have HWW := Lib.hid hW
  clear hW
  go_loopw [3, 4] (fun b i wr => ∃ k : Nat, k ≤ n ∧ i = .int .i64 (k : Int) ∧ KoS W xs k b wr) (fun _ i _ => n - (intOf i).toNat)
  case atStart => exact ⟨0, by omega, rfl, by rw [jn_zero]; exact ⟨rfl, .inl ⟨rfl, rfl⟩⟩, Frm.refl _ _⟩
  case round =>
    obtain ⟨k, hk, rfl, hown, hf⟩ := hrel
    have hbr := hf.heap HB.out (by simp)
    have hc0 := cell_of_heap (i := 0) hbr rfl
    have hc1 := cell_of_heap (i := 1) hbr rfl
    have hws := hf.size
    have hjl := jn_le xs k
    have HOWN := Lib.hid hown
    have HF := Lib.hid hf
    clear hbr
    by_cases hlt : k < n
    · obtain ⟨s, hs⟩ : ∃ s, xs[k]? = some s := ⟨xs[k]'(by rw [HN.out]; exact hlt), List.getElem?_eq_getElem _⟩
      have h1 := (H.out.frm hf)
      rw [← HN.out] at h1
      obtain ⟨b1, o1, c1, e1, k1⟩ := h1.at hs
      obtain ⟨rfl, -, rfl⟩ : va = some ⟨b1, o1, none⟩ ∧ True ∧ vc = c1 := by simpa using e1
      clear h1 e1 hf
      by_cases hk0 : k = 0
      · subst hk0
        simp only [Nat.add_zero] at k1
        have hj1 := jn_one hs
        have hjs := jn_le xs 1
        rw [hj1] at hjs
        have HSS := Lib.hid (show s.size = s.data.toList.length by simp)
        have hsz : s.size ≤ (joined xs).length := by rw [HSS.out]; omega
        have HJ := Lib.hid hj1
        clear hs hj1 hjs
        go_wp2_with (at_builtin; refine wpList_append_str_row rfl (.tmp 17) (.tmp 22) 22 9 rfl W.heap.size 5 i0 Tryd.underlying22 Tryd.underlying9 hi HI.out.1 HI.out.2.1 HI.out.2.2 _ (jn xs 0).length ((jn xs 0).map encB) rfl HOWN.out s rfl (by unfold maxLen; omega) (by omega) hws ?_)
        intro v2 w2 hown2 hf2 _ _
        have HF2 := Lib.hid (HF.out.trans hf2 (fun b hb => .inr (own_ge HOWN.out b hb)))
        rw [jn_zero, encB_str, HSS.out] at hown2
        have HO2 := Lib.hid (show w2.ownsRow W.heap.size 5 1 v2 (jn xs 1).length ((jn xs 1).map encB) by rw [HJ.out]; simpa using hown2)
        clear hown2 hf2 hown HOWN
        go_wp2_with fail
        go_roundw
        case rel => exact ⟨1, by omega, rfl, HO2.out, HF2.out⟩
        case measure => simp [intOf]; omega
      · obtain ⟨j, rfl⟩ : ∃ j, k = j + 1 := ⟨k - 1, by omega⟩
        have hj1 := jn_succ hs
        have hjs := jn_le xs (j + 2)
        rw [hj1] at hjs
        simp only [List.length_append, List.length_cons, List.length_nil] at hjs
        have HSS := Lib.hid (show s.size = s.data.toList.length by simp)
        have hsz : (jn xs (j + 1)).length + 1 + s.size ≤ (joined xs).length := by rw [HSS.out]; omega
        clear hjs
        have HJ := Lib.hid hj1
        have hkp : (0 : Int) < ((j + 1 : Nat) : Int) := by omega
        clear hs hj1
        go_wp2_with (at_builtin; refine wpList_append_row rfl (.tmp 14) (.tmp 15) 22 rfl W.heap.size 5 i0 (.int .u8 0) 1 1 Tryd.underlying22 hi HI.out.1 HI.out.2.1 HI.out.2.2 rfl (by decide) _ (jn xs (j + 1)).length ((jn xs (j + 1)).map encB) rfl (ownsRow_frm HOWN.out ((Frm.refl [] wr).alloc _) (by simp)) _ 1 [.int .u8 10] rfl (rd_one _ _ _) rfl (by simp [Value.oneCell']) (by unfold maxLen; omega) (by omega) (by simp; omega) ?_)
        intro v2 w2 hown2 hf2 _ _
        have HF2 := Lib.hid ((HF.out.alloc (.cells #[.int .u8 10] 5)).trans hf2 (fun b hb => .inr (own_ge HOWN.out b hb)))
        have HO2 := Lib.hid hown2
        have hws2 := HF2.out.size
        have hbr2 := HF2.out.heap HB.out (by simp)
        have hc02 := cell_of_heap (i := 0) hbr2 rfl
        have hc12 := cell_of_heap (i := 1) hbr2 rfl
        have k12 := hf2.cell (p := ⟨b1, o1 + (j + 1), none⟩) (((Frm.refl [] wr).alloc (.cells #[.int .u8 10] 5)).cell k1 (by simp)) (fun hm => (by
          have h1 := own_ge HOWN.out _ hm
          have h2 := H.out.lt
          exact absurd h1 (by
            have := h2 b1 rfl (by rw [HN.out]; omega)
            simp only
            omega)))
        clear hown2 hf2 hbr2 hown HOWN hc0 hc1 k1
        go_wp2_with (at_builtin; refine wpList_append_str_row rfl (.tmp 17) (.tmp 22) 22 9 rfl W.heap.size 5 i0 Tryd.underlying22 Tryd.underlying9 hi HI.out.1 HI.out.2.1 HI.out.2.2 _ _ _ rfl HO2.out s rfl (by unfold maxLen; omega) (by omega) hws2 ?_)
        intro v3 w3 hown3 hf3 _ _
        have HF3 := Lib.hid (HF2.out.trans hf3 (fun b hb => .inr (own_ge HO2.out b hb)))
        rw [encB_str, HSS.out] at hown3
        have HO3 := Lib.hid (show w3.ownsRow W.heap.size 5 1 v3 (jn xs (j + 2)).length ((jn xs (j + 2)).map encB) by rw [HJ.out]; simpa [encB, Nat.add_assoc, Nat.add_comm 1] using hown3)
        clear hown3 hf3
        go_wp2_with fail
        go_roundw
        case rel => exact ⟨j + 2, by omega, by go_num, HO3.out, HF3.out⟩
        case measure => simp [intOf]; omega
    · obtain rfl : k = n := by omega
      have hja : jn xs k = joined xs := by rw [← HN.out, jn_all]
      have HJ := Lib.hid hja
      clear hja hf
      by_cases hkd : kind = 1
      · subst hkd
        go_wp2_with (at_builtin; refine wpList_append_row rfl (.tmp 27) (.tmp 28) 22 rfl W.heap.size 5 i0 (.int .u8 0) 1 1 Tryd.underlying22 hi HI.out.1 HI.out.2.1 HI.out.2.2 rfl (by decide) _ (jn xs k).length ((jn xs k).map encB) rfl (ownsRow_frm HOWN.out ((Frm.refl [] wr).alloc _) (by simp)) _ 1 [.int .u8 10] rfl (rd_one _ _ _) rfl (by simp [Value.oneCell']) (by unfold maxLen; omega) (by omega) (by simp; omega) ?_)
        intro v2 w2 hown2 hf2 _ _
        have HF2 := Lib.hid ((HF.out.alloc (.cells #[.int .u8 10] 5)).trans hf2 (fun b hb => .inr (own_ge HOWN.out b hb)))
        have HO2 := Lib.hid (show w2.ownsRow W.heap.size 5 1 v2 (keysOf 1 xs).length ((keysOf 1 xs).map encB) by
          rw [keysOf, if_pos rfl, ← HJ.out]
          simpa [encB] using hown2)
        clear hown2 hf2 hown HOWN
        go_wp2_with fail
        go_ret
        exact ⟨⟨_, rfl, Rd.ofOwn HO2.out⟩, HFA.out.trans HF2.out (by simp)⟩
      · have hd : (kind == 1) = false := beq_eq_false_iff_ne.2 hkd
        clear hown
        go_wp2_with fail
        go_ret
        refine ⟨⟨_, rfl, ?_⟩, HFA.out.trans HF.out (by simp)⟩
        rw [keysOf, if_neg hkd, List.append_nil, ← HJ.out]
        exact Rd.ofOwn HOWN.out

end Go.Proofs.YtaobohlcpgnebaaDoor
