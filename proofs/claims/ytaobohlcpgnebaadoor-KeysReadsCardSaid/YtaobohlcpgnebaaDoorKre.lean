/-
  THE WALK OF foolscaplaw23.KeysReads: true at every arguments. Conditions: the table of tens.
-/
import Derived.Test.YtaobohlcpgnebaaDoorKba
namespace Go.Proofs.YtaobohlcpgnebaaDoor
open Go.RowKit
open Go.Proofs (Tryd.prog)

/-- Both readers read the same: what the law asks of one text. -/
theorem same_read {s : ByteArray} {w w1 w2 : World} {e1 e2 : Ending} (h1 : ReadEnd w s e1 w1) (h2 : ReadEnd w1 s e2 w2) :
    ∃ v1 v2 ok l, e1 = .returned (.tuple #[v1, .bool ok]) ∧ e2 = .returned (.tuple #[v2, .bool ok]) ∧ RdB w1 v1 l ∧ RdB w2 v1 l ∧ RdB w2 v2 l ∧ Frm [] w w1 ∧ Frm [] w1 w2 := by
  obtain ⟨v1, o1, l1, rfl, r1, z1, _, k1, f1⟩ := h1
  obtain ⟨v2, o2, l2, rfl, r2, z2, _, k2, f2⟩ := h2
  rw [r1] at r2
  have k1' : RdB w1 v1 l1 := Rd.ofOwn k1
  have k2' : RdB w2 v2 l2 := Rd.ofOwn k2
  cases o1 <;> cases o2
  · have e1 := z1 rfl
    have e2 := z2 rfl
    subst e1
    subst e2
    exact ⟨v1, v2, false, [], rfl, rfl, k1', k1'.frm f2, k2', f1, f2⟩
  · simp at r2
  · simp at r2
  · obtain rfl : l1 = l2 := by simpa using r2
    exact ⟨v1, v2, true, l1, rfl, rfl, k1', k1'.frm f2, k2', f1, f2⟩

/-- A byte put into the row that a text was turned into. -/
theorem put_byte {W : World} {g m : Nat} {C : Array Value} {T : TypeId} {fz : Nat × Nat} {L : List UInt8} {c cap : Nat} (hc : c ≤ 255) (hm : m < L.length) (hg : W.heap[g]? = some (.cells C T fz)) (hr : RdB W (.slice (some ⟨g, 0, none⟩) L.length cap) L) :
    RdB (W.setCell ⟨g, m, none⟩ (.int .u8 (c : Int))) (.slice (some ⟨g, 0, none⟩) L.length cap) (L.set m (UInt8.ofNat c)) := by
  rcases hr with ⟨h1, _⟩ | ⟨a, c2, h1, hcell⟩
  · cases h1
  · obtain rfl : (⟨g, 0, none⟩ : Addr) = a := by simpa using (Value.slice.inj h1).1
    refine .inr ⟨_, _, by rw [List.length_set], fun j u hj => ?_⟩
    have hset := heap_set_at (i := m) (.int .u8 (c : Int)) hg
    have hj2 : j < L.length := by
      have := (List.getElem?_eq_some_iff.1 hj).1
      simpa using this
    rw [addr_add, Nat.zero_add]
    have hold := hcell j (encB L[j]) (by simp [hj2])
    rw [addr_add, Nat.zero_add] at hold
    have hCj : C[j]? = some (encB L[j]) := by
      simpa [World.cell?, hg] using hold
    refine cell_of_heap hset ?_
    rw [Array.getElem?_setIfInBounds]
    by_cases hjm : m = j
    · subst hjm
      have e : (UInt8.ofNat c).toNat = c := by simp; omega
      simp [hj2, encB] at hj
      have hlt : m < C.size := (Array.getElem?_eq_some_iff.1 hCj).1
      rw [if_pos rfl, if_pos hlt, ← hj]
      simp
      omega
    · rw [if_neg hjm, hCj, ← hj]
      simp [hj2, List.getElem_set, hjm]

set_option maxRecDepth 100000 in
set_option maxHeartbeats 3200000 in
theorem keysReads (w : World) (s : ByteArray) (v : Value) (k : List UInt8) (at' c : Nat) (hs : s.size ≤ maxLen) (hk : k.length ≤ maxLen) (hat : at' ≤ 255) (hc : c ≤ 255) (hv : RdB w v k) (ht : Tens w) : Calls Tryd.prog 4 #[.string s, v, .int .u8 (at' : Int), .int .u8 (c : Int)] w fun e w' => e = .returned (.bool true) ∧ Frm [] w w' := by
  obtain ⟨a, ca, rfl⟩ := hv.form
  have hkn := known23 w ht
  unfold maxLen at hs hk
  by_cases h2 : s.size ≤ 100
  · by_cases h3 : k.length ≤ 40
    · have hll := textL_length k
      go_enter Tryd.func4, Tryd.ntmps4
      go_wp2_with fail
      refine hkn.mono ?_
      rintro e w1 ⟨rfl, hf1⟩
      have HF1 := Lib.hid hf1
      have hrt := refText _ k w1 (by omega) (hv.frm hf1)
      have hcv : ∀ W, (convert 9 22 (.string ⟨(textL k).toArray⟩)).run Tryd.prog W = .ok (.slice (some ⟨W.heap.size, 0, none⟩) (textL k).length (grownCap W (textL k).length 0 5)) (Lib.bytesWorld W 5 ⟨(textL k).toArray⟩) := fun W =>
        Lib.run_convert_string_bytes W 9 22 5 ⟨(textL k).toArray⟩ Tryd.underlying9 Tryd.underlying22 Tryd.underlying5
      have e1 : strOf (textL k) = .string ⟨(textL k).toArray⟩ := rfl
      rw [e1] at hrt
      clear hkn hf1 ht
      generalize textL k = L at *
      go_wp2_with fail
      refine hrt.mono ?_
      rintro e w2 ⟨rfl, hf2⟩
      have HF2 := Lib.hid (HF1.out.trans hf2 (by simp))
      clear hrt hf2
      by_cases hL : 0 < L.length
      · have hmL : at' % L.length < L.length := Nat.mod_lt _ hL
        have hme : (at' : Int) % (L.length : Int) = ((at' % L.length : Nat) : Int) := by rw [Int.natCast_emod]
        have hg3 := Lib.bytesWorld_at_new w2 5 ⟨L.toArray⟩
        have hr3 : RdB (Lib.bytesWorld w2 5 ⟨L.toArray⟩) (.slice (some ⟨w2.heap.size, 0, none⟩) L.length (grownCap w2 L.length 0 5)) L := rdB_bytesWorld w2 ⟨L.toArray⟩ _
        have hf3 := frm_bytesWorld w2 5 ⟨L.toArray⟩
        have hsz3 : L.length ≤ (Lib.bytesCells w2 5 ⟨L.toArray⟩).size := by
          simp [Lib.bytesCells]
        generalize Lib.bytesCells w2 5 ⟨L.toArray⟩ = C3 at *
        generalize at' % L.length = m at *
        have hfz : (Lib.bytesWorld w2 5 ⟨L.toArray⟩).frozen? ⟨w2.heap.size, m, none⟩ = false := by
          simp [World.frozen?, hg3]
          omega
        have hcl : (Lib.bytesWorld w2 5 ⟨L.toArray⟩).cell? ⟨w2.heap.size, m, none⟩ = some C3[m] := cell_of_heap hg3 (by simp)
        have hr4 := put_byte (c := c) hc hmL hg3 hr3
        have HF4 := Lib.hid (((HF2.out.trans hf3 (by simp))).setCell (p := ⟨w2.heap.size, m, none⟩) (.inr HF2.out.size) (.int .u8 (c : Int)))
        have HR4 := Lib.hid hr4
        clear hg3 hr3 hf3 hr4
        have hcvt := RdB.convert (HR4.out)
        generalize hLL : L.set m (UInt8.ofNat c) = L4 at *
        have hL4 : L4.length ≤ 200 := by rw [← hLL]; simp only [List.length_set]; omega
        clear hLL
        go_wp2_with fail
        have hg5 : (((Lib.bytesWorld w2 5 ⟨L.toArray⟩).setCell ⟨w2.heap.size, m, none⟩ (.int .u8 (c : Int))).alloc (.cells #[.string s, .string ⟨L4.toArray⟩] 9)).heap[((Lib.bytesWorld w2 5 ⟨L.toArray⟩).setCell ⟨w2.heap.size, m, none⟩ (.int .u8 (c : Int))).heap.size]? = some (.cells #[.string s, .string ⟨L4.toArray⟩] 9 (0, 0)) := heap_alloc_at _ _
        rw [show ((Lib.bytesWorld w2 5 ⟨L.toArray⟩).setCell ⟨w2.heap.size, m, none⟩ (.int .u8 (c : Int))).heap.size = (Lib.bytesWorld w2 5 ⟨L.toArray⟩).heap.size by simp] at hg5
        have HF5 := Lib.hid ((HF4.out).alloc (.cells #[.string s, .string ⟨L4.toArray⟩] 9))
        generalize ((Lib.bytesWorld w2 5 ⟨L.toArray⟩).setCell ⟨w2.heap.size, m, none⟩ (.int .u8 (c : Int))).alloc (.cells #[.string s, .string ⟨L4.toArray⟩] 9) = W5 at *
        generalize (Lib.bytesWorld w2 5 ⟨L.toArray⟩).heap.size = g5 at *
        have HG5 := Lib.hid hg5
        clear hg5
        clear hme hfz hcl hcv
        go_loopw [11, 12, 13, 14, 15, 45] (fun _ _ _ _ _ i wr => ∃ j : Nat, j ≤ 2 ∧ i = .int .i64 j ∧ Frm [] W5 wr) (fun _ _ _ _ _ i _ => 2 - (intOf i).toNat)
        case atStart => exact ⟨0, by omega, rfl, Frm.refl _ _⟩
        case round =>
          obtain ⟨j, hj, rfl, hf⟩ := hrel
          by_cases hlt : j < 2
          · obtain ⟨xj, hxj, hxs⟩ : ∃ xj : ByteArray, wr.cell? ⟨g5, j, none⟩ = some (.string xj) ∧ xj.size ≤ 200 := by
              have hh := hf.heap HG5.out (by simp)
              rcases (by omega : j = 0 ∨ j = 1) with rfl | rfl
              · exact ⟨s, cell_of_heap hh rfl, by omega⟩
              · exact ⟨⟨L4.toArray⟩, cell_of_heap hh rfl, by show L4.length ≤ 200; omega⟩
            have hp1 := keysParse xj (by omega) wr
            have HF := Lib.hid hf
            clear hf
            go_wp2_with fail
            refine hp1.mono ?_
            intro e6 w6 h6
            have hp2 := refParse xj (by omega) w6
            have h6' := h6
            obtain ⟨v6, o6, l6, rfl, _⟩ := h6'
            have H6 := Lib.hid h6
            clear hp1 h6 hxj
            go_wp2_with fail
            refine hp2.mono ?_
            intro e7 w7 h7
            obtain ⟨v1, v2, ok, l, he1, rfl, r1, r2, r3, f1, f2⟩ := same_read H6.out h7
            obtain ⟨rfl, rfl⟩ : v6 = v1 ∧ o6 = ok := by simpa using he1
            have hc1 := r2.convert
            have hc2 := r3.convert
            have HF7 := Lib.hid ((HF.out.trans f1 (by simp)).trans f2 (by simp))
            clear hp2 h7 he1 r1 r2 r3 f1 f2
            cases o6
            all_goals go_wp2_with fail
            all_goals go_roundw
            case' rel => exact ⟨j + 1, by omega, by go_num, HF7.out⟩
            case' measure => simp [intOf]; omega
            case' rel => exact ⟨j + 1, by omega, by go_num, HF7.out⟩
            case' measure => simp [intOf]; omega
          · obtain rfl : j = 2 := by omega
            have HF := Lib.hid (HF5.out.trans hf (by simp))
            clear hf
            go_wp2_with fail
            go_ret
            exact ⟨rfl, HF.out⟩
      · obtain rfl : L = [] := List.eq_nil_of_length_eq_zero (by omega)
        have HR4 : RdB (Lib.bytesWorld w2 5 ⟨#[]⟩) (.slice (some ⟨w2.heap.size, 0, none⟩) 0 (grownCap w2 0 0 5)) [] := rdB_bytesWorld w2 ⟨#[]⟩ _
        have HF4 := Lib.hid (HF2.out.trans (frm_bytesWorld w2 5 ⟨#[]⟩) (by simp))
        have hcvt := RdB.convert (HR4)
        obtain ⟨L4, hLL⟩ : ∃ L4 : List UInt8, L4 = [] := ⟨_, rfl⟩
        have hcvt' : (convert 22 9 (.slice (some ⟨w2.heap.size, 0, none⟩) 0 (grownCap w2 0 0 5))).run Tryd.prog (Lib.bytesWorld w2 5 ⟨#[]⟩) = .ok (.string ⟨L4.toArray⟩) (Lib.bytesWorld w2 5 ⟨#[]⟩) := by
          rw [hLL]
          exact hcvt
        clear hcvt
        have hL4 : L4.length ≤ 200 := by rw [hLL]; simp
        clear hLL
        go_wp2_with fail
        have hg5 : ((Lib.bytesWorld w2 5 ⟨#[]⟩).alloc (.cells #[.string s, .string ⟨L4.toArray⟩] 9)).heap[(Lib.bytesWorld w2 5 ⟨#[]⟩).heap.size]? = some (.cells #[.string s, .string ⟨L4.toArray⟩] 9 (0, 0)) := heap_alloc_at _ _
        have HF5 := Lib.hid ((HF4.out).alloc (.cells #[.string s, .string ⟨L4.toArray⟩] 9))
        generalize (Lib.bytesWorld w2 5 ⟨#[]⟩).alloc (.cells #[.string s, .string ⟨L4.toArray⟩] 9) = W5 at *
        generalize (Lib.bytesWorld w2 5 ⟨#[]⟩).heap.size = g5 at *
        have HG5 := Lib.hid hg5
        clear hg5
        go_loopw [11, 12, 13, 14, 15, 45] (fun _ _ _ _ _ i wr => ∃ j : Nat, j ≤ 2 ∧ i = .int .i64 j ∧ Frm [] W5 wr) (fun _ _ _ _ _ i _ => 2 - (intOf i).toNat)
        case atStart => exact ⟨0, by omega, rfl, Frm.refl _ _⟩
        case round =>
          obtain ⟨j, hj, rfl, hf⟩ := hrel
          by_cases hlt : j < 2
          · obtain ⟨xj, hxj, hxs⟩ : ∃ xj : ByteArray, wr.cell? ⟨g5, j, none⟩ = some (.string xj) ∧ xj.size ≤ 200 := by
              have hh := hf.heap HG5.out (by simp)
              rcases (by omega : j = 0 ∨ j = 1) with rfl | rfl
              · exact ⟨s, cell_of_heap hh rfl, by omega⟩
              · exact ⟨⟨L4.toArray⟩, cell_of_heap hh rfl, by show L4.length ≤ 200; omega⟩
            have hp1 := keysParse xj (by omega) wr
            have HF := Lib.hid hf
            clear hf
            go_wp2_with fail
            refine hp1.mono ?_
            intro e6 w6 h6
            have hp2 := refParse xj (by omega) w6
            have h6' := h6
            obtain ⟨v6, o6, l6, rfl, _⟩ := h6'
            have H6 := Lib.hid h6
            clear hp1 h6 hxj
            go_wp2_with fail
            refine hp2.mono ?_
            intro e7 w7 h7
            obtain ⟨v1, v2, ok, l, he1, rfl, r1, r2, r3, f1, f2⟩ := same_read H6.out h7
            obtain ⟨rfl, rfl⟩ : v6 = v1 ∧ o6 = ok := by simpa using he1
            have hc1 := r2.convert
            have hc2 := r3.convert
            have HF7 := Lib.hid ((HF.out.trans f1 (by simp)).trans f2 (by simp))
            clear hp2 h7 he1 r1 r2 r3 f1 f2
            cases o6
            all_goals go_wp2_with fail
            all_goals go_roundw
            case' rel => exact ⟨j + 1, by omega, by go_num, HF7.out⟩
            case' measure => simp [intOf]; omega
            case' rel => exact ⟨j + 1, by omega, by go_num, HF7.out⟩
            case' measure => simp [intOf]; omega
          · obtain rfl : j = 2 := by omega
            have HF := Lib.hid (HF5.out.trans hf (by simp))
            clear hf
            go_wp2_with fail
            go_ret
            exact ⟨rfl, HF.out⟩
    · go_enter Tryd.func4, Tryd.ntmps4
      go_wp2_with fail
      refine hkn.mono ?_
      rintro e w1 ⟨rfl, hf1⟩
      have HF1 := Lib.hid hf1
      clear hkn hf1 ht
      go_wp2_with fail
      go_ret
      exact ⟨rfl, HF1.out⟩
  · go_enter Tryd.func4, Tryd.ntmps4
    go_wp2_with fail
    refine hkn.mono ?_
    rintro e w1 ⟨rfl, hf1⟩
    have HF1 := Lib.hid hf1
    clear hkn hf1 ht
    go_wp2_with fail
    go_ret
    exact ⟨rfl, HF1.out⟩

end Go.Proofs.YtaobohlcpgnebaaDoor
