/-
  THE WALK OF foolscaplaw3.IndexPlays: it returns true at every text and every script, and changes nothing that lay in memory.
-/
import Derived.Test.YtnajkjgjeiodmaaL3typed
namespace Go.Proofs.Ytnajkjgjeiodmaa
open Go.RowKit
open Go.Proofs (Try.prog)

set_option maxRecDepth 100000 in
set_option maxHeartbeats 8000000 in
theorem indexPlays (w : World) (s : ByteArray) (a : Option Addr) (len cap : Nat) (hs : s.size ≤ maxLen) (hlm : len ≤ maxLen)
    (ha : ∀ i, i < len → ∃ (y : Addr) (v : Nat) (o n : Int) (S : ByteArray), a = some y ∧ v ≤ 255 ∧ S.size ≤ maxLen ∧ w.cell? (y.add (i * 4)) = some (.int .u8 v) ∧ w.cell? ⟨(y.add (i * 4)).block, (y.add (i * 4)).off + 1, none⟩ = some (.int .i64 o) ∧ w.cell? ⟨(y.add (i * 4)).block, (y.add (i * 4)).off + 2, none⟩ = some (.int .i64 n) ∧ w.cell? ⟨(y.add (i * 4)).block, (y.add (i * 4)).off + 3, none⟩ = some (.string S)) :
    Calls Try.prog 9 #[.string s, .slice a len cap] w fun e w' => e = .returned (.bool true) ∧ Frm [] w w' := by
  have hk := known3 w
  unfold maxLen at hs hlm ha
  by_cases hs1 : s.size ≤ 150
  · by_cases hl1 : len ≤ 30
    · go_enter Try.func9, Try.ntmps9
      have HA := Lib.hid ha
      clear ha
      go_wp2_with fail
      refine hk.mono ?_
      rintro e w1 ⟨rfl, hf1⟩
      have hn1 := idxNew w1 s (by omega)
      have HF1 := Lib.hid hf1
      clear hk hf1
      go_wp2_with fail
      refine hn1.mono ?_
      rintro e w2 ⟨x, fx, rfl, hx, hf2, hbx⟩
      have hwh := whole3 w2 x fx s hx (by omega)
      have HF2 := Lib.hid (HF1.out.trans hf2 (by simp))
      have HX := Lib.hid hx
      have HBX := Lib.hid (show ∀ b ∈ fx, w.heap.size ≤ b from fun b hm => Nat.le_trans HF1.out.size (hbx b hm))
      clear hn1 hx hf2 hbx
      go_wp2_with fail
      refine hwh.mono ?_
      rintro e w3 ⟨rfl, hf3⟩
      have hheld : Held w x s.data.toList w3 := ⟨fx, HX.out.frm hf3 (by simp), HBX.out, HF2.out.trans hf3 (by simp)⟩
      have HELD := Lib.hid hheld
      clear hwh hf3 hheld
      go_wp2_with fail
      go_loopw [6, 7] (fun c i wr => ∃ (cs : ByteArray) (k : Nat), cs.size ≤ 150 + 30 * k ∧ k ≤ len ∧ c = .string cs ∧ i = .int .i64 k ∧ Held w x cs.data.toList wr) (fun _ i _ => len - (intOf i).toNat)
      case atStart => exact ⟨s, 0, hs1, Nat.zero_le _, rfl, rfl, HELD.out⟩
      case round =>
        obtain ⟨cs, k, hcs, hkl, rfl, rfl, hh⟩ := hrel
        obtain ⟨fp, h1, h2, h3⟩ := hh
        have HH1 := Lib.hid h1
        have HH2 := Lib.hid h2
        have HH3 := Lib.hid h3
        have hfl := h1.lt
        have HFL := Lib.hid hfl
        clear h1 h2 h3 hfl
        by_cases hlt : k < len
        · obtain ⟨y, v, o, n, S, rfl, hv, hS, c0, c1, c2, c3⟩ := HA.out k hlt
          have d0 := HH3.out.cell c0 (by simp)
          have d1 := HH3.out.cell c1 (by simp)
          have d2 := HH3.out.cell c2 (by simp)
          have d3 := HH3.out.cell c3 (by simp)
          clear c0 c1 c2 c3
          by_cases hS1 : S.size ≤ 30
          · by_cases hT : v % 3 < 2
            · have hT1 : ((v : Int) % 3) < 2 := by omega
              by_cases h0 : 0 ≤ o
              · by_cases ho1 : o ≤ cs.size
                · obtain ⟨m, rfl⟩ := Int.eq_ofNat_of_zero_le h0
                  have hm : m ≤ cs.size := by omega
                  as_aux_lemma =>
                    obtain ⟨c1, hc1⟩ : ∃ c1, cs.extract 0 m ++ S = c1 := ⟨_, rfl⟩
                    obtain ⟨c2, hc2⟩ : ∃ c2, c1 ++ cs.extract m cs.size = c2 := ⟨_, rfl⟩
                    have hcl := size_of_list cs
                    have hSl := size_of_list S
                    have hc1l : c1.data.toList = cs.data.toList.take m ++ S.data.toList := by
                      rw [← hc1, ← extract_head]
                      simp
                    have hc2l : c2.data.toList = cs.data.toList.take m ++ S.data.toList ++ cs.data.toList.drop m := by
                      rw [← hc2, ← hc1l, ← extract_tail]
                      simp
                    have hc1s : c1.size ≤ cs.size + S.size := by
                      rw [← size_of_list c1, hc1l, List.length_append, List.length_take]
                      omega
                    have hc2s : c2.size ≤ 150 + 30 * (k + 1) := by
                      rw [← size_of_list c2, hc2l, List.length_append, List.length_append, List.length_take, List.length_drop]
                      omega
                    have HADD1 := Lib.hid (show ∀ W, (Op.stringOp .add (cs.extract 0 m) S).run Try.prog W = .ok (.string c1) W from fun W => by
                      rw [run_string_add_sum W _ _ (by
                        have := size_extract_le cs 0 m
                        omega), hc1])
                    have HADD2 := Lib.hid (show ∀ W, (Op.stringOp .add c1 (cs.extract m cs.size)).run Try.prog W = .ok (.string c2) W from fun W => by
                      rw [run_string_add_sum W _ _ (by
                        have := size_extract_le cs m cs.size
                        omega), hc2])
                    clear hc1 hc2 hc1l hc1s
                    have hf1 : Frm [] wr (wr.alloc (.cells #[.int .u8 v, .int .i64 m, .int .i64 n, .string S] 57)) := (Frm.refl [] wr).alloc _
                    have hi1 := HH1.out.frm hf1 (by simp)
                    have hop := idxInsert _ x fp _ m S hi1 (by omega) (by omega)
                    rw [← hc2l] at hop
                    have hnb : wr.heap.size ∉ fp := fun hm => by
                      have := HFL.out _ hm
                      omega
                    have HNB := Lib.hid hnb
                    have HF1b := Lib.hid (HH3.out.trans hf1 (by simp))
                    have HC2S := Lib.hid hc2s
                    clear hf1 hi1 hnb hc2l hc2s
                    go_wp2_with fail
                    refine hop.mono ?_
                    rintro e w3 ⟨rfl, fp3, hi3, hf3, hb3⟩
                    have hp3 := hf3.heap (heap_alloc_at wr (.cells #[.int .u8 v, .int .i64 m, .int .i64 n, .string S] 57)) HNB.out
                    have e1 : w3.cell? ⟨wr.heap.size, 1, none⟩ = some (.int .i64 m) := cell_of_heap (i := 1) hp3 rfl
                    have e2 : w3.cell? ⟨wr.heap.size, 2, none⟩ = some (.int .i64 n) := cell_of_heap (i := 2) hp3 rfl
                    have e3 : w3.cell? ⟨wr.heap.size, 3, none⟩ = some (.string S) := cell_of_heap (i := 3) hp3 rfl
                    have hwh := fun nq => whole3 (w3.drewN nq) x fp3 c2 (hi3.frm ((Frm.refl [] w3).drewN nq) (by simp)) (by have := HC2S.out; omega)
                    have HWH := Lib.hid hwh
                    have HELD3 := Lib.hid (Held.step HH2.out HF1b.out ⟨fp3, hi3, hf3, hb3⟩)
                    clear hop hi3 hf3 hb3 hp3 hwh d0 d1 d2 d3
                    have hadd := HADD1.out
                    have hadd2 := HADD2.out
                    go_wp2_with fail
                    go_quiet (fail)
                    clear hadd
                    go_wp2_with fail
                    refine (HWH.out _).mono ?_
                    rintro e w4 ⟨rfl, hf4⟩
                    obtain ⟨fp5, g1, g2, g3⟩ := HELD3.out
                    have HELD4 := Lib.hid (show Held w x c2.data.toList w4 from ⟨fp5, (g1.frm ((Frm.refl [] w3).drewN _) (by simp)).frm hf4 (by simp), g2, (g3.drewN _).trans hf4 (by simp)⟩)
                    clear hf4 g1 g2 g3
                    go_wp2_with fail
                    refine ⟨⟨c2, k + 1, HC2S.out, by omega, rfl, by go_num, HELD4.out⟩, ?_⟩
                    simp [intOf]
                    omega
                · have ho2 : (cs.size : Int) < o := by omega
                  as_aux_lemma =>
                    skip
                    have hf1 : Frm [] wr (wr.alloc (.cells #[.int .u8 v, .int .i64 o, .int .i64 n, .string S] 57)) := (Frm.refl [] wr).alloc _
                    have hi1 := HH1.out.frm hf1 (by simp)
                    have hno := idxInsert_no _ x fp _ o S hi1 (by rw [size_of_list]; omega)
                    have hwh := whole3 _ x fp cs hi1 (by omega)
                    have HI1 := Lib.hid hi1
                    have HF1b := Lib.hid (HH3.out.trans hf1 (by simp))
                    clear hf1 hi1
                    go_wp2_with fail
                    refine hno.mono ?_
                    rintro e w' ⟨rfl, rfl⟩
                    clear hno
                    go_wp2_with fail
                    refine hwh.mono ?_
                    rintro e w4 ⟨rfl, hf4⟩
                    clear hwh
                    have HELD4 := Lib.hid (show Held w x cs.data.toList w4 from ⟨fp, HI1.out.frm hf4 (by simp), HH2.out, HF1b.out.trans hf4 (by simp)⟩)
                    clear hf4
                    go_wp2_with fail
                    refine ⟨⟨cs, k + 1, by omega, by omega, rfl, by go_num, HELD4.out⟩, ?_⟩
                    simp [intOf]
                    omega
              · have ho2 : o < 0 := by omega
                as_aux_lemma =>
                  skip
                  have hf1 : Frm [] wr (wr.alloc (.cells #[.int .u8 v, .int .i64 o, .int .i64 n, .string S] 57)) := (Frm.refl [] wr).alloc _
                  have hi1 := HH1.out.frm hf1 (by simp)
                  have hno := idxInsert_no _ x fp _ o S hi1 (by rw [size_of_list]; omega)
                  have hwh := whole3 _ x fp cs hi1 (by omega)
                  have HI1 := Lib.hid hi1
                  have HF1b := Lib.hid (HH3.out.trans hf1 (by simp))
                  clear hf1 hi1
                  go_wp2_with fail
                  refine hno.mono ?_
                  rintro e w' ⟨rfl, rfl⟩
                  clear hno
                  go_wp2_with fail
                  refine hwh.mono ?_
                  rintro e w4 ⟨rfl, hf4⟩
                  clear hwh
                  have HELD4 := Lib.hid (show Held w x cs.data.toList w4 from ⟨fp, HI1.out.frm hf4 (by simp), HH2.out, HF1b.out.trans hf4 (by simp)⟩)
                  clear hf4
                  go_wp2_with fail
                  refine ⟨⟨cs, k + 1, by omega, by omega, rfl, by go_num, HELD4.out⟩, ?_⟩
                  simp [intOf]
                  omega
            · have hT1 : ¬ ((v : Int) % 3) < 2 := by omega
              by_cases h0 : 0 ≤ o
              · by_cases hn0 : 0 ≤ n
                · by_cases ho1 : o ≤ cs.size
                  · by_cases hn1 : n ≤ cs.size - o
                    · obtain ⟨m, rfl⟩ := Int.eq_ofNat_of_zero_le h0
                      obtain ⟨q, rfl⟩ := Int.eq_ofNat_of_zero_le hn0
                      have hm : m + q ≤ cs.size := by omega
                      as_aux_lemma =>
                        obtain ⟨c2, hc2⟩ : ∃ c2, cs.extract 0 m ++ cs.extract (m + q) cs.size = c2 := ⟨_, rfl⟩
                        have hcl := size_of_list cs
                        have hc2l : c2.data.toList = cs.data.toList.take m ++ cs.data.toList.drop (m + q) := by
                          rw [← hc2, ← extract_head, ← extract_tail]
                          simp
                        have hc2s : c2.size ≤ 150 + 30 * (k + 1) := by
                          rw [← size_of_list c2, hc2l, List.length_append, List.length_take, List.length_drop]
                          omega
                        have HADD1 := Lib.hid (show ∀ W, (Op.stringOp .add (cs.extract 0 m) (cs.extract (m + q) cs.size)).run Try.prog W = .ok (.string c2) W from fun W => by
                          rw [run_string_add_sum W _ _ (by
                            have := size_extract_le cs 0 m
                            have := size_extract_le cs (m + q) cs.size
                            omega), hc2])
                        clear hc2
                        have hf1 : Frm [] wr (wr.alloc (.cells #[.int .u8 v, .int .i64 m, .int .i64 q, .string S] 57)) := (Frm.refl [] wr).alloc _
                        have hi1 := HH1.out.frm hf1 (by simp)
                        have hop := idxDelete _ x fp _ m q hi1 (by omega) (by omega)
                        rw [← hc2l] at hop
                        have hnb : wr.heap.size ∉ fp := fun hm => by
                          have := HFL.out _ hm
                          omega
                        have HNB := Lib.hid hnb
                        have HF1b := Lib.hid (HH3.out.trans hf1 (by simp))
                        have HC2S := Lib.hid hc2s
                        clear hf1 hi1 hnb hc2l hc2s
                        go_wp2_with fail
                        refine hop.mono ?_
                        rintro e w3 ⟨rfl, fp3, hi3, hf3, hb3⟩
                        have hp3 := hf3.heap (heap_alloc_at wr (.cells #[.int .u8 v, .int .i64 m, .int .i64 q, .string S] 57)) HNB.out
                        have e1 : w3.cell? ⟨wr.heap.size, 1, none⟩ = some (.int .i64 m) := cell_of_heap (i := 1) hp3 rfl
                        have e2 : w3.cell? ⟨wr.heap.size, 2, none⟩ = some (.int .i64 q) := cell_of_heap (i := 2) hp3 rfl
                        have e3 : w3.cell? ⟨wr.heap.size, 3, none⟩ = some (.string S) := cell_of_heap (i := 3) hp3 rfl
                        have hwh := fun nq => whole3 (w3.drewN nq) x fp3 c2 (hi3.frm ((Frm.refl [] w3).drewN nq) (by simp)) (by have := HC2S.out; omega)
                        have HWH := Lib.hid hwh
                        have HELD3 := Lib.hid (Held.step HH2.out HF1b.out ⟨fp3, hi3, hf3, hb3⟩)
                        clear hop hi3 hf3 hb3 hp3 hwh d0 d1 d2 d3
                        have hadd := HADD1.out
                        have hs1 : IntKind.i64.wrap ((m : Int) + (q : Int)) = (m : Int) + (q : Int) := by rw [IntKind.wrap_i64]; omega
                        have hs2 : ((m : Int) + (q : Int)).toNat = m + q := by omega
                        have hs3 : (m : Int) + (q : Int) ≤ (cs.size : Int) := by omega
                        have hs4 : (0 : Int) ≤ (m : Int) + (q : Int) := by omega
                        go_wp2_with fail
                        go_quiet (fail)
                        clear hadd
                        go_wp2_with fail
                        refine (HWH.out _).mono ?_
                        rintro e w4 ⟨rfl, hf4⟩
                        obtain ⟨fp5, g1, g2, g3⟩ := HELD3.out
                        have HELD4 := Lib.hid (show Held w x c2.data.toList w4 from ⟨fp5, (g1.frm ((Frm.refl [] w3).drewN _) (by simp)).frm hf4 (by simp), g2, (g3.drewN _).trans hf4 (by simp)⟩)
                        clear hf4 g1 g2 g3
                        go_wp2_with fail
                        refine ⟨⟨c2, k + 1, HC2S.out, by omega, rfl, by go_num, HELD4.out⟩, ?_⟩
                        simp [intOf]
                        omega
                    · have hn2 : (cs.size : Int) - o < n := by omega
                      as_aux_lemma =>
                        skip
                        have hf1 : Frm [] wr (wr.alloc (.cells #[.int .u8 v, .int .i64 o, .int .i64 n, .string S] 57)) := (Frm.refl [] wr).alloc _
                        have hi1 := HH1.out.frm hf1 (by simp)
                        have hno := idxDelete_no _ x fp _ o n hi1 (by rw [size_of_list]; omega) (by rw [size_of_list]; omega)
                        have hwh := whole3 _ x fp cs hi1 (by omega)
                        have HI1 := Lib.hid hi1
                        have HF1b := Lib.hid (HH3.out.trans hf1 (by simp))
                        clear hf1 hi1
                        go_wp2_with fail
                        refine hno.mono ?_
                        rintro e w' ⟨rfl, rfl⟩
                        clear hno
                        go_wp2_with fail
                        refine hwh.mono ?_
                        rintro e w4 ⟨rfl, hf4⟩
                        clear hwh
                        have HELD4 := Lib.hid (show Held w x cs.data.toList w4 from ⟨fp, HI1.out.frm hf4 (by simp), HH2.out, HF1b.out.trans hf4 (by simp)⟩)
                        clear hf4
                        go_wp2_with fail
                        refine ⟨⟨cs, k + 1, by omega, by omega, rfl, by go_num, HELD4.out⟩, ?_⟩
                        simp [intOf]
                        omega
                  · have ho2 : (cs.size : Int) < o := by omega
                    as_aux_lemma =>
                      skip
                      have hf1 : Frm [] wr (wr.alloc (.cells #[.int .u8 v, .int .i64 o, .int .i64 n, .string S] 57)) := (Frm.refl [] wr).alloc _
                      have hi1 := HH1.out.frm hf1 (by simp)
                      have hno := idxDelete_no _ x fp _ o n hi1 (by rw [size_of_list]; omega) (by rw [size_of_list]; omega)
                      have hwh := whole3 _ x fp cs hi1 (by omega)
                      have HI1 := Lib.hid hi1
                      have HF1b := Lib.hid (HH3.out.trans hf1 (by simp))
                      clear hf1 hi1
                      go_wp2_with fail
                      refine hno.mono ?_
                      rintro e w' ⟨rfl, rfl⟩
                      clear hno
                      go_wp2_with fail
                      refine hwh.mono ?_
                      rintro e w4 ⟨rfl, hf4⟩
                      clear hwh
                      have HELD4 := Lib.hid (show Held w x cs.data.toList w4 from ⟨fp, HI1.out.frm hf4 (by simp), HH2.out, HF1b.out.trans hf4 (by simp)⟩)
                      clear hf4
                      go_wp2_with fail
                      refine ⟨⟨cs, k + 1, by omega, by omega, rfl, by go_num, HELD4.out⟩, ?_⟩
                      simp [intOf]
                      omega
                · have hn2 : n < 0 := by omega
                  as_aux_lemma =>
                    skip
                    have hf1 : Frm [] wr (wr.alloc (.cells #[.int .u8 v, .int .i64 o, .int .i64 n, .string S] 57)) := (Frm.refl [] wr).alloc _
                    have hi1 := HH1.out.frm hf1 (by simp)
                    have hno := idxDelete_no _ x fp _ o n hi1 (by rw [size_of_list]; omega) (by rw [size_of_list]; omega)
                    have hwh := whole3 _ x fp cs hi1 (by omega)
                    have HI1 := Lib.hid hi1
                    have HF1b := Lib.hid (HH3.out.trans hf1 (by simp))
                    clear hf1 hi1
                    go_wp2_with fail
                    refine hno.mono ?_
                    rintro e w' ⟨rfl, rfl⟩
                    clear hno
                    go_wp2_with fail
                    refine hwh.mono ?_
                    rintro e w4 ⟨rfl, hf4⟩
                    clear hwh
                    have HELD4 := Lib.hid (show Held w x cs.data.toList w4 from ⟨fp, HI1.out.frm hf4 (by simp), HH2.out, HF1b.out.trans hf4 (by simp)⟩)
                    clear hf4
                    go_wp2_with fail
                    refine ⟨⟨cs, k + 1, by omega, by omega, rfl, by go_num, HELD4.out⟩, ?_⟩
                    simp [intOf]
                    omega
              · have ho2 : o < 0 := by omega
                as_aux_lemma =>
                  skip
                  have hf1 : Frm [] wr (wr.alloc (.cells #[.int .u8 v, .int .i64 o, .int .i64 n, .string S] 57)) := (Frm.refl [] wr).alloc _
                  have hi1 := HH1.out.frm hf1 (by simp)
                  have hno := idxDelete_no _ x fp _ o n hi1 (by rw [size_of_list]; omega) (by rw [size_of_list]; omega)
                  have hwh := whole3 _ x fp cs hi1 (by omega)
                  have HI1 := Lib.hid hi1
                  have HF1b := Lib.hid (HH3.out.trans hf1 (by simp))
                  clear hf1 hi1
                  go_wp2_with fail
                  refine hno.mono ?_
                  rintro e w' ⟨rfl, rfl⟩
                  clear hno
                  go_wp2_with fail
                  refine hwh.mono ?_
                  rintro e w4 ⟨rfl, hf4⟩
                  clear hwh
                  have HELD4 := Lib.hid (show Held w x cs.data.toList w4 from ⟨fp, HI1.out.frm hf4 (by simp), HH2.out, HF1b.out.trans hf4 (by simp)⟩)
                  clear hf4
                  go_wp2_with fail
                  refine ⟨⟨cs, k + 1, by omega, by omega, rfl, by go_num, HELD4.out⟩, ?_⟩
                  simp [intOf]
                  omega
          · have hS2 : ¬ ((S.size : Int) ≤ 30) := by omega
            as_aux_lemma =>
              go_wp2_with fail
              go_ret
              exact ⟨rfl, HH3.out.alloc _⟩
        · as_aux_lemma =>
            go_wp2_with fail
            go_ret
            exact ⟨rfl, HH3.out⟩
    · have hl2 : ¬ ((len : Int) ≤ 30) := by omega
      clear ha
      go_enter Try.func9, Try.ntmps9
      go_wp2_with fail
      refine hk.mono ?_
      rintro e w1 ⟨rfl, hf1⟩
      clear hk
      go_wp2_with fail
      go_ret
      exact ⟨rfl, hf1⟩
  · clear ha
    go_enter Try.func9, Try.ntmps9
    go_wp2_with fail
    refine hk.mono ?_
    rintro e w1 ⟨rfl, hf1⟩
    clear hk
    go_wp2_with fail
    go_ret
    exact ⟨rfl, hf1⟩

end Go.Proofs.Ytnajkjgjeiodmaa
