/-
  THE WALK OF foolscaplaw2.PieceSlices: it returns true at every arguments, and changes nothing that lay in memory.
-/
import Derived.Test.YtnajkjgjeiodmaaWh2
import Derived.Laws.Concat
namespace Go.Proofs.Ytnajkjgjeiodmaa
open Go.RowKit
open Go.Proofs (Try.prog)

/-- A string put into another one: what it reads as, and that Go's two sums come to it. -/
theorem put_in (cs S : ByteArray) (m : Nat) (hm : m ≤ cs.size) (hs : cs.size ≤ 1000000000) (hS : S.size ≤ 1000000000) : ∃ c1 c2 : ByteArray, (∀ W, (Op.stringOp .add (cs.extract 0 m) S).run Try.prog W = .ok (.string c1) W) ∧ (∀ W, (Op.stringOp .add c1 (cs.extract m cs.size)).run Try.prog W = .ok (.string c2) W) ∧
    c2.data.toList = cs.data.toList.take m ++ S.data.toList ++ cs.data.toList.drop m ∧ c2.size = cs.size + S.size := by
  have hl : cs.data.toList.length = cs.size := rfl
  have hl2 : S.data.toList.length = S.size := rfl
  have h1 : (cs.extract 0 m).data.toList = cs.data.toList.take m := by rw [Lib.extract_eq]; simp
  have h2 : (cs.extract m cs.size).data.toList = cs.data.toList.drop m := by
    rw [Lib.extract_eq]
    show (cs.data.toList.drop m).take (cs.size - m) = _
    rw [List.take_of_length_le (by rw [List.length_drop]; omega)]
  have z1 : (cs.extract 0 m).size = m := by
    have : (cs.extract 0 m).data.toList.length = (cs.extract 0 m).size := rfl
    rw [← this, h1, List.length_take]
    omega
  have z2 : (cs.extract m cs.size).size = cs.size - m := by
    have : (cs.extract m cs.size).data.toList.length = (cs.extract m cs.size).size := rfl
    rw [← this, h2, List.length_drop]
    omega
  have hL : (cs.extract 0 m ++ S ++ cs.extract m cs.size).data.toList = cs.data.toList.take m ++ S.data.toList ++ cs.data.toList.drop m := by
    rw [← h1, ← h2]
    simp
  have e1 : (cs.extract 0 m ++ S).size = m + S.size := by rw [ByteArray.size_append, z1]
  refine ⟨cs.extract 0 m ++ S, cs.extract 0 m ++ S ++ cs.extract m cs.size, fun W => run_string_add_sum W _ _ (by omega), fun W => run_string_add_sum W _ _ (by omega), hL, ?_⟩
  rw [ByteArray.size_append, e1, z2]
  omega

set_option maxRecDepth 100000 in
set_option maxHeartbeats 4000000 in
theorem pieceSlices (w : World) (s m : ByteArray) (v off n : Int) (hs : s.size ≤ 140737488351232) (hm : m.size ≤ 140737488351232) (hv0 : 0 ≤ v) (hv1 : v ≤ 255) (ho0 : -9223372036854775808 ≤ off) (ho1 : off ≤ 9223372036854775807) (hn0 : -9223372036854775808 ≤ n) (hn1 : n ≤ 9223372036854775807) :
    Calls Try.prog 6 #[.string s, .string m, .int .u8 v, .int .i64 off, .int .i64 n] w fun e w' => e = .returned (.bool true) ∧ Frm [] w w' := by
  have hk := known2 w
  by_cases hsz : s.size + m.size ≤ 300
  · obtain ⟨vn, rfl⟩ := Int.eq_ofNat_of_zero_le hv0
    have hκ : vn % (s.size + 1) ≤ s.size := by have := Nat.mod_lt vn (show 0 < s.size + 1 by omega); omega
    have hκe : (vn : Int) % ((s.size : Int) + 1) = ((vn % (s.size + 1) : Nat) : Int) := by rw [Int.natCast_emod]; rfl
    obtain ⟨c1, c2, hadd1, hadd2, hc2, hc2s⟩ := put_in s m (vn % (s.size + 1)) hκ (by omega) (by omega)
    go_enter Try.func6, Try.ntmps6
    go_wp2_with fail
    refine hk.mono ?_
    rintro e w1 ⟨rfl, hf1⟩
    have hnew := tNew w1 s 1000 1000 (by omega) (by omega) (by omega) (by omega)
    have HF1 := Lib.hid hf1
    have HADD1 := Lib.hid hadd1
    have HADD2 := Lib.hid hadd2
    have HC2 := Lib.hid hc2
    have HC2S := Lib.hid hc2s
    have HKE := Lib.hid hκe
    clear hk hf1 hadd1 hadd2 hc2 hc2s hκe
    go_wp2_with fail
    refine hnew.mono ?_
    rintro e w2 ⟨x, fp, np, rfl, ht, hf2, hb2⟩
    have hins : Calls Try.prog 26 #[.pointer (some ⟨x, 0, none⟩), .int .i64 ((vn % (s.size + 1) : Nat) : Int), .string m] w2 fun e w' => e = .returned (.int .i64 0) ∧ ∃ fp' edits np', Tbl w' x fp' c2.data.toList 1000 edits np' 2000 ∧ Frm fp w2 w' := by
      have hl : s.data.toList.length = s.size := rfl
      by_cases hm0 : m.size = 0
      · refine (tInsert_none ht (by omega) (vn % (s.size + 1)) m (by omega) hm0).mono ?_
        rintro e w' ⟨h1, h2⟩
        have hmn : m.data.toList = [] := List.eq_nil_of_length_eq_zero hm0
        refine ⟨h1, fp, 0, np, ?_, h2.mono (by simp)⟩
        rw [HC2.out, hmn, List.append_nil, List.take_append_drop]
        exact (ht.frm h2 (by simp)).mono (by omega)
      · refine (tInsert_some ht (vn % (s.size + 1)) m (by omega) (by omega) hm0 (by omega)).mono ?_
        rintro e w' ⟨h1, fp', np', h2, h3, _⟩
        refine ⟨h1, fp', 1, np', ?_, h3⟩
        rw [HC2.out]
        exact h2.mono (by omega)
    have HF2 := Lib.hid (HF1.out.trans hf2 (by simp))
    have HB2 := Lib.hid hb2
    have hz1 := HF1.out.size
    have HINS := Lib.hid hins
    clear hnew ht hf2 hb2 hins
    go_wp2_with fail
    rw [HKE.out]
    generalize vn % (s.size + 1) = κ at *
    refine HINS.out.mono ?_
    rintro e w3 ⟨rfl, fp3, edits, np3, ht3, hf3⟩
    have hf3' := HF2.out.trans hf3 (fun b hb => .inr (by have := HB2.out b hb; omega))
    have hsl := fun nq => ht3.frm ((Frm.refl [] w3).drewN nq) (by simp)
    have HF3 := Lib.hid hf3'
    have HT3 := Lib.hid hsl
    clear ht3 hf3 hf3' hsl HINS
    have hadd1 := HADD1.out
    have hadd2 := HADD2.out
    go_wp2_with fail
    go_quiet (fail)
    clear hadd1 hadd2
    have ht4 := HT3.out nq
    have hcl : c2.data.toList.length = c2.size := rfl
    have hc2s : c2.size ≤ 300 := by have := HC2S.out; omega
    by_cases hok : 0 ≤ off ∧ 0 ≤ n ∧ off ≤ (c2.size : Int) ∧ n ≤ (c2.size : Int) - off
    · obtain ⟨g1, g2, g3, g4⟩ := hok
      obtain ⟨o, rfl⟩ := Int.eq_ofNat_of_zero_le g1
      obtain ⟨k, rfl⟩ := Int.eq_ofNat_of_zero_le g2
      have hsl := tSlice ht4 o k (by omega) (by omega)
      have hse : (⟨((c2.data.toList.drop o).take k).toArray⟩ : ByteArray) = c2.extract o (o + k) := by
        rw [Lib.extract_eq, show o + k - o = k by omega]
      rw [hse] at hsl
      have hws : IntKind.i64.wrap ((o : Int) + (k : Int)) = (o : Int) + (k : Int) := by rw [IntKind.wrap_i64]; omega
      have hnat : ((o : Int) + (k : Int)).toNat = o + k := by omega
      clear ht4 hse
      go_wp2_with fail
      refine hsl.mono ?_
      rintro e w5 ⟨rfl, hf5⟩
      have HF5 := Lib.hid ((HF3.out.drewN nq).trans hf5 (by simp))
      clear hsl hf5
      go_wp2_with fail
      go_ret
      exact ⟨by simp, HF5.out⟩
    · have hsl := tSlice_place ht4 (by omega) off n (by rw [hcl]; exact hok)
      clear ht4
      go_wp2_with fail
      refine hsl.mono ?_
      rintro e w5 ⟨rfl, hf5⟩
      have HF5 := Lib.hid ((HF3.out.drewN nq).trans hf5 (by simp))
      clear hsl hf5
      rcases (by omega : off < 0 ∨ (0 ≤ off ∧ n < 0) ∨ (0 ≤ off ∧ 0 ≤ n ∧ (c2.size : Int) < off) ∨ (0 ≤ off ∧ 0 ≤ n ∧ off ≤ (c2.size : Int) ∧ (c2.size : Int) - off < n)) with h | ⟨h, h'⟩ | ⟨h, h', h''⟩ | ⟨h, h', h'', h3⟩
      all_goals
        clear hok
        go_wp2_with fail
        go_ret
        exact ⟨by simp, HF5.out⟩
  · have hgt : (300 : Int) < (s.size : Int) + (m.size : Int) := by omega
    go_enter Try.func6, Try.ntmps6
    go_wp2_with fail
    refine hk.mono ?_
    rintro e w1 ⟨rfl, hf1⟩
    clear hk
    go_wp2_with fail
    go_ret
    exact ⟨rfl, hf1⟩

end Go.Proofs.Ytnajkjgjeiodmaa
