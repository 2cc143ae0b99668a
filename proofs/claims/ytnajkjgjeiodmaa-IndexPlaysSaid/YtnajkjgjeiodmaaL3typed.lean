/-
  THE WALK OF foolscaplaw3.IndexTyped: it returns true at every text and every list of cuts, and changes nothing that lay in memory.
-/
import Derived.Test.YtnajkjgjeiodmaaL3joins
import Derived.Test.YtnajkjgjeiodmaaIdx7
import Derived.Lib.Strings
import Derived.BigQuiet
namespace Go.Proofs.Ytnajkjgjeiodmaa
open Go.RowKit
open Go.Proofs (Try.prog)

theorem extract_one (s : ByteArray) (k : Nat) (h : k < s.size) : (s.extract k (k + 1)).data.toList = [s[k]] := by
  rw [Lib.extract_data, show k + 1 - k = 1 by omega, List.drop_eq_getElem_cons (by simpa using h)]
  rfl
theorem size_of_list (s : ByteArray) : s.data.toList.length = s.size := by simp
theorem extract_head (s : ByteArray) (k : Nat) : (s.extract 0 k).data.toList = s.data.toList.take k := by rw [Lib.extract_data]; simp
theorem extract_tail (s : ByteArray) (k : Nat) : (s.extract k s.size).data.toList = s.data.toList.drop k := by
  rw [Lib.extract_data, List.take_of_length_le (by simp)]
theorem size_extract_le (s : ByteArray) (a b : Nat) : (s.extract a b).size ≤ s.size := by
  have h := congrArg List.length (Lib.extract_data s a b)
  rw [size_of_list, List.length_take, List.length_drop, size_of_list] at h
  omega

/-- An index of a text, in blocks that were made behind W. -/
def Held (W : World) (x : Nat) (t : List UInt8) (wr : World) : Prop := ∃ fp, Idx wr x fp t ∧ (∀ b ∈ fp, W.heap.size ≤ b) ∧ Frm [] W wr
theorem Held.step {W w1 w2 : World} {x : Nat} {t' : List UInt8} {fp : List Nat} (hb : ∀ b ∈ fp, W.heap.size ≤ b) (hf : Frm [] W w1) (h : ∃ fp', Idx w2 x fp' t' ∧ Frm fp w1 w2 ∧ ∀ b ∈ fp', b ∈ fp ∨ w1.heap.size ≤ b) : Held W x t' w2 := by
  obtain ⟨fp', h1, h2, h3⟩ := h
  refine ⟨fp', h1, fun b hm => ?_, hf.trans h2 (fun b hm => .inr (hb b hm))⟩
  rcases h3 b hm with h | h
  · exact hb b h
  · have := hf.size
    omega

set_option maxRecDepth 100000 in
set_option maxHeartbeats 8000000 in
theorem indexTyped (w : World) (s : ByteArray) (a : Option Addr) (len cap : Nat) (hs : s.size ≤ maxLen) (hlm : len ≤ maxLen) (ha : ∀ i, i < len → ∃ (y : Addr) (v : Nat), a = some y ∧ v ≤ 255 ∧ w.cell? (y.add i) = some (.int .u8 v)) :
    Calls Try.prog 10 #[.string s, .slice a len cap] w fun e w' => e = .returned (.bool true) ∧ Frm [] w w' := by
  have hk := known3 w
  unfold maxLen at hs hlm
  by_cases hs1 : s.size ≤ 120
  · by_cases hl1 : len ≤ 20
    · go_enter Try.func10, Try.ntmps10
      have HA := Lib.hid ha
      clear ha
      go_wp2_with fail
      refine hk.mono ?_
      rintro e w1 ⟨rfl, hf1⟩
      have hn1 := idxNew w1 ⟨#[]⟩ (by decide)
      have HF1 := Lib.hid hf1
      clear hk hf1
      go_wp2_with fail
      refine hn1.mono ?_
      rintro e w2 ⟨x, fx, rfl, hx, hf2, hbx⟩
      have hheld : Held w x (s.data.toList.take 0) w2 := ⟨fx, hx, fun b hm => Nat.le_trans HF1.out.size (hbx b hm), HF1.out.trans hf2 (by simp)⟩
      have HELD := Lib.hid hheld
      clear hn1 hx hf2 hbx hheld
      go_wp2_with fail
      go_loopw [6] (fun i wr => ∃ k : Nat, k ≤ s.size ∧ i = .int .i64 k ∧ Held w x (s.data.toList.take k) wr) (fun i _ => s.size - (intOf i).toNat)
      case atStart => exact ⟨0, Nat.zero_le _, rfl, HELD.out⟩
      case round =>
        obtain ⟨k, hk, rfl, hh⟩ := hrel
        by_cases hlt : k < s.size
        · obtain ⟨fp, h1, h2, h3⟩ := hh
          have hone := extract_one s k hlt
          have hsz : (s.extract k (k + 1)).size = 1 := by rw [← size_of_list, hone]; rfl
          have htl : (s.data.toList.take k).length = k := by rw [List.length_take, size_of_list]; omega
          have hins := idxInsert wr x fp _ k (s.extract k (k + 1)) h1 (by omega) (by omega)
          rw [hone, List.take_of_length_le (by omega), List.drop_of_length_le (by omega), List.append_nil] at hins
          have hnext : s.data.toList.take k ++ [s[k]] = s.data.toList.take (k + 1) := by
            rw [List.take_add_one, List.getElem?_eq_getElem (by simpa using hlt)]
            rfl
          rw [hnext] at hins
          have H2 := Lib.hid h2
          have H3 := Lib.hid h3
          clear h1 h2 h3 hone hsz htl hnext
          go_wp2_with fail
          refine hins.mono ?_
          rintro e w3 ⟨rfl, h4⟩
          have H5 := Lib.hid (Held.step H2.out H3.out h4)
          clear hins h4
          go_wp2_with fail
          go_roundw
          case rel => exact ⟨k + 1, by omega, by go_num, H5.out⟩
          case measure => simp [intOf]; omega
        · obtain rfl : k = s.size := by omega
          rw [List.take_of_length_le (by simp)] at hh
          obtain ⟨fp, h1, h2, h3⟩ := hh
          have hwh := whole3 wr x fp s h1 (by omega)
          have H1 := Lib.hid h1
          have H2 := Lib.hid h2
          have H3 := Lib.hid h3
          clear h1 h2 h3
          go_wp2_with fail
          refine hwh.mono ?_
          rintro e w3 ⟨rfl, hf3⟩
          have hheld : Held w x s.data.toList w3 := ⟨fp, H1.out.frm hf3 (by simp), H2.out, H3.out.trans hf3 (by simp)⟩
          have HELD := Lib.hid hheld
          clear hwh hf3 hheld
          go_wp2_with fail
          go_loopw [7, 8, 9] (fun c i _ wr => ∃ (cs : ByteArray) (k : Nat), cs.size ≤ 120 ∧ k ≤ len ∧ c = .string cs ∧ i = .int .i64 k ∧ Held w x cs.data.toList wr) (fun _ i _ _ => len - (intOf i).toNat)
          case atStart => exact ⟨s, 0, hs1, Nat.zero_le _, rfl, rfl, HELD.out⟩
          case round =>
            obtain ⟨cs, k, hcs, hkl, rfl, rfl, hh⟩ := hrel
            by_cases hlt : k < len
            · by_cases hpos : 0 < cs.size
              · obtain ⟨y, v, rfl, hv, hcell⟩ := HA.out k hlt
                obtain ⟨fp, h1, h2, h3⟩ := hh
                have hcell2 := h3.cell hcell (by simp)
                have hmod : v % cs.size < cs.size := Nat.mod_lt _ hpos
                have hlen := size_of_list cs
                have hdel := idxDelete wr x fp _ (v % cs.size) 1 h1 (by omega) (by omega)
                have hposb : decide ((0 : Int) < (cs.size : Int)) = true := decide_eq_true (by omega)
                have H2 := Lib.hid h2
                have H3 := Lib.hid h3
                clear h1 h2 h3 hcell
                generalize hM : v % cs.size = m at *
                have HM := Lib.hid hM
                clear hM
                obtain ⟨c2, hc2⟩ : ∃ c2, cs.extract 0 m ++ cs.extract (m + 1) cs.size = c2 := ⟨_, rfl⟩
                have hc2l : c2.data.toList = cs.data.toList.take m ++ cs.data.toList.drop (m + 1) := by
                  rw [← hc2, ← extract_head, ← extract_tail]
                  simp
                have hc2s : c2.size ≤ 120 := by
                  rw [← size_of_list, hc2l, List.length_append, List.length_take, List.length_drop]
                  omega
                have hadd : ∀ W, (Op.stringOp .add (cs.extract 0 m) (cs.extract (m + 1) cs.size)).run Try.prog W = .ok (.string c2) W := fun W => by
                  rw [run_string_add_sum W _ _ (by
                    have := size_extract_le cs 0 m
                    have := size_extract_le cs (m + 1) cs.size
                    omega), hc2]
                rw [← hc2l] at hdel
                have HC2S := Lib.hid hc2s
                have HADD := Lib.hid hadd
                clear hc2 hc2l hc2s hadd hlen
                have hvm : (v : Int) % (cs.size : Int) = (m : Int) := by rw [← HM.out]; exact (Int.natCast_emod _ _).symm
                go_wp2_with fail
                rw [hvm]
                refine hdel.mono ?_
                rintro e w3 ⟨rfl, h4⟩
                have H5 := Lib.hid (Held.step H2.out H3.out h4)
                have hadd := HADD.out
                have hm1 : IntKind.i64.wrap ((m : Int) + 1) = (m : Int) + 1 := by rw [IntKind.wrap_i64]; omega
                have hm2 : ((m : Int) + 1).toNat = m + 1 := by omega
                have hm3 : (m : Int) + 1 ≤ (cs.size : Int) := by omega
                have hm4 : (m : Int) ≤ (cs.size : Int) := by omega
                clear hdel h4 hvm
                go_wp2_with fail
                go_quiet (fail)
                clear hadd
                go_wp2_with fail
                refine ⟨⟨c2, k + 1, HC2S.out, by omega, rfl, by go_num, ?_⟩, ?_⟩
                · obtain ⟨fp5, g1, g2, g3⟩ := H5.out
                  exact ⟨fp5, g1.frm ((Frm.refl [] w3).drewN nq) (by simp), g2, g3.drewN nq⟩
                · simp [intOf]
                  omega
              · have hposb : decide ((0 : Int) < (cs.size : Int)) = false := decide_eq_false (by omega)
                obtain ⟨fp, h1, h2, h3⟩ := hh
                have hwh := whole3 wr x fp cs h1 (by omega)
                have H3 := Lib.hid h3
                clear h1 h2 h3
                go_wp2_with fail
                refine hwh.mono ?_
                rintro e w3 ⟨rfl, hf3⟩
                go_wp2_with fail
                go_ret
                exact ⟨rfl, H3.out.trans hf3 (by simp)⟩
            · obtain ⟨fp, h1, h2, h3⟩ := hh
              have hwh := whole3 wr x fp cs h1 (by omega)
              have H3 := Lib.hid h3
              clear h1 h2 h3
              go_wp2_with fail
              refine hwh.mono ?_
              rintro e w3 ⟨rfl, hf3⟩
              go_wp2_with fail
              go_ret
              exact ⟨rfl, H3.out.trans hf3 (by simp)⟩
    · have hl2 : ¬ ((len : Int) ≤ 20) := by omega
      clear ha
      go_enter Try.func10, Try.ntmps10
      go_wp2_with fail
      refine hk.mono ?_
      rintro e w1 ⟨rfl, hf1⟩
      clear hk
      go_wp2_with fail
      go_ret
      exact ⟨rfl, hf1⟩
  · clear ha
    go_enter Try.func10, Try.ntmps10
    go_wp2_with fail
    refine hk.mono ?_
    rintro e w1 ⟨rfl, hf1⟩
    clear hk
    go_wp2_with fail
    go_ret
    exact ⟨rfl, hf1⟩

end Go.Proofs.Ytnajkjgjeiodmaa
