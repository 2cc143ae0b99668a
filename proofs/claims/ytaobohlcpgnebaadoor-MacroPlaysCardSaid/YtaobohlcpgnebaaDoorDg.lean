/-
  CONTRACTS OF keys.Digits AND foolscapref23.Digits: the decimal digits of a number, 0 for those below. Conditions: the table of tens holds what the program's text says (for keys.Digits).
-/
import Derived.Test.YtaobohlcpgnebaaDoorKg
import Derived.Lib.ConvBytes
namespace Go.Proofs.YtaobohlcpgnebaaDoor
open Go.RowKit
open Go.Proofs (Tryd.prog)

/-- The table of the powers of ten. -/
def Tens (w : World) : Prop := Lib.TabIs Tryd.prog w "internal/strconv.uint64pow10" .u64 Lib.pow10Tab
theorem Tens.frm {w w' : World} (h : Tens w) (hf : Frm [] w w') : Tens w' := by
  unfold Tens Lib.TabIs World.var? at *
  cases hg : Tryd.prog.globalNamed "internal/strconv.uint64pow10" with
  | none => simp [hg] at h
  | some g =>
    simp only [hg, Option.bind_some] at h ⊢
    have hlt : g < w.heap.size := by
      rcases Nat.lt_or_ge g w.heap.size with h' | h'
      · exact h'
      · simp [Array.getElem?_eq_none h'] at h
    rw [hf.same g hlt (by simp)]
    exact h
theorem frm_bytesWorld (w : World) (e : TypeId) (s : ByteArray) : Frm [] w (Lib.bytesWorld w e s) :=
  ⟨rfl, rfl, rfl, by rw [Lib.bytesWorld_size]; omega, fun b hb _ => Lib.bytesWorld_at_old w e s b hb⟩
theorem rdB_bytesWorld (w : World) (s : ByteArray) (c : Nat) : RdB (Lib.bytesWorld w 5 s) (.slice (some ⟨w.heap.size, 0, none⟩) s.size c) s.data.toList := by
  refine .inr ⟨_, _, by rw [str_size], fun j u hj => ?_⟩
  obtain ⟨b, hb, rfl⟩ : ∃ b, s.data.toList[j]? = some b ∧ encB b = u := by simpa using hj
  have hj2 : j < s.size := by
    have := (List.getElem?_eq_some_iff.1 hb).1
    rwa [str_size] at this
  rw [addr_add, Nat.zero_add, Lib.bytesWorld_cell w 5 s j hj2, List.getD_eq_getElem?_getD, hb]
  rfl
theorem frm_grow (w : World) (k : Nat) (os : Array Obj) : Frm [] w (Go.Sort.grow (w.drewN k) os) :=
  ⟨rfl, rfl, rfl, by
    show w.heap.size ≤ (w.heap ++ os).size
    simp, fun b hb _ => by
    show (w.heap ++ os)[b]? = w.heap[b]?
    rw [Array.getElem?_append_left hb]⟩
theorem itoa_max (n : Int) : Lib.itoa (max n 0) = Lib.decDigits n.toNat := by
  unfold Lib.itoa
  rw [if_neg (by omega)]
  congr 1
  omega

set_option maxRecDepth 100000 in
set_option maxHeartbeats 1600000 in
theorem keysDigits (n : Int) (h0 : -9223372036854775808 ≤ n) (h1 : n ≤ 9223372036854775807) (w : World) (ht : Tens w) : Calls Tryd.prog 19 #[.int .i64 n] w fun e w' => (∃ v, e = .returned v ∧ RdB w' v (Lib.decDigits n.toNat)) ∧ Frm [] w w' := by
  have hit := Tryd.strconv_Itoa (max n 0) (by omega) (by omega) w ht
  rw [itoa_max] at hit
  have hcv : ∀ W, (convert 9 22 (.string ⟨(Lib.decDigits n.toNat).toArray⟩)).run Tryd.prog W = .ok (.slice (some ⟨W.heap.size, 0, none⟩) (Lib.decDigits n.toNat).length (grownCap W (Lib.decDigits n.toNat).length 0 5)) (Lib.bytesWorld W 5 ⟨(Lib.decDigits n.toNat).toArray⟩) := fun W =>
    Lib.run_convert_string_bytes W 9 22 5 ⟨(Lib.decDigits n.toNat).toArray⟩ Tryd.underlying9 Tryd.underlying22 Tryd.underlying5
  clear ht
  generalize Lib.decDigits n.toNat = L at *
  go_enter Tryd.func19, Tryd.ntmps19
  go_wp2_with fail
  refine hit.mono ?_
  rintro e w1 ⟨rfl, k, os, rfl⟩
  have hf := frm_grow w k os
  generalize Go.Sort.grow (w.drewN k) os = w1 at *
  have HF := Lib.hid (hf.trans (frm_bytesWorld w1 5 ⟨L.toArray⟩) (by simp))
  have HR := Lib.hid (rdB_bytesWorld w1 ⟨L.toArray⟩ (grownCap w1 L.length 0 5))
  clear hit hf
  go_wp2_with fail
  go_ret
  exact ⟨⟨_, rfl, HR.out⟩, HF.out⟩

set_option maxRecDepth 100000 in
set_option maxHeartbeats 1600000 in
theorem refDigits_low (n : Int) (h0 : -9223372036854775808 ≤ n) (h1 : n < 10) (w : World) : Calls Tryd.prog 20 #[.int .i64 n] w fun e w' => (∃ v, e = .returned v ∧ w'.ownsRow w.heap.size 5 1 v (Lib.decDigits n.toNat).length ((Lib.decDigits n.toNat).map encB)) ∧ Frm [] w w' := by
  have hd : Lib.decDigits n.toNat = [UInt8.ofNat (48 + n.toNat)] := Lib.decDigits_one (by omega)
  have hm2 : max n 0 = (n.toNat : Int) := by omega
  rw [hd]
  have HM := Lib.hid hm2
  clear hm2 hd
  go_enter Tryd.func20, Tryd.ntmps20
  go_wp2_with fail
  go_ret
  refine ⟨⟨_, rfl, ?_⟩, (Frm.refl _ _).alloc _⟩
  rw [HM.out]
  refine ⟨rfl, .inr ⟨w.heap.size, 1, _, rfl, Nat.le_refl _, heap_alloc_at _ _, Nat.le_refl _, by decide, rfl, ?_⟩⟩
  simp [encB]
  omega

theorem nDigits_le (u : Nat) (hu : u ≤ 9223372036854775807) : Lib.nDigits u ≤ 1000 := by
  have : ∀ k u, u < 10 ^ k → 0 < k → Lib.nDigits u ≤ k := by
    intro k
    induction k with
    | zero => intro u _ h; omega
    | succ k ih =>
      intro u hu _
      by_cases h : u < 10
      · rw [Lib.nDigits_small h]; omega
      · rw [Lib.nDigits_big h]
        have hk : 0 < k := by
          rcases Nat.eq_zero_or_pos k with rfl | h0
          · simp at hu; omega
          · exact h0
        have := ih (u / 10) (by rw [Nat.pow_succ] at hu; omega) hk
        omega
  exact Nat.le_trans (this 20 u (by omega) (by omega)) (by omega)

set_option maxRecDepth 100000 in
set_option maxHeartbeats 1600000 in
theorem refDigits_nat (m : Nat) (hm : m ≤ 9223372036854775807) (w : World) : Calls Tryd.prog 20 #[.int .i64 (m : Int)] w fun e w' => (∃ v, e = .returned v ∧ w'.ownsRow w.heap.size 5 1 v (Lib.decDigits m).length ((Lib.decDigits m).map encB)) ∧ Frm [] w w' := by
  induction m using Nat.strongRecOn generalizing w with
  | _ m ih =>
    by_cases h10 : m < 10
    · exact refDigits_low m (by omega) (by omega) w
    · obtain ⟨i0, hi, hz0, hz1, hz2⟩ := info_parts (show (Tryd.prog.info? 5).map (fun i => (i.zero, i.size, i.bytes)) = some (some (.int .u8 0), 1, 1) by kernel_rfl)
      have hih := fun W => ih (m / 10) (by omega) (by omega) W
      have hd : Lib.decDigits m = Lib.decDigits (m / 10) ++ [UInt8.ofNat (48 + m % 10)] := by rw [Lib.decDigits, dif_neg h10]
      have hlen : (Lib.decDigits (m / 10)).length ≤ 1000 := by
        rw [Lib.decDigits_length]
        exact nDigits_le _ (by omega)
      have hq : (m : Int).tdiv 10 = ((m / 10 : Nat) : Int) := rfl
      have hr : (m : Int).tmod 10 = ((m % 10 : Nat) : Int) := rfl
      have hqb : m / 10 ≤ 922337203685477580 := by omega
      have hrb : m % 10 < 10 := by omega
      rw [hd]
      have hm10 : ¬ (m : Int) < 10 := by omega
      clear ih hd
      generalize m / 10 = q at *
      generalize hmr : m % 10 = r at *
      go_enter Tryd.func20, Tryd.ntmps20
      go_wp2_with fail
      refine (hih w).mono ?_
      rintro e w1 ⟨⟨v, rfl, hown⟩, hf⟩
      have hF := Lib.hid hf
      have hs1 := hf.size
      clear hih hf
      go_wp2_with (at_builtin; refine wpList_append_row rfl (.tmp 12) (.tmp 17) 22 rfl w.heap.size 5 i0 (.int .u8 0) 1 1 Tryd.underlying22 hi hz0 hz1 hz2 rfl (by decide) _ (Lib.decDigits q).length ((Lib.decDigits q).map encB) rfl (hown.alloc _) _ 1 [.int .u8 (48 + (r : Int))] rfl (.inr ⟨_, _, rfl, cell_one_new _ _ _⟩) rfl (by simp [Value.oneCell']) (by unfold maxLen; omega) (by omega) (by simp; omega) ?_)
      intro v2 w2 hown2 hf2 _ _
      have hF2 := (hF.out.alloc (.cells #[.int .u8 (48 + (r : Int))] 5)).trans hf2 (fun x hx => .inr (own_ge hown x hx))
      have henc : (Lib.decDigits q).map encB ++ [.int .u8 (48 + (r : Int))] = (Lib.decDigits q ++ [UInt8.ofNat (48 + r)]).map encB := by
        simp [encB]
        omega
      rw [henc, show (Lib.decDigits q).length + 1 = (Lib.decDigits q ++ [UInt8.ofNat (48 + r)]).length by simp] at hown2
      have HOWN2 := Lib.hid hown2
      have HF2 := Lib.hid hF2
      clear hown2 hF2 henc hown hf2
      go_wp2_with fail
      go_ret
      exact ⟨⟨_, rfl, HOWN2.out⟩, HF2.out⟩

/-- foolscapref23.Digits at any number. -/
theorem refDigits (n : Int) (h0 : -9223372036854775808 ≤ n) (h1 : n ≤ 9223372036854775807) (w : World) : Calls Tryd.prog 20 #[.int .i64 n] w fun e w' => (∃ v, e = .returned v ∧ RdB w' v (Lib.decDigits n.toNat)) ∧ Frm [] w w' := by
  by_cases hn : n < 10
  · refine (refDigits_low n h0 hn w).mono ?_
    rintro e w' ⟨⟨v, rfl, hown⟩, hf⟩
    exact ⟨⟨v, rfl, Rd.ofOwn hown⟩, hf⟩
  · obtain ⟨m, rfl⟩ := Int.eq_ofNat_of_zero_le (show 0 ≤ n by omega)
    refine (refDigits_nat m (by omega) w).mono ?_
    rintro e w' ⟨⟨v, rfl, hown⟩, hf⟩
    exact ⟨⟨v, rfl, Rd.ofOwn hown⟩, hf⟩

end Go.Proofs.YtaobohlcpgnebaaDoor
