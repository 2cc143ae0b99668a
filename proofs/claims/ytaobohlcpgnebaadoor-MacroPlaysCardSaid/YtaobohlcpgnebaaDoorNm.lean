/-
  CONTRACTS OF keys.Name AND foolscapref23.Name: both tell nameL of a byte. Conditions: none.
-/
import Derived.Test.YtaobohlcpgnebaaDoorBase2
import Derived.Test.YtaobohlcpgnebaaDoorProg
import Derived.Lib.Strings
import Derived.Laws.IdiomStrings
import Derived.BigQuiet
import Derived.Laws.BitsAllLaws
namespace Go.Proofs.YtaobohlcpgnebaaDoor
open Go.RowKit
open Go.Proofs (Tryd.prog)

/-- A hexadecimal digit's byte. -/
def hexd (d : Nat) : UInt8 := if d < 10 then UInt8.ofNat (48 + d) else UInt8.ofNat (87 + d)
/-- A key's name. -/
def nameL (c : Nat) : List UInt8 :=
  if c = 27 then [60, 69, 115, 99, 62] else if c = 13 then [60, 67, 82, 62] else if c = 10 then [60, 78, 76, 62] else if c = 9 then [60, 84, 97, 98, 62]
  else if c = 8 then [60, 66, 83, 62] else if c = 127 then [60, 68, 101, 108, 62] else if c = 60 then [60, 108, 116, 62]
  else if c < 32 then [60, 67, 45, UInt8.ofNat (c + 64), 62] else if 128 ≤ c then [60, 120, hexd (c / 16), hexd (c % 16), 62] else [UInt8.ofNat c]
theorem nameL_ctl {n : Nat} (h : ¬ n = 27 ∧ ¬ n = 13 ∧ ¬ n = 10 ∧ ¬ n = 9 ∧ ¬ n = 8 ∧ ¬ n = 127 ∧ ¬ n = 60) (h1 : n < 32) : nameL n = [60, 67, 45, UInt8.ofNat (n + 64), 62] := by
  obtain ⟨a, b, c, d, e, f, g⟩ := h
  rw [nameL, if_neg a, if_neg b, if_neg c, if_neg d, if_neg e, if_neg f, if_neg g, if_pos h1]
theorem nameL_hex {n : Nat} (h : ¬ n = 27 ∧ ¬ n = 13 ∧ ¬ n = 10 ∧ ¬ n = 9 ∧ ¬ n = 8 ∧ ¬ n = 127 ∧ ¬ n = 60) (h1 : 128 ≤ n) : nameL n = [60, 120, hexd (n / 16), hexd (n % 16), 62] := by
  obtain ⟨a, b, c, d, e, f, g⟩ := h
  rw [nameL, if_neg a, if_neg b, if_neg c, if_neg d, if_neg e, if_neg f, if_neg g, if_neg (by omega), if_pos h1]
theorem nameL_one {n : Nat} (h : ¬ n = 27 ∧ ¬ n = 13 ∧ ¬ n = 10 ∧ ¬ n = 9 ∧ ¬ n = 8 ∧ ¬ n = 127 ∧ ¬ n = 60) (h1 : 32 ≤ n) (h2 : n < 128) : nameL n = [UInt8.ofNat n] := by
  obtain ⟨a, b, c, d, e, f, g⟩ := h
  rw [nameL, if_neg a, if_neg b, if_neg c, if_neg d, if_neg e, if_neg f, if_neg g, if_neg (by omega), if_neg (by omega)]
theorem mixed : Tryd.prog.follows .mixedOrders = true := by kernel_rfl
def hexS : ByteArray := ⟨#[48, 49, 50, 51, 52, 53, 54, 55, 56, 57, 97, 98, 99, 100, 101, 102]⟩
theorem run_hexS {d : Nat} (hd : d < 16) (W : World) : (Instr.index 9 (.string ⟨#[48, 49, 50, 51, 52, 53, 54, 55, 56, 57, 97, 98, 99, 100, 101, 102]⟩) (.int .u8 (d : Int))).run Tryd.prog W = .ok (.int .u8 ((hexd d).toNat : Int)) W := by
  rw [run_index_string W 9 _ _ _ Tryd.underlying9]
  have : d = 0 ∨ d = 1 ∨ d = 2 ∨ d = 3 ∨ d = 4 ∨ d = 5 ∨ d = 6 ∨ d = 7 ∨ d = 8 ∨ d = 9 ∨ d = 10 ∨ d = 11 ∨ d = 12 ∨ d = 13 ∨ d = 14 ∨ d = 15 := by omega
  rcases this with rfl | rfl | rfl | rfl | rfl | rfl | rfl | rfl | rfl | rfl | rfl | rfl | rfl | rfl | rfl | rfl <;> rfl
theorem convert_list (l : List UInt8) (w : World) (T : TypeId) (cs : Array Value) (n : Nat) (hn : n = l.length) (hcs : cs.toList = l.map fun b => .int .u8 (b.toNat : Int)) :
    (convert 22 9 (.slice (some ⟨w.heap.size, 0, none⟩) n n)).run Tryd.prog (w.alloc (.cells cs T)) = .ok (.string ⟨l.toArray⟩) (w.alloc (.cells cs T)) := by
  subst hn
  refine run_convert_bytes_back (P := Tryd.prog) (w.alloc (.cells cs T)) 22 9 5 ⟨w.heap.size, 0, none⟩ l.length l Tryd.underlying22 Tryd.underlying5 Tryd.underlying9 (fun j hj => ?_)
  have hv : cs[j]? = some (.int .u8 (l[j].toNat : Int)) := by
    rw [← Array.getElem?_toList, hcs]
    simp [hj]
  have hc := cell_of_heap (heap_alloc_at w (.cells cs T)) hv
  have e : (⟨w.heap.size, 0, none⟩ : Addr).add j = ⟨w.heap.size, j, none⟩ := by unfold Addr.add; split <;> simp_all
  rw [e]
  exact hc
def strOf (l : List UInt8) : Value := .string ⟨l.toArray⟩

theorem convert_one (n : Nat) (hn : n < 256) (w : World) (T : TypeId) :
    (convert 22 9 (.slice (some ⟨w.heap.size, 0, none⟩) 1 1)).run Tryd.prog (w.alloc (.cells #[.int .u8 (n : Int)] T)) = .ok (.string ⟨#[UInt8.ofNat n]⟩) (w.alloc (.cells #[.int .u8 (n : Int)] T)) := by
  have := run_convert_bytes_back (P := Tryd.prog) (w.alloc (.cells #[.int .u8 (n : Int)] T)) 22 9 5 ⟨w.heap.size, 0, none⟩ 1 [UInt8.ofNat n] Tryd.underlying22 Tryd.underlying5 Tryd.underlying9 (fun j hj => by
    have hj0 : j = 0 := by simpa using hj
    subst hj0
    have e : (UInt8.ofNat n).toNat = n := by simp; omega
    have hc := cell_of_heap (i := 0) (heap_alloc_at w (.cells #[.int .u8 (n : Int)] T)) rfl
    simp [Addr.add, e])
  simpa using this

set_option maxRecDepth 100000 in
set_option maxHeartbeats 1600000 in
theorem keysHexed (n : Nat) (hn : n < 256) (w : World) : Calls Tryd.prog 43 #[.int .u8 (n : Int)] w fun e w' => e = .returned (strOf [60, 120, hexd (n / 16), hexd (n % 16), 62]) ∧ Frm [] w w' := by
  have h1 := run_hexS (d := n / 16) (by omega)
  have h2 := run_hexS (d := n % 16) (by omega)
  have hc : (convert 22 9 (.slice (some ⟨w.heap.size, 0, none⟩) 2 2)).run Tryd.prog (w.alloc (.cells #[.int .u8 ((hexd (n / 16)).toNat : Int), .int .u8 ((hexd (n % 16)).toNat : Int)] 5)).drew = .ok (.string ⟨#[hexd (n / 16), hexd (n % 16)]⟩) (w.alloc (.cells #[.int .u8 ((hexd (n / 16)).toNat : Int), .int .u8 ((hexd (n % 16)).toNat : Int)] 5)).drew :=
    convert_list [hexd (n / 16), hexd (n % 16)] w.drew 5 #[.int .u8 ((hexd (n / 16)).toNat : Int), .int .u8 ((hexd (n % 16)).toNat : Int)] 2 rfl rfl
  simp only [Int.natCast_ediv, Int.natCast_emod, Int.cast_ofNat_Int] at h1 h2
  have hand : bits .and .u8 (n : Int) 15 = (n : Int) % 16 := by
    have := u8_and_nat n 15 hn (by omega)
    rw [show n &&& 15 = n % 16 from Nat.and_two_pow_sub_one_eq_mod n 4] at this
    simpa using this
  generalize hexd (n / 16) = x at *
  generalize hexd (n % 16) = y at *
  go_enter Tryd.func43, Tryd.ntmps43
  go_wp2_with fail
  refine wp_region_tail 6 mixed (by kernel_rfl) ?_
  simp only [List.take_succ_cons, List.take_zero, List.drop_succ_cons, List.drop_zero]
  repeat still_step
  refine wpStill_nil ?_
  go_wp2_with fail
  go_ret
  refine ⟨?_, ((Frm.refl _ _).drew).alloc _⟩
  simp [strOf]
  rfl

set_option maxRecDepth 100000 in
set_option maxHeartbeats 1600000 in
theorem keysName (n : Nat) (hn : n < 256) (w : World) : Calls Tryd.prog 17 #[.int .u8 (n : Int)] w fun e w' => e = .returned (strOf (nameL n)) ∧ Frm [] w w' := by
  have h1 := convert_one n hn w 5
  have h2 : n < 32 → (convert 22 9 (.slice (some ⟨w.heap.size, 0, none⟩) 1 1)).run Tryd.prog (w.alloc (.cells #[.int .u8 ((n : Int) + 64)] 5)) = .ok (.string ⟨#[UInt8.ofNat (n + 64)]⟩) (w.alloc (.cells #[.int .u8 ((n : Int) + 64)] 5)) := fun h => by
    have := convert_one (n + 64) (by omega) w 5
    simpa using this
  go_enter Tryd.func17, Tryd.ntmps17
  go_wp2_with fail
  iterate 7
    · rename_i hc
      have hc' := eq_of_beq hc
      go_ret
      refine ⟨?_, Frm.refl _ _⟩
      have : n = 27 ∨ n = 13 ∨ n = 10 ∨ n = 9 ∨ n = 8 ∨ n = 127 ∨ n = 60 := by omega
      rcases this with rfl | rfl | rfl | rfl | rfl | rfl | rfl <;> first | rfl | omega
  · simp only [beq_eq_false_iff_ne, ne_eq] at *
    rw [h2 (by omega)]
    simp only [Result.andThen]
    rw [Oper.upon_value]
    go_wp2_with fail
    go_ret
    refine ⟨?_, (Frm.refl _ _).alloc _⟩
    rw [nameL_ctl (by omega) (by omega)]
    show Ending.returned (.string (⟨#[60, 67, 45]⟩ ++ ⟨#[UInt8.ofNat n + 64]⟩ ++ ⟨#[62]⟩)) = _
    simp [strOf, UInt8.ofNat_add]
    rfl
  · simp only [beq_eq_false_iff_ne, ne_eq] at *
    refine (keysHexed n hn w).mono ?_
    rintro e w' ⟨rfl, hf⟩
    go_wp2_with fail
    go_ret
    refine ⟨?_, hf⟩
    rw [nameL_hex (by omega) (by omega)]
    rfl
  · simp only [beq_eq_false_iff_ne, ne_eq] at *
    go_ret
    refine ⟨?_, (Frm.refl _ _).alloc _⟩
    rw [nameL_one (by omega) (by omega) (by omega)]
    rfl

theorem run_hexCut {d : Nat} (hd : d < 16) (W : World) : (Instr.slice 9 (.string ⟨#[48, 49, 50, 51, 52, 53, 54, 55, 56, 57, 97, 98, 99, 100, 101, 102]⟩) (some (.int .u8 (d : Int))) (some (.int .u8 ((d : Int) + 1))) none).run Tryd.prog W = .ok (.string ⟨#[hexd d]⟩) W := by
  rw [run_slice_string_if W 9 _ _ _ _ _ Tryd.underlying9]
  have : d = 0 ∨ d = 1 ∨ d = 2 ∨ d = 3 ∨ d = 4 ∨ d = 5 ∨ d = 6 ∨ d = 7 ∨ d = 8 ∨ d = 9 ∨ d = 10 ∨ d = 11 ∨ d = 12 ∨ d = 13 ∨ d = 14 ∨ d = 15 := by omega
  rcases this with rfl | rfl | rfl | rfl | rfl | rfl | rfl | rfl | rfl | rfl | rfl | rfl | rfl | rfl | rfl | rfl <;> rfl

set_option maxRecDepth 100000 in
set_option maxHeartbeats 1600000 in
theorem refName (n : Nat) (hn : n < 256) (w : World) : Calls Tryd.prog 18 #[.int .u8 (n : Int)] w fun e w' => e = .returned (strOf (nameL n)) ∧ Frm [] w w' := by
  have h1 := convert_one n hn w 5
  have h2 : n < 32 → (convert 22 9 (.slice (some ⟨w.heap.size, 0, none⟩) 1 1)).run Tryd.prog (w.alloc (.cells #[.int .u8 ((n : Int) + 64)] 5)) = .ok (.string ⟨#[UInt8.ofNat (n + 64)]⟩) (w.alloc (.cells #[.int .u8 ((n : Int) + 64)] 5)) := fun h => by
    have := convert_one (n + 64) (by omega) w 5
    simpa using this
  go_enter Tryd.func18, Tryd.ntmps18
  go_wp2_with fail
  iterate 7
    · rename_i hc
      have hc' := eq_of_beq hc
      go_ret
      refine ⟨?_, Frm.refl _ _⟩
      have : n = 27 ∨ n = 13 ∨ n = 10 ∨ n = 9 ∨ n = 8 ∨ n = 127 ∨ n = 60 := by omega
      rcases this with rfl | rfl | rfl | rfl | rfl | rfl | rfl <;> first | rfl | omega
  · simp only [beq_eq_false_iff_ne, ne_eq] at *
    rw [h2 (by omega)]
    simp only [Result.andThen]
    rw [Oper.upon_value]
    go_wp2_with fail
    go_ret
    refine ⟨?_, (Frm.refl _ _).alloc _⟩
    rw [nameL_ctl (by omega) (by omega)]
    show Ending.returned (.string (⟨#[60, 67, 45]⟩ ++ ⟨#[UInt8.ofNat n + 64]⟩ ++ ⟨#[62]⟩)) = _
    simp [strOf, UInt8.ofNat_add]
    rfl
  · simp only [beq_eq_false_iff_ne, ne_eq] at *
    have h1 := run_hexCut (d := n / 16) (by omega)
    have h2 := run_hexCut (d := n % 16) (by omega)
    simp only [Int.natCast_ediv, Int.natCast_emod, Int.cast_ofNat_Int] at h1 h2
    have hand : bits .and .u8 (n : Int) 15 = (n : Int) % 16 := by
      have := u8_and_nat n 15 hn (by omega)
      rw [show n &&& 15 = n % 16 from Nat.and_two_pow_sub_one_eq_mod n 4] at this
      simpa using this
    go_quiet (fail)
    go_wp2_with fail
    go_ret
    refine ⟨?_, (Frm.refl _ _).drewN _⟩
    rw [nameL_hex (by omega) (by omega)]
    rfl
  · simp only [beq_eq_false_iff_ne, ne_eq] at *
    go_ret
    refine ⟨?_, (Frm.refl _ _).alloc _⟩
    rw [nameL_one (by omega) (by omega) (by omega)]
    rfl

end Go.Proofs.YtaobohlcpgnebaaDoor
