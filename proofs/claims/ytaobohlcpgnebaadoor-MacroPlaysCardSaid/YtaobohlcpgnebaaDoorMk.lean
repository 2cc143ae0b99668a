/-
  macro.Keys AND macro.Reg: what strings.Join and strings.Split make of a register. Conditions: the library's MaxLen is a number; texts below 2^31 bytes.
-/
import Derived.Test.YtaobohlcpgnebaaDoorMn
import Derived.Test.YtaobohlcpgnebaaDoorTx
import Derived.Test.YtaobohlcpgnebaaDoorShm
import Derived.Lib.SplitLaws
import Derived.Test.YtaobohlcpgnebaaDoorShp
namespace Go.Proofs.YtaobohlcpgnebaaDoor
open Go.RowKit
open Go.Proofs (Tryd.prog)

/-- The slice v of strings reads as xs. -/
def RdS (w : World) (v : Value) (xs : List ByteArray) : Prop :=
  (∃ a c, v = .slice a 0 c ∧ xs = []) ∨ ∃ b o c, v = .slice (some ⟨b, o, none⟩) xs.length c ∧ xs.length ≤ c ∧ b < w.heap.size ∧ ∀ (j : Nat) s, xs[j]? = some s → w.cell? ⟨b, o + j, none⟩ = some (.string s)
theorem RdS.frm {w w' : World} {v : Value} {xs : List ByteArray} (h : RdS w v xs) (hf : Frm [] w w') : RdS w' v xs := by
  rcases h with h | ⟨b, o, c, h1, h2, h3, h4⟩
  · exact .inl h
  · exact .inr ⟨b, o, c, h1, h2, Nat.lt_of_lt_of_le h3 hf.size, fun j s hs => hf.cell (h4 j s hs) (by simp)⟩
/-- The lines of a register joined. -/
def joined (xs : List ByteArray) : List UInt8 := Lib.join (xs.map (·.data.toList)) [10]
theorem strJoin (w : World) (v : Value) (xs : List ByteArray) (h : RdS w v xs) (hN : xs.length ≤ 140737488355328) (hl : (joined xs).length ≤ 140737488355328) :
    Calls Tryd.prog 47 #[v, .string ⟨#[10]⟩] w fun e w' => e = .returned (.string ⟨(joined xs).toArray⟩) ∧ Frm [] w w' := by
  rcases h with ⟨a, c, rfl, rfl⟩ | ⟨b, o, c, rfl, hc, hb, hcell⟩
  · refine (Tryd.strings_Join_none a c ⟨#[10]⟩ w).mono ?_
    rintro e w' ⟨rfl, rfl⟩
    exact ⟨rfl, Frm.refl _ _⟩
  · refine (Tryd.strings_Join b o c xs ⟨#[10]⟩ w hcell hb hN hc hl).mono ?_
    rintro e w' ⟨rfl, hbl⟩
    exact ⟨rfl, Frm.ofBelow hbl⟩

/-- A register's keys. -/
def keysOf (kind : Int) (xs : List ByteArray) : List UInt8 := joined xs ++ if kind = 1 then [10] else []

set_option maxRecDepth 100000 in
set_option maxHeartbeats 1600000 in
theorem macKeys (w : World) (kind : Int) (v : Value) (xs : List ByteArray) (h : RdS w v xs) (hN : xs.length ≤ 140737488355328) (hl : (joined xs).length ≤ 140737488355328) :
    Calls Tryd.prog 28 #[.agg #[.int .i64 kind, v]] w fun e w' => (∃ u, e = .returned u ∧ RdB w' u (keysOf kind xs)) ∧ Frm [] w w' := by
  obtain ⟨va, vn, vc, rfl⟩ : ∃ a n c, v = .slice a n c := by
    rcases h with ⟨a, c, rfl, _⟩ | ⟨b, o, c, rfl, _⟩
    · exact ⟨_, _, _, rfl⟩
    · exact ⟨_, _, _, rfl⟩
  have hfa : Frm [] w (w.alloc (.cells #[.int .i64 kind, .slice va vn vc] 42)) := (Frm.refl _ _).alloc _
  have hj := strJoin _ _ xs (h.frm hfa) hN hl
  have hb := heap_alloc_at w (.cells #[.int .i64 kind, .slice va vn vc] 42)
  have hcv : ∀ (L : List UInt8) W, (convert 9 22 (.string ⟨L.toArray⟩)).run Tryd.prog W = .ok (.slice (some ⟨W.heap.size, 0, none⟩) L.length (grownCap W L.length 0 5)) (Lib.bytesWorld W 5 ⟨L.toArray⟩) := fun L W =>
    Lib.run_convert_string_bytes W 9 22 5 ⟨L.toArray⟩ Tryd.underlying9 Tryd.underlying22 Tryd.underlying5
  have hadd := add_str (joined xs) [10] (by simp; omega)
  have HFA := Lib.hid hfa
  have HB := Lib.hid hb
  have HRD : ∀ (L : List UInt8) W c, RdB (Lib.bytesWorld W 5 ⟨L.toArray⟩) (.slice (some ⟨W.heap.size, 0, none⟩) L.length c) L := fun L W c => rdB_bytesWorld W ⟨L.toArray⟩ c
  clear hfa hb h
  generalize hJ : joined xs = J at *
  have HJ := Lib.hid hJ
  clear hJ
  go_enter Tryd.func28, Tryd.ntmps28
  go_wp2_with fail
  refine hj.mono ?_
  rintro e w1 ⟨rfl, hf1⟩
  have hb1 := hf1.heap HB.out (by simp)
  have hc0 := cell_of_heap (i := 0) hb1 rfl
  have HF1 := Lib.hid (HFA.out.trans hf1 (by simp))
  clear hj hf1 hb1
  by_cases hk : kind = 1
  · have hd : (kind == 1) = true := beq_iff_eq.2 hk
    have hcv1 := hcv (J ++ [10])
    have hr1 := HRD (J ++ [10])
    clear hcv HRD
    have hlen : (J ++ [(10 : UInt8)]).length = J.length + 1 := by simp
    generalize hJ2 : J ++ [(10 : UInt8)] = J2 at *
    have HR1 := Lib.hid hr1
    have HK : keysOf kind xs = J2 := by rw [keysOf, HJ.out, if_pos hk, hJ2]
    have HKK := Lib.hid HK
    clear hr1 hJ2 HK hlen
    go_wp2_with fail
    go_ret
    refine ⟨⟨_, rfl, ?_⟩, HF1.out.trans (frm_bytesWorld w1 5 ⟨J2.toArray⟩) (by simp)⟩
    rw [HKK.out]
    exact HR1.out w1 _
  · have hd : (kind == 1) = false := beq_eq_false_iff_ne.2 hk
    have hcv1 := hcv J
    have HR1 := Lib.hid (HRD J)
    have HKK := Lib.hid (show keysOf kind xs = J by rw [keysOf, HJ.out, if_neg hk, List.append_nil])
    clear hcv HRD
    go_wp2_with fail
    go_ret
    refine ⟨⟨_, rfl, ?_⟩, HF1.out.trans (frm_bytesWorld w1 5 ⟨J.toArray⟩) (by simp)⟩
    rw [HKK.out]
    exact HR1.out w1 _

/-- The lines that keys are cut into. -/
def linesOf (K : List UInt8) : List ByteArray := Lib.splitB ⟨#[10]⟩ 0 (Lib.countB ⟨K.toArray⟩ ⟨#[10]⟩) ⟨K.toArray⟩

theorem linesOf_length (K : List UInt8) : (linesOf K).length = Lib.countB ⟨K.toArray⟩ ⟨#[10]⟩ + 1 := Lib.splitB_all ⟨#[10]⟩ (by decide) 0 _ _ rfl

set_option maxRecDepth 100000 in
set_option maxHeartbeats 1600000 in
theorem macReg (w : World) (v : Value) (K : List UInt8) (h : RdB w v K) (hm : MaxLenIs w) (hl : K.length ≤ 1000000) :
    Calls Tryd.prog 31 #[v] w fun e w' => (∃ u, e = .returned (.agg #[.int .i64 0, u]) ∧ RdS w' u (linesOf K)) ∧ Frm [] w w' := by
  obtain ⟨a, c, rfl⟩ := h.form
  have hfa : Frm [] w (w.alloc (.cells #[.int .i64 0, .slice none 0 0] 42)) := (Frm.refl _ _).alloc _
  have hcv := (h.frm hfa).convert
  obtain ⟨m, hm2⟩ := hm.frm hfa
  have hsp := Tryd.strings_Split ⟨K.toArray⟩ ⟨#[10]⟩ m _ (by show K.length < 4294967281; omega) hm2 (by decide)
  have HFA := Lib.hid hfa
  clear h hm hfa hm2
  go_enter Tryd.func31, Tryd.ntmps31
  go_wp2_with fail
  refine hsp.mono ?_
  rintro e w1 ⟨rfl, rfl⟩
  rw [← linesOf_length]
  have hlines : Lib.splitB ⟨#[10]⟩ 0 (Lib.countB ⟨K.toArray⟩ ⟨#[10]⟩) ⟨K.toArray⟩ = linesOf K := rfl
  rw [hlines]
  clear hsp hlines hcv
  generalize hX : linesOf K = xs at *
  have HX := Lib.hid hX
  clear hX
  go_wp2_with fail
  refine bodyPost_ret (v := .agg #[.int .i64 0, .slice (some ⟨w.heap.size + 1, 0, none⟩) xs.length xs.length]) ?hres rfl ?hend
  case hres =>
    simp [results, go_sem]
  case hend =>
    rw [HX.out]
    refine ⟨⟨_, rfl, .inr ⟨w.heap.size + 1, 0, xs.length, rfl, Nat.le_refl _, by simp, fun j s hs => ?_⟩⟩, ((Frm.refl _ _).alloc _).alloc _⟩
    have hb := heap_alloc_at (w.alloc (.cells #[.int .i64 0, .slice (some ⟨w.heap.size + 1, 0, none⟩) xs.length xs.length] 42)) (.cells (xs.map Value.string).toArray 9)
    rw [Nat.zero_add]
    have hsz : (w.alloc (.cells #[.int .i64 0, .slice (some ⟨w.heap.size + 1, 0, none⟩) xs.length xs.length] 42)).heap.size = w.heap.size + 1 := by simp
    rw [hsz] at hb
    exact cell_of_heap hb (by simp [hs])

end Go.Proofs.YtaobohlcpgnebaaDoor
