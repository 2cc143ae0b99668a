/-
  CONTRACTS OF foolscapref23.Text AND keys.Text: both tell textL of bytes. Conditions: at most 2^40 bytes.
-/
import Derived.Test.YtaobohlcpgnebaaDoorBd
namespace Go.Proofs.YtaobohlcpgnebaaDoor
open Go.RowKit
open Go.Proofs (Tryd.prog)

theorem add_str (A B : List UInt8) (h : A.length + B.length ≤ 9223372036854775807) (W : World) : (Op.stringOp .add ⟨A.toArray⟩ ⟨B.toArray⟩).run Tryd.prog W = .ok (.string ⟨(A ++ B).toArray⟩) W := by
  have e : (⟨A.toArray⟩ : ByteArray) ++ ⟨B.toArray⟩ = ⟨(A ++ B).toArray⟩ := by
    ext1
    simp
  have h1 : (⟨A.toArray⟩ : ByteArray).size = A.length := rfl
  have h2 : (⟨B.toArray⟩ : ByteArray).size = B.length := rfl
  simp [Op.stringOp, e]
  rw [h1, h2]
  omega
theorem textL_snoc (l : List UInt8) (k : Nat) (b : UInt8) (h : l[k]? = some b) : textL (l.take (k + 1)) = textL (l.take k) ++ nameL b.toNat := by
  obtain ⟨hk, he⟩ := List.getElem?_eq_some_iff.1 h
  rw [List.take_succ_eq_append_getElem hk, textL_append, he]
  simp [textL]

set_option maxRecDepth 100000 in
set_option maxHeartbeats 3200000 in
theorem refText (v : Value) (l : List UInt8) (w : World) (hl : l.length ≤ 1099511627776) (hv : RdB w v l) : Calls Tryd.prog 15 #[v] w fun e w' => e = .returned (strOf (textL l)) ∧ Frm [] w w' := by
  obtain ⟨a, c, rfl⟩ := hv.form
  go_enter Tryd.func15, Tryd.ntmps15
  go_wp2_with fail
  go_loopw [3, 4] (fun s i wr => ∃ k : Nat, k ≤ l.length ∧ s = .string ⟨(textL (l.take k)).toArray⟩ ∧ i = .int .i64 k ∧ Frm [] w wr) (fun _ i _ => l.length - (intOf i).toNat)
  case atStart => exact ⟨0, by omega, rfl, rfl, Frm.refl _ _⟩
  case round =>
    obtain ⟨k, hk, rfl, rfl, hf⟩ := hrel
    by_cases hlt : k < l.length
    · have hrd := hv.frm hf
      rcases hrd with ⟨h1, h2, _⟩ | ⟨ad, cc, hva, hcell⟩
      · omega
      obtain ⟨rfl, rfl⟩ : a = some ad ∧ c = cc := by simpa using hva
      have hget : l[k]? = some l[k] := by simp [hlt]
      have hsn := textL_snoc l k l[k] hget
      have hc := hcell k (encB l[k]) (by simp [hlt])
      have hll := textL_length (l.take k)
      have hln := (name_pos l[k].toNat l[k].toNat_lt).2
      rw [List.length_take] at hll
      have hadd := add_str (textL (l.take k)) (nameL l[k].toNat) (by omega)
      rw [← hsn] at hadd
      have hnm : ∀ w, Calls Tryd.prog 18 #[.int .u8 (l[k].toNat : Int)] w fun e w' => e = .returned (.string ⟨(nameL l[k].toNat).toArray⟩) ∧ Frm [] w w' := fun w => refName _ l[k].toNat_lt w
      simp only [encB] at hc
      generalize l[k].toNat = n at *
      have HF := Lib.hid hf
      clear hf hcell hsn hget
      go_wp2_with fail
      refine (hnm _).mono ?_
      rintro e w1 ⟨rfl, hf1⟩
      have HF1 := Lib.hid (HF.out.trans hf1 (by simp))
      clear hf1 hc hnm
      go_wp2_with fail
      go_roundw
      case rel => exact ⟨k + 1, by omega, rfl, by go_num, HF1.out⟩
      case measure => simp [intOf]; omega
    · obtain rfl : k = l.length := by omega
      have HF := Lib.hid hf
      clear hf
      go_wp2_with fail
      go_ret
      exact ⟨by rw [List.take_length]; rfl, HF.out⟩

theorem IsBuilder_below {T e : TypeId} {B b : Nat} {p : Value} {bs : List Value} {w : World} (h : Lib.BuilderAt T e B b p bs w) (hp : p = .pointer (some ⟨b, 0, none⟩)) : Lib.IsBuilder T e B b bs w := by
  subst hp
  exact .inr h

set_option maxRecDepth 100000 in
set_option maxHeartbeats 3200000 in
theorem keysText (v : Value) (l : List UInt8) (w : World) (hl : l.length ≤ 1099511627776) (hv : RdB w v l) : Calls Tryd.prog 13 #[v] w fun e w' => e = .returned (strOf (textL l)) ∧ Frm [] w w' := by
  obtain ⟨a, c, rfl⟩ := hv.form
  have hb0 : Lib.IsBuilder 62 5 w.heap.size w.heap.size (Lib.byteCells (textL (l.take 0))) (w.alloc (.cells #[.pointer none, .slice none 0 0] 62)) :=
    .inl ⟨Nat.le_refl _, .slice none 0 0, heap_alloc_at _ _, ⟨rfl, .inl ⟨rfl, rfl⟩⟩, by simp [Value.ownBlock]⟩
  have HB0 := Lib.hid hb0
  clear hb0
  go_enter Tryd.func13, Tryd.ntmps13
  go_wp2_with fail
  go_loopw [5, 8] (fun _ i wr => ∃ k : Nat, k ≤ l.length ∧ i = .int .i64 k ∧ Lib.IsBuilder 62 5 w.heap.size w.heap.size (Lib.byteCells (textL (l.take k))) wr ∧ Frm [] w wr ∧ w.heap.size < wr.heap.size) (fun _ i _ => l.length - (intOf i).toNat)
  case atStart => exact ⟨0, by omega, rfl, HB0.out, (Frm.refl _ _).alloc _, by simp⟩
  case round =>
    obtain ⟨k, hk, rfl, hb, hf, hsz⟩ := hrel
    by_cases hlt : k < l.length
    · have hrd := hv.frm hf
      rcases hrd with ⟨h1, h2, _⟩ | ⟨ad, cc, hva, hcell⟩
      · omega
      obtain ⟨rfl, rfl⟩ : a = some ad ∧ c = cc := by simpa using hva
      have hsn := textL_snoc l k l[k] (by simp [hlt])
      have hc := hcell k (encB l[k]) (by simp [hlt])
      have hll := textL_length (l.take k)
      have hln := (name_pos l[k].toNat l[k].toNat_lt).2
      rw [List.length_take] at hll
      have hnm : ∀ w, Calls Tryd.prog 17 #[.int .u8 (l[k].toNat : Int)] w fun e w' => e = .returned (.string ⟨(nameL l[k].toNat).toArray⟩) ∧ Frm [] w w' := fun w => keysName _ l[k].toNat_lt w
      simp only [encB] at hc
      generalize l[k].toNat = n at *
      have HF := Lib.hid hf
      have HB := Lib.hid hb
      have HSN := Lib.hid hsn
      clear hf hcell hsn hb
      go_wp2_with fail
      refine (hnm _).mono ?_
      rintro e w1 ⟨rfl, hf1⟩
      have hwr := bdWrite w.heap.size w.heap.size _ ⟨(nameL n).toArray⟩ w1 (builder_frm HB.out hf1) (by
        have : (⟨(nameL n).toArray⟩ : ByteArray).size = (nameL n).length := rfl
        rw [Lib.byteCells_length, this]
        omega) (by have := hf1.size; omega)
      have HF1 := Lib.hid (HF.out.trans hf1 (by simp))
      have hs1 := hf1.size
      clear hf1 hc hnm
      go_wp2_with fail
      refine hwr.mono ?_
      rintro e w2 ⟨rfl, hb2, hl2⟩
      have hf2 : Frm [] w w2 := ⟨hl2.os.trans HF1.out.os, hl2.tape.trans HF1.out.tape, hl2.output.trans HF1.out.output, Nat.le_trans HF1.out.size hl2.size, fun x hx _ => (hl2.block x hx).trans (HF1.out.same x hx (by simp))⟩
      have hs2 := hl2.size
      have e2 : Lib.byteCells (textL (l.take k)) ++ Lib.strCells ⟨(nameL n).toArray⟩ = Lib.byteCells (textL (l.take (k + 1))) := by
        rw [HSN.out]
        simp [Lib.byteCells, Lib.strCells]
      rw [e2] at hb2
      have HB2 := Lib.hid (IsBuilder_below hb2 rfl)
      have HF2 := Lib.hid hf2
      clear hwr hb2 hl2 hf2 e2
      go_wp2_with fail
      go_roundw
      case rel => exact ⟨k + 1, by omega, by go_num, HB2.out, HF2.out, by omega⟩
      case measure => simp [intOf]; omega
    · obtain rfl : k = l.length := by omega
      rw [List.take_length] at hb
      have hst := Tryd.Builder_String_any w.heap.size w.heap.size (textL l) wr hb (by omega)
      have HF := Lib.hid hf
      clear hf hb
      go_wp2_with fail
      refine hst.mono ?_
      rintro e w2 ⟨rfl, hl2⟩
      have HF2 : Frm [] w w2 := ⟨hl2.os.trans HF.out.os, hl2.tape.trans HF.out.tape, hl2.output.trans HF.out.output, Nat.le_trans HF.out.size hl2.size, fun x hx _ => (hl2.block x hx).trans (HF.out.same x hx (by simp))⟩
      have HF3 := Lib.hid HF2
      clear HF2 hl2 hst
      go_wp2_with fail
      go_ret
      exact ⟨rfl, HF3.out⟩

end Go.Proofs.YtaobohlcpgnebaaDoor
