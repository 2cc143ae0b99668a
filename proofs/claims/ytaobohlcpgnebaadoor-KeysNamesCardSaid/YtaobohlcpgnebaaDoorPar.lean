/-
  CONTRACTS OF keys.Parse AND foolscapref23.Parse: both read a text as readB says. Conditions: texts of at most 2^40 bytes.
-/
import Derived.Test.YtaobohlcpgnebaaDoorKg
namespace Go.Proofs.YtaobohlcpgnebaaDoor
open Go.RowKit
open Go.Proofs (Tryd.prog)

/-- How a reading ends. -/
def ReadEnd (w : World) (s : ByteArray) (e : Ending) (w' : World) : Prop :=
  ∃ (v : Value) (ok : Bool) (l : List UInt8), e = .returned (.tuple #[v, .bool ok]) ∧ readB s [] = (if ok then some l else none) ∧ (ok = false → l = []) ∧ l.length ≤ s.size ∧ w'.ownsRow w.heap.size 5 1 v l.length (l.map encB) ∧ Frm [] w w'

set_option maxRecDepth 100000 in
set_option maxHeartbeats 3200000 in
theorem keysParse (s : ByteArray) (hs : s.size ≤ 1099511627776) (w : World) : Calls Tryd.prog 14 #[.string s] w (ReadEnd w s) := by
  obtain ⟨i0, hi, hz0, hz1, hz2⟩ := info_parts (show (Tryd.prog.info? 5).map (fun i => (i.zero, i.size, i.bytes)) = some (some (.int .u8 0), 1, 1) by kernel_rfl)
  go_enter Tryd.func14, Tryd.ntmps14
  go_wp2_with fail
  go_loopw [0, 4] (fun c o wr => ∃ (cs : ByteArray) (out : List UInt8), c = .string cs ∧ readB cs out = readB s [] ∧ cs.size + out.length ≤ s.size ∧ wr.ownsRow w.heap.size 5 1 o out.length (out.map encB) ∧ Frm [] w wr) (fun c _ _ => szOf c)
  case atStart => exact ⟨s, [], rfl, rfl, by simp, ⟨rfl, .inl ⟨rfl, rfl⟩⟩, Frm.refl _ _⟩
  case round =>
    obtain ⟨cs, out, rfl, hrd, hsz, hown, hfr⟩ := hrel
    by_cases hpos : 0 < cs.size
    · have hne := str_ne hpos
      have hfst := fun W => keysFirst cs hne W
      have htest : (cs.toList == ([] : List UInt8)) = false := by rw [Lib.toList_data, beq_eq_false_iff_ne]; exact hne
      have HRD := Lib.hid hrd
      have HOWN := Lib.hid hown
      have HFR := Lib.hid hfr
      have HNE := Lib.hid hne
      clear hrd hown hfr hne
      go_wp2_with fail
      refine (hfst wr).mono ?_
      rintro e w1 ⟨c, ok, rfl, hc, hfn, hf1⟩
      cases ok with
      | false =>
        have HST := Lib.hid (readB_stop HNE.out hfn out)
        have HFR1 := Lib.hid (HFR.out.trans hf1 (by simp))
        clear hfn hf1 hfst
        go_wp2_with fail
        go_ret2
        exact ⟨.slice none 0 0, false, [], rfl, HRD.out ▸ HST.out, fun _ => rfl, by simp, ⟨rfl, .inl ⟨rfl, rfl⟩⟩, HFR1.out⟩
      | true =>
        obtain ⟨hstep, hle⟩ := readB_step HNE.out hfn out
        have hnp := (name_pos c hc).1
        have hnm : ∀ w, Calls Tryd.prog 17 #[.int .u8 (c : Int)] w fun e w' => e = .returned (.string ⟨(nameL c).toArray⟩) ∧ Frm [] w w' := fun w => keysName c hc w
        have hown1 := ownsRow_frm HOWN.out hf1 (by simp)
        have hF1 := HFR.out.trans hf1 (by simp)
        have hF1s := hF1.size
        have HF1 := Lib.hid hF1
        have HSTEP := Lib.hid hstep
        have hln : (⟨(nameL c).toArray⟩ : ByteArray).size = (nameL c).length := rfl
        have hle' : ((nameL c).length : Int) ≤ (cs.size : Int) := by omega
        have hle0 : (0 : Int) ≤ ((nameL c).length : Int) := by omega
        clear hfst hfn hf1 hF1 hstep
        go_wp2_with (at_builtin; refine wpList_append_row rfl (.tmp 16) (.tmp 18) 22 rfl w.heap.size 5 i0 (.int .u8 0) 1 1 Tryd.underlying22 hi hz0 hz1 hz2 rfl (by decide) _ out.length (out.map encB) rfl (hown1.alloc _) _ 1 [.int .u8 (c : Int)] rfl (.inr ⟨_, _, rfl, cell_one_new _ _ _⟩) rfl (by simp [Value.oneCell']) (by unfold maxLen; omega) (by omega) (by simp; omega) ?_)
        intro v2 w2 hown2 hf2 _ _
        have hF2 := (HF1.out.alloc (.cells #[.int .u8 (c : Int)] 5)).trans hf2 (fun x hx => .inr (own_ge hown1 x hx))
        have hF2s := hF2.size
        have HF2 := Lib.hid hF2
        have henc : out.map encB ++ [.int .u8 (c : Int)] = (out ++ [UInt8.ofNat c]).map encB := by
          have e : (UInt8.ofNat c).toNat = c := by simp; omega
          simp [encB, e]
        rw [henc, show out.length + 1 = (out ++ [UInt8.ofNat c]).length by simp] at hown2
        have HOWN2 := Lib.hid hown2
        clear hown1 hf2 hF2 hown2 henc
        go_wp2_with fail
        refine (hnm w2).mono ?_
        rintro e w3 ⟨rfl, hf3⟩
        have hF3 := HF2.out.trans hf3 (by simp)
        have hown3 := ownsRow_frm HOWN2.out hf3 (by simp)
        have HF3 := Lib.hid hF3
        have HOWN3 := Lib.hid hown3
        clear hf3 hF3 hown3 hnm
        go_wp2_with fail
        go_roundw
        case rel =>
          refine ⟨cs.extract (nameL c).length cs.size, out ++ [UInt8.ofNat c], rfl, (HSTEP.out).symm.trans HRD.out, ?_, HOWN3.out, HF3.out⟩
          rw [ByteArray.size_extract]
          simp only [List.length_append, List.length_singleton]
          omega
        case measure =>
          simp [szOf]
          omega
    · obtain rfl := str_eq_empty (s := cs) (by omega)
      have HRD := Lib.hid hrd
      have HOWN := Lib.hid hown
      have HFR := Lib.hid hfr
      clear hrd hown hfr
      go_wp2_with fail
      go_ret2
      exact ⟨_, true, out, rfl, HRD.out ▸ readB_nil out, fun h => (by cases h), Nat.le_trans (Nat.le_add_left _ _) hsz, HOWN.out, HFR.out⟩

theorem take_prefix (l : List UInt8) (s : ByteArray) (h : l.length ≤ s.size) : ((s.extract 0 l.length).toList == l) = l.isPrefixOf s.data.toList := by
  rw [Lib.toList_data, Lib.extract_eq]
  simp only [List.drop_zero, Nat.sub_zero]
  rw [Bool.eq_iff_iff, beq_iff_eq, List.isPrefixOf_iff_prefix, List.prefix_iff_eq_take]
  exact eq_comm
theorem long_prefix (l : List UInt8) (s : ByteArray) (h : ¬ l.length ≤ s.size) : l.isPrefixOf s.data.toList = false := by
  cases hp : l.isPrefixOf s.data.toList with
  | false => rfl
  | true =>
    have := (List.isPrefixOf_iff_prefix.1 hp).length_le
    rw [str_size] at this
    exact absurd this h

set_option maxRecDepth 100000 in
set_option maxHeartbeats 6400000 in
theorem refParse (s : ByteArray) (hs : s.size ≤ 1099511627776) (w : World) : Calls Tryd.prog 16 #[.string s] w (ReadEnd w s) := by
  obtain ⟨i0, hi, hz0, hz1, hz2⟩ := info_parts (show (Tryd.prog.info? 5).map (fun i => (i.zero, i.size, i.bytes)) = some (some (.int .u8 0), 1, 1) by kernel_rfl)
  go_enter Tryd.func16, Tryd.ntmps16
  go_wp2_with fail
  go_loopw [0, 4] (fun c o wr => ∃ (cs : ByteArray) (out : List UInt8), c = .string cs ∧ readB cs out = readB s [] ∧ cs.size + out.length ≤ s.size ∧ wr.ownsRow w.heap.size 5 1 o out.length (out.map encB) ∧ Frm [] w wr) (fun c _ _ => szOf c)
  case atStart => exact ⟨s, [], rfl, rfl, by simp, ⟨rfl, .inl ⟨rfl, rfl⟩⟩, Frm.refl _ _⟩
  case round =>
    obtain ⟨cs, out, rfl, hrd, hsz, hown, hfr⟩ := hrel
    by_cases hpos : 0 < cs.size
    · have hne := str_ne hpos
      have htest : (cs.toList == ([] : List UInt8)) = false := by rw [Lib.toList_data, beq_eq_false_iff_ne]; exact hne
      have HRD := Lib.hid hrd
      have HOWN := Lib.hid hown
      have HFR := Lib.hid hfr
      have HNE := Lib.hid hne
      clear hrd hown hfr hne
      go_wp2_with fail
      go_loopw [0, 4, 5, 6, 7] (fun c o f i _ wr2 => ∃ (k : Nat) (fl : Bool) (cs2 : ByteArray) (out2 : List UInt8), k ≤ 256 ∧ i = .int .i64 k ∧ f = .bool fl ∧ c = .string cs2 ∧ cs2.size + out2.length ≤ s.size ∧
        wr2.ownsRow w.heap.size 5 1 o out2.length (out2.map encB) ∧ Frm [] w wr2 ∧ (fl = false → cs2 = cs ∧ out2 = out ∧ ∀ d, d < k → (nameL d).isPrefixOf cs.data.toList = false) ∧ (fl = true → readB cs2 out2 = readB cs out ∧ cs2.size < cs.size)) (fun _ _ _ i _ _ => 256 - (intOf i).toNat)
      case atStart => exact ⟨0, false, cs, out, by omega, rfl, rfl, rfl, hsz, HOWN.out, HFR.out, fun _ => ⟨rfl, rfl, fun d hd => by omega⟩, fun h => by cases h⟩
      case round =>
        obtain ⟨k, fl, cs2, out2, hk, rfl, rfl, rfl, hsz2, hown2, hfr2, hno, hyes⟩ := hrel
        cases fl with
        | true =>
          obtain ⟨hy1, hy2⟩ := hyes rfl
          have HY := Lib.hid hy1
          have HOWN2 := Lib.hid hown2
          have HFR2 := Lib.hid hfr2
          clear hyes hno hy1 hown2 hfr2
          by_cases hlt : k < 256
          all_goals go_wp2_with fail
          all_goals go_roundw
          all_goals first
            | exact ⟨cs2, out2, rfl, HY.out.trans HRD.out, hsz2, HOWN2.out, HFR2.out⟩
            | (simp only [szOf]; exact hy2)
        | false =>
          obtain ⟨rfl, rfl, hn⟩ := hno rfl
          by_cases hlt : k < 256
          · have hnm : ∀ w, Calls Tryd.prog 18 #[.int .u8 (k : Int)] w fun e w' => e = .returned (.string ⟨(nameL k).toArray⟩) ∧ Frm [] w w' := fun w => refName k hlt w
            have HNO := Lib.hid hn
            have HOWN2 := Lib.hid hown2
            have HFR2 := Lib.hid hfr2
            clear hyes hno hn hown2 hfr2
            go_wp2_with fail
            refine (hnm _).mono ?_
            rintro e w3 ⟨rfl, hf3⟩
            have hF3 := HFR2.out.trans hf3 (by simp)
            have hown3 := ownsRow_frm HOWN2.out hf3 (by simp)
            have hF3s := hF3.size
            have HF3 := Lib.hid hF3
            have hln : (⟨(nameL k).toArray⟩ : ByteArray).size = (nameL k).length := rfl
            have hnp := (name_pos k hlt).1
            have hle0 : (0 : Int) ≤ ((nameL k).length : Int) := by omega
            clear hf3 hF3 hnm
            by_cases hle : (nameL k).length ≤ cs2.size
            · have hle' : ((nameL k).length : Int) ≤ (cs2.size : Int) := by omega
              have hpx := take_prefix (nameL k) cs2 hle
              cases hp : (nameL k).isPrefixOf cs2.data.toList
              · rw [hp] at hpx
                have HOWN3 := Lib.hid hown3
                have HP := Lib.hid hp
                clear hown3 hp
                go_wp2_with fail
                go_roundw
                case rel => exact ⟨k + 1, false, cs2, out2, by omega, by go_num, rfl, rfl, hsz2, HOWN3.out, HF3.out, fun _ => ⟨rfl, rfl, fun d hd => by
                  rcases Nat.lt_succ_iff_lt_or_eq.1 hd with h | rfl
                  · exact HNO.out d h
                  · exact HP.out⟩, fun h => by cases h⟩
                case measure => simp [intOf]; omega
              · rw [hp] at hpx
                obtain ⟨hstep, _⟩ := readB_step HNE.out (findN_of hlt hp) out2
                have HSTEP := Lib.hid hstep
                clear hstep hp
                go_wp2_with (at_builtin; refine wpList_append_row rfl (.tmp 34) (.tmp 37) 22 rfl w.heap.size 5 i0 (.int .u8 0) 1 1 Tryd.underlying22 hi hz0 hz1 hz2 rfl (by decide) _ out2.length (out2.map encB) rfl (hown3.alloc _) _ 1 [.int .u8 (k : Int)] rfl (.inr ⟨_, _, rfl, cell_one_new _ _ _⟩) rfl (by simp [Value.oneCell']) (by unfold maxLen; omega) (by omega) (by simp; omega) ?_)
                intro v4 w4 hown4 hf4 _ _
                have hF4 := (HF3.out.alloc (.cells #[.int .u8 (k : Int)] 5)).trans hf4 (fun x hx => .inr (own_ge hown3 x hx))
                have HF4 := Lib.hid hF4
                have henc : out2.map encB ++ [.int .u8 (k : Int)] = (out2 ++ [UInt8.ofNat k]).map encB := by
                  have e : (UInt8.ofNat k).toNat = k := by simp; omega
                  simp [encB, e]
                rw [henc, show out2.length + 1 = (out2 ++ [UInt8.ofNat k]).length by simp] at hown4
                have HOWN4 := Lib.hid hown4
                clear hown3 hf4 hF4 hown4 henc
                go_wp2_with fail
                go_roundw
                case rel =>
                  refine ⟨k + 1, true, cs2.extract (nameL k).length cs2.size, out2 ++ [UInt8.ofNat k], by omega, by go_num, rfl, rfl, ?_, HOWN4.out, HF4.out, fun h => (by cases h), fun _ => ⟨(HSTEP.out).symm, ?_⟩⟩
                  · rw [ByteArray.size_extract]
                    simp only [List.length_append, List.length_singleton]
                    omega
                  · rw [ByteArray.size_extract]
                    omega
                case measure => simp [intOf]; omega
            · have hp := long_prefix (nameL k) cs2 hle
              have hle' : ¬ ((nameL k).length : Int) ≤ (cs2.size : Int) := by omega
              have hle'' : (cs2.size : Int) < ((nameL k).length : Int) := by omega
              have HOWN3 := Lib.hid hown3
              have HP := Lib.hid hp
              clear hown3 hp hle
              go_wp2_with fail
              go_roundw
              case rel => exact ⟨k + 1, false, cs2, out2, by omega, by go_num, rfl, rfl, hsz2, HOWN3.out, HF3.out, fun _ => ⟨rfl, rfl, fun d hd => by
                rcases Nat.lt_succ_iff_lt_or_eq.1 hd with h | rfl
                · exact HNO.out d h
                · exact HP.out⟩, fun h => by cases h⟩
              case measure => simp [intOf]; omega
          · obtain rfl : k = 256 := by omega
            have HST := Lib.hid (readB_stop HNE.out (findN_none hn) out2)
            have HFR2 := Lib.hid hfr2
            clear hyes hno hn hown2 hfr2
            go_wp2_with fail
            go_ret2
            exact ⟨.slice none 0 0, false, [], rfl, HRD.out ▸ HST.out, fun _ => rfl, by simp, ⟨rfl, .inl ⟨rfl, rfl⟩⟩, HFR2.out⟩
    · obtain rfl := str_eq_empty (s := cs) (by omega)
      have HRD := Lib.hid hrd
      have HOWN := Lib.hid hown
      have HFR := Lib.hid hfr
      clear hrd hown hfr
      go_wp2_with fail
      go_ret2
      exact ⟨_, true, out, rfl, HRD.out ▸ readB_nil out, fun h => (by cases h), Nat.le_trans (Nat.le_add_left _ _) hsz, HOWN.out, HFR.out⟩

end Go.Proofs.YtaobohlcpgnebaaDoor
