/-
  THE WALKS OF foolscaplaw23.KeysBack AND KeysJoins: true at every arguments. Conditions: the table of tens.
-/
import Derived.Test.YtaobohlcpgnebaaDoorK23
namespace Go.Proofs.YtaobohlcpgnebaaDoor
open Go.RowKit
open Go.Proofs (Tryd.prog)

theorem readB_text (k : List UInt8) : readB ⟨(textL k).toArray⟩ [] = some k := by
  have := readN_text k (textL k).length [] (Nat.le_refl _)
  show readN (textL k).length (textL k) [] = some k
  simpa using this

set_option maxRecDepth 100000 in
set_option maxHeartbeats 1600000 in
theorem keysBack (w : World) (v : Value) (k : List UInt8) (hk : k.length ≤ maxLen) (hv : RdB w v k) (ht : Tens w) : Calls Tryd.prog 3 #[v] w fun e w' => e = .returned (.bool true) ∧ Frm [] w w' := by
  obtain ⟨a, c, rfl⟩ := hv.form
  have hkn := known23 w ht
  unfold maxLen at hk
  by_cases h2 : k.length ≤ 200
  · have hll := textL_length k
    go_enter Tryd.func3, Tryd.ntmps3
    go_wp2_with fail
    refine hkn.mono ?_
    rintro e w1 ⟨rfl, hf1⟩
    have HF1 := Lib.hid hf1
    have htx := keysText _ k w1 (by omega) (hv.frm hf1)
    clear hkn hf1 ht
    go_wp2_with fail
    refine htx.mono ?_
    rintro e w2 ⟨rfl, hf2⟩
    have HF2 := Lib.hid (HF1.out.trans hf2 (by simp))
    have hpa := keysParse ⟨(textL k).toArray⟩ (by show (textL k).length ≤ _; omega) w2
    clear htx hf2
    go_wp2_with fail
    refine hpa.mono ?_
    rintro e w3 h3
    obtain ⟨⟨v3, rfl, ho3⟩, hf3⟩ := h3.yes (readB_text k)
    have HF3 := Lib.hid (HF2.out.trans hf3 (by simp))
    have HO3 := Lib.hid ho3
    have hrt := refText _ k w3 (by omega) (hv.frm HF3.out)
    clear hpa hf3 ho3 h3
    go_wp2_with fail
    refine hrt.mono ?_
    rintro e w4 ⟨rfl, hf4⟩
    have HF4 := Lib.hid (HF3.out.trans hf4 (by simp))
    have hcv1 := RdB.convert (Rd.ofOwn (ownsRow_frm HO3.out hf4 (by simp)))
    have hcv2 := (hv.frm HF4.out).convert
    have heq : strOf (textL k) = .string ⟨(textL k).toArray⟩ := rfl
    clear hrt hf4
    rw [heq]
    go_wp2_with fail
    go_ret
    exact ⟨rfl, HF4.out⟩
  · go_enter Tryd.func3, Tryd.ntmps3
    go_wp2_with fail
    refine hkn.mono ?_
    rintro e w1 ⟨rfl, hf1⟩
    have HF1 := Lib.hid hf1
    clear hkn hf1 ht
    go_wp2_with fail
    go_ret
    exact ⟨rfl, HF1.out⟩

theorem enc_one (l : List UInt8) : ∀ u ∈ l.map encB, u.oneCell' = true := fun u hu => by
  obtain ⟨b, _, rfl⟩ := List.mem_map.1 hu
  rfl

set_option maxRecDepth 100000 in
set_option maxHeartbeats 3200000 in
theorem keysJoins (w : World) (va vb : Value) (a b : List UInt8) (ha : a.length ≤ 140737488355328) (hb : b.length ≤ 140737488355328) (hva : RdB w va a) (hvb : RdB w vb b) (ht : Tens w) : Calls Tryd.prog 6 #[va, vb] w fun e w' => e = .returned (.bool true) ∧ Frm [] w w' := by
  obtain ⟨aa, ca, rfl⟩ := hva.form
  obtain ⟨ab, cb, rfl⟩ := hvb.form
  have hkn := known23 w ht
  by_cases h2 : a.length + b.length ≤ 200
  · obtain ⟨i0, hi, hz0, hz1, hz2⟩ := info_parts (show (Tryd.prog.info? 5).map (fun i => (i.zero, i.size, i.bytes)) = some (some (.int .u8 0), 1, 1) by kernel_rfl)
    have hlla := textL_length a
    have hllb := textL_length b
    have hll := textL_length (a ++ b)
    rw [List.length_append] at hll
    go_enter Tryd.func6, Tryd.ntmps6
    go_wp2_with fail
    refine hkn.mono ?_
    rintro e w1 ⟨rfl, hf1⟩
    have HF1 := Lib.hid hf1
    have hra := hva.frm hf1
    have hs1 := hf1.size
    clear hkn hf1 ht
    go_wp2_with (at_builtin; refine wpList_append_row rfl (.const (.slice none 0 0)) (.tmp 18) 22 rfl w.heap.size 5 i0 (.int .u8 0) 1 1 Tryd.underlying22 hi hz0 hz1 hz2 rfl (by decide) (.slice none 0 0) 0 [] rfl ⟨rfl, .inl ⟨rfl, rfl⟩⟩ _ a.length (a.map encB) rfl hra (by simp) (enc_one a) (by unfold maxLen; omega) (by omega) (by omega) ?_)
    intro v2 w2 hown2 hf2 _ _
    have hf2' : Frm [] w1 w2 := hf2
    have HF2 := Lib.hid (HF1.out.trans hf2' (by simp))
    have hs2 := hf2'.size
    have hrb := hvb.frm HF2.out
    clear hf2 hf2' hra
    go_wp2_with (at_builtin; refine wpList_append_row rfl (.tmp 19) (.tmp 20) 22 rfl w.heap.size 5 i0 (.int .u8 0) 1 1 Tryd.underlying22 hi hz0 hz1 hz2 rfl (by decide) v2 a.length (a.map encB) rfl hown2 _ b.length (b.map encB) rfl hrb (by simp) (enc_one b) (by unfold maxLen; omega) (by omega) (by omega) ?_)
    intro v3 w3 hown3 hf3 _ _
    have HF3 := Lib.hid (HF2.out.trans hf3 (fun x hx => .inr (own_ge hown2 x hx)))
    have hs3 := hf3.size
    rw [← List.map_append, ← List.length_append] at hown3
    have HO3 := Lib.hid hown3
    clear hown2 hf3 hrb hown3
    go_wp2_with fail
    have hr3 : RdB w3 v3 (a ++ b) := Rd.ofOwn HO3.out
    have hlen : (a ++ b).length = a.length + b.length := List.length_append
    obtain ⟨a3, c3, rfl⟩ := hr3.form
    have HR3 := Lib.hid hr3
    clear hr3
    generalize hl : a ++ b = l at *
    have HL := Lib.hid hl
    have hl200 : l.length ≤ 200 := by omega
    clear hl hlen
    go_wp2_with fail
    go_loopw [6, 7] (fun s i wr => ∃ k : Nat, k ≤ l.length ∧ s = .string ⟨(textL (l.take k)).toArray⟩ ∧ i = .int .i64 k ∧ Frm [] w3 wr) (fun _ i _ => l.length - (intOf i).toNat)
    case atStart => exact ⟨0, by omega, rfl, rfl, Frm.refl _ _⟩
    case round =>
      obtain ⟨k, hk, rfl, rfl, hf⟩ := hrel
      by_cases hlt : k < l.length
      · have hrd := HR3.out.frm hf
        rcases hrd with ⟨h1, h2, _⟩ | ⟨ad, cc, hva', hcell⟩
        · omega
        obtain ⟨rfl, rfl⟩ : a3 = some ad ∧ c3 = cc := by simpa using hva'
        have hsn := textL_snoc l k l[k] (by simp [hlt])
        have hc := hcell k (encB l[k]) (by simp [hlt])
        have hllk := textL_length (l.take k)
        have hln := (name_pos l[k].toNat l[k].toNat_lt).2
        rw [List.length_take] at hllk
        have hadd := add_str (textL (l.take k)) (nameL l[k].toNat) (by omega)
        rw [← hsn] at hadd
        have hnm : ∀ w, Calls Tryd.prog 17 #[.int .u8 (l[k].toNat : Int)] w fun e w' => e = .returned (.string ⟨(nameL l[k].toNat).toArray⟩) ∧ Frm [] w w' := fun w => keysName _ l[k].toNat_lt w
        simp only [encB] at hc
        generalize l[k].toNat = n at *
        have HF := Lib.hid hf
        clear hf hcell hsn
        go_wp2_with fail
        refine (hnm _).mono ?_
        rintro e w4 ⟨rfl, hf4⟩
        have HF4 := Lib.hid (HF.out.trans hf4 (by simp))
        clear hf4 hc hnm
        go_wp2_with fail
        go_roundw
        case rel => exact ⟨k + 1, by omega, rfl, by go_num, HF4.out⟩
        case measure => simp [intOf]; omega
      · obtain rfl : k = l.length := by omega
        rw [List.take_length]
        have HF := Lib.hid (HF3.out.trans hf (by simp))
        have HRr := Lib.hid (HR3.out.frm hf)
        have e1 : strOf (textL a) = .string ⟨(textL a).toArray⟩ := rfl
        have e2 : strOf (textL b) = .string ⟨(textL b).toArray⟩ := rfl
        have e3 : strOf (textL l) = .string ⟨(textL l).toArray⟩ := rfl
        have hta := refText _ a wr (by omega) (hva.frm HF.out)
        clear hf
        go_wp2_with fail
        rw [e1] at hta
        refine hta.mono ?_
        rintro e w5 ⟨rfl, hf5⟩
        have HF5 := Lib.hid (HF.out.trans hf5 (by simp))
        have HR5 := Lib.hid (HRr.out.frm hf5)
        have htb := refText _ b w5 (by omega) (hvb.frm HF5.out)
        clear hf5 hta
        go_wp2_with fail
        rw [e2] at htb
        refine htb.mono ?_
        rintro e w6 ⟨rfl, hf6⟩
        have HF6 := Lib.hid (HF5.out.trans hf6 (by simp))
        have HR6 := Lib.hid (HR5.out.frm hf6)
        have hadd := add_str (textL a) (textL b) (by omega)
        rw [← textL_append, HL.out] at hadd
        have hpa := keysParse ⟨(textL l).toArray⟩ (by show (textL l).length ≤ _; omega) w6
        clear hf6 htb
        go_wp2_with fail
        refine hpa.mono ?_
        rintro e w7 h7
        obtain ⟨⟨v7, rfl, ho7⟩, hf7⟩ := h7.yes (readB_text l)
        have HF7 := Lib.hid (HF6.out.trans hf7 (by simp))
        have HR7 := Lib.hid (HR6.out.frm hf7)
        have HO7 := Lib.hid ho7
        have ht1 := keysText _ l w7 (by omega) HR7.out
        clear hpa hf7 ho7 h7
        go_wp2_with fail
        rw [e3] at ht1
        refine ht1.mono ?_
        rintro e w8 ⟨rfl, hf8⟩
        have HF8 := Lib.hid (HF7.out.trans hf8 (by simp))
        have HR8 := Lib.hid (HR7.out.frm hf8)
        have HO8 := Lib.hid (ownsRow_frm HO7.out hf8 (by simp))
        have ht2 := keysText _ a w8 (by omega) (hva.frm HF8.out)
        clear ht1 hf8
        go_wp2_with fail
        rw [e1] at ht2
        refine ht2.mono ?_
        rintro e w9 ⟨rfl, hf9⟩
        have HF9 := Lib.hid (HF8.out.trans hf9 (by simp))
        have HR9 := Lib.hid (HR8.out.frm hf9)
        have HO9 := Lib.hid (ownsRow_frm HO8.out hf9 (by simp))
        have ht3 := keysText _ b w9 (by omega) (hvb.frm HF9.out)
        clear ht2 hf9
        go_wp2_with fail
        rw [e2] at ht3
        refine ht3.mono ?_
        rintro e w10 ⟨rfl, hf10⟩
        have HF10 := Lib.hid (HF9.out.trans hf10 (by simp))
        have HR10 := Lib.hid (HR9.out.frm hf10)
        have HO10 := Lib.hid (ownsRow_frm HO9.out hf10 (by simp))
        have ht4 := keysText _ l w10 (by omega) HR10.out
        clear ht3 hf10
        go_wp2_with fail
        rw [e3] at ht4
        refine ht4.mono ?_
        rintro e w11 ⟨rfl, hf11⟩
        have HF11 := Lib.hid (HF10.out.trans hf11 (by simp))
        have hcv1 := (HR10.out.frm hf11).convert
        have hcv2 := RdB.convert (Rd.ofOwn (ownsRow_frm HO10.out hf11 (by simp)))
        clear ht4 hf11
        go_wp2_with fail
        go_ret
        exact ⟨rfl, HF11.out⟩
  · go_enter Tryd.func6, Tryd.ntmps6
    go_wp2_with fail
    refine hkn.mono ?_
    rintro e w1 ⟨rfl, hf1⟩
    have HF1 := Lib.hid hf1
    clear hkn hf1 ht
    go_wp2_with fail
    go_ret
    exact ⟨rfl, HF1.out⟩

end Go.Proofs.YtaobohlcpgnebaaDoor
