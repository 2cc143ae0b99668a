/-
  THE WALK OF foolscaplaw3.IndexPlaces: it returns true at every text and every place, and changes nothing that lay in memory.
-/
import Derived.Test.YtnajkjgjeiodmaaL3lines
import Derived.BigQuiet
import Derived.Deep.DeepCutAuto
namespace Go.Proofs.Ytnajkjgjeiodmaa
open Go.RowKit
open Go.Proofs (Try.prog)

/-- The starts of lines that were found among the first k places. -/
def pre (t : List UInt8) : Nat → List Int
  | 0 => []
  | k + 1 => starts (t.take k)
theorem pre_step (t : List UInt8) (k : Nat) (c : UInt8) (hc : t[k]? = some c) : pre t (k + 2) = pre t (k + 1) ++ (if c = 10 then [((k + 1 : Nat) : Int)] else []) := by
  show starts (t.take (k + 1)) = starts (t.take k) ++ _
  rw [starts, brk_snoc 0 t k c hc, starts]
  simp
theorem pre_length (t : List UInt8) (k : Nat) : (pre t k).length ≤ k := by
  cases k with
  | zero => simp [pre]
  | succ k =>
    have h := nl_le (t.take k)
    rw [List.length_take] at h
    show (starts (t.take k)).length ≤ _
    rw [starts_length]
    omega
def found (W : World) (t : List UInt8) (k : Nat) (v : Value) (wr : World) : Prop :=
  wr.ownsRow W.heap.size 3 1 v (pre t k).length ((pre t k).flatMap encI) ∧ Frm [] W wr
theorem found.put {W wr w2 : World} {t : List UInt8} {k : Nat} {v v' : Value} {o : Obj} (h : found W t k v wr) (h1 : pre t (k + 1) = pre t k ++ [(k : Int)])
    (hr : w2.ownsRow W.heap.size 3 1 v' ((pre t k).length + 1) ((pre t k).flatMap encI ++ [.int .i64 k])) (hf : Frm v.ownBlock.toList (wr.alloc o) w2) : found W t (k + 1) v' w2 := by
  obtain ⟨g1, g2⟩ := h
  refine ⟨?_, (g2.alloc o).trans hf (fun x hx => .inr (g1.lt x (by simpa using hx)).1)⟩
  rw [h1, List.length_append, List.flatMap_append]
  exact hr
theorem found.form {W wr : World} {t : List UInt8} {k : Nat} {v : Value} (h : found W t k v wr) : ∃ a n c, v = .slice a n c := by
  obtain ⟨a, c, rfl, _⟩ := ownsRow_form h.1
  exact ⟨_, _, _, rfl⟩

/-- What holds at any line: Start's and Size's answers. -/
theorem idxLineAny (w : World) (x : Nat) (fp : List Nat) (t : List UInt8) (h : Idx w x fp t) (ht : t.length ≤ 1073741824) (line : Int) :
    ∃ (sv kv : Int) (b : Bool), Calls Try.prog 16 #[.pointer (some ⟨x, 0, none⟩), .int .i64 line] w (fun e w' => e = .returned (.tuple #[.int .i64 sv, .bool b]) ∧ w = w') ∧
      Calls Try.prog 17 #[.pointer (some ⟨x, 0, none⟩), .int .i64 line] w (fun e w' => e = .returned (.tuple #[.int .i64 kv, .bool b]) ∧ w = w') ∧
      ((b = true ∧ ∃ (k : Nat) (e' : Int), line = k ∧ k < nl t + 1 ∧ (bnd t)[k]? = some sv ∧ (bnd t)[k + 1]? = some e' ∧ kv = e' - 1 - sv) ∨ (b = false ∧ ¬ (0 ≤ line ∧ line < (nl t + 1 : Nat)) ∧ sv = 0 ∧ kv = 0)) := by
  by_cases hl : 0 ≤ line ∧ line < (nl t + 1 : Nat)
  · obtain ⟨k, rfl⟩ := Int.eq_ofNat_of_zero_le hl.1
    have hk : k < nl t + 1 := by omega
    have h1 : k < (bnd t).length := by rw [bnd_length]; omega
    have h2 : k + 1 < (bnd t).length := by rw [bnd_length]; omega
    have g1 := List.getElem?_eq_getElem h1
    have g2 := List.getElem?_eq_getElem h2
    exact ⟨_, _, true, idxStart_yes w x fp t h k _ (by rw [← bnd_start t k hk]; exact g1), idxSize_yes w x fp t h ht k _ _ hk g1 g2, .inl ⟨rfl, k, _, rfl, hk, g1, g2, rfl⟩⟩
  · exact ⟨0, 0, false, idxStart_no w x fp t h line hl, idxSize_no w x fp t h line hl, .inr ⟨rfl, hl, rfl, rfl⟩⟩
theorem idxOffAny (w : World) (x : Nat) (fp : List Nat) (t : List UInt8) (h : Idx w x fp t) (ht : t.length ≤ 1073741824) (l c : Int) :
    ∃ (ov : Int) (b : Bool), Calls Try.prog 18 #[.pointer (some ⟨x, 0, none⟩), .agg #[.int .i64 l, .int .i64 c]] w (fun e w' => e = .returned (.tuple #[.int .i64 ov, .bool b]) ∧ Frm [] w w') ∧
      ((b = true ∧ ∃ (k : Nat) (s e' : Int), l = k ∧ k < nl t + 1 ∧ (bnd t)[k]? = some s ∧ (bnd t)[k + 1]? = some e' ∧ 0 ≤ c ∧ c ≤ e' - 1 - s ∧ ov = s + c) ∨
       (b = false ∧ ov = 0 ∧ ((l < 0 ∨ (nl t + 1 : Nat) ≤ l) ∨ ∃ (k : Nat) (s e' : Int), l = k ∧ k < nl t + 1 ∧ (bnd t)[k]? = some s ∧ (bnd t)[k + 1]? = some e' ∧ (c < 0 ∨ e' - 1 - s < c)))) := by
  by_cases hl : 0 ≤ l ∧ l < (nl t + 1 : Nat)
  · obtain ⟨k, rfl⟩ := Int.eq_ofNat_of_zero_le hl.1
    have hk : k < nl t + 1 := by omega
    have h1 : k < (bnd t).length := by rw [bnd_length]; omega
    have h2 : k + 1 < (bnd t).length := by rw [bnd_length]; omega
    have g1 := List.getElem?_eq_getElem h1
    have g2 := List.getElem?_eq_getElem h2
    by_cases hc : 0 ≤ c ∧ c ≤ (bnd t)[k + 1] - 1 - (bnd t)[k]
    · exact ⟨_, true, idxOff_yes w x fp t h ht k _ _ c hk g1 g2 hc.1 hc.2, .inl ⟨rfl, k, _, _, rfl, hk, g1, g2, hc.1, hc.2, rfl⟩⟩
    · exact ⟨0, false, idxOff_no2 w x fp t h ht k _ _ c hk g1 g2 hc, .inr ⟨rfl, rfl, .inr ⟨k, _, _, rfl, hk, g1, g2, by omega⟩⟩⟩
  · exact ⟨0, false, idxOff_no1 w x fp t h l c hl, .inr ⟨rfl, rfl, .inl (by omega)⟩⟩
theorem idxAtAny (w : World) (x : Nat) (fp : List Nat) (t : List UInt8) (h : Idx w x fp t) (ht : t.length ≤ 1073741824) (off : Int) :
    ∃ (a1 a2 : Int) (b : Bool), Calls Try.prog 19 #[.pointer (some ⟨x, 0, none⟩), .int .i64 off] w (fun e w' => e = .returned (.tuple #[.agg #[.int .i64 a1, .int .i64 a2], .bool b]) ∧ Frm [] w w') ∧
      ((b = true ∧ 0 ≤ off ∧ off ≤ t.length) ∨ (b = false ∧ off < 0) ∨ (b = false ∧ 0 ≤ off ∧ (t.length : Int) < off)) := by
  by_cases ho : 0 ≤ off ∧ off ≤ t.length
  · obtain ⟨k, rfl⟩ := Int.eq_ofNat_of_zero_le ho.1
    have hn := nl_take_total t k
    have h1 : nl (t.take k) < (starts t).length := by rw [starts_length]; omega
    exact ⟨_, _, true, idxAt_yes w x fp t h ht k (by omega) _ (List.getElem?_eq_getElem h1), .inl ⟨rfl, ho⟩⟩
  · refine ⟨0, 0, false, idxAt_no w x fp t h off ho, .inr ?_⟩
    by_cases h0 : 0 ≤ off
    · exact .inr ⟨rfl, h0, by omega⟩
    · exact .inl ⟨rfl, by omega⟩

set_option maxRecDepth 100000 in
set_option maxHeartbeats 8000000 in
theorem indexPlaces (w : World) (s : ByteArray) (off l c line : Int) (hsm : s.size ≤ maxLen) (h1 : IntKind.i64.wrap off = off) (h2 : IntKind.i64.wrap l = l) (h3 : IntKind.i64.wrap c = c) (h4 : IntKind.i64.wrap line = line) :
    Calls Try.prog 3 #[.string s, .int .i64 off, .agg #[.int .i64 l, .int .i64 c], .int .i64 line] w fun e w' => e = .returned (.bool true) ∧ Frm [] w w' := by
  obtain ⟨W0, hW0⟩ : ∃ W0, W0 = w.alloc (.cells #[.int .i64 l, .int .i64 c] 23) := ⟨_, rfl⟩
  have hp0 : W0.heap[w.heap.size]? = some (.cells #[.int .i64 l, .int .i64 c] 23 (0, 0)) := by rw [hW0]; exact heap_alloc_at w _
  have hF0 : Frm [] w W0 := by rw [hW0]; exact (Frm.refl [] w).alloc _
  have hk := known3 W0
  rw [hW0] at hk
  unfold maxLen at hsm
  by_cases hs : s.size ≤ 200
  · have HP0 := Lib.hid hp0
    have HF0 := Lib.hid hF0
    have HW0 := Lib.hid hW0
    clear hp0 hF0 hW0
    go_enter Try.func3, Try.ntmps3
    go_wp2_with fail
    refine hk.mono ?_
    rintro e w1 ⟨rfl, hf1⟩
    clear hk
    rw [← HW0.out] at hf1
    have hnew := idxNew w1 s (by omega)
    have HF1 := Lib.hid (HF0.out.trans hf1 (by simp))
    have HP1 := Lib.hid (hf1.heap HP0.out (by simp))
    clear hf1
    go_wp2_with fail
    refine hnew.mono ?_
    rintro e w2 ⟨x, fp, rfl, hi, hf2, _⟩
    have HI := Lib.hid hi
    have HF2 := Lib.hid (HF1.out.trans hf2 (by simp))
    have HP2 := Lib.hid (hf2.heap HP1.out (by simp))
    clear hnew hi hf2
    go_wp2_with fail
    obtain ⟨i0, hin, hz0, hz1, hz2⟩ := info_parts infoI
    go_loopw [10, 11] (fun v i wr => ∃ k : Nat, k ≤ s.size + 1 ∧ i = .int .i64 k ∧ found w2 s.data.toList k v wr) (fun _ i _ => s.size + 1 - (intOf i).toNat)
    case atStart => exact ⟨0, Nat.zero_le _, rfl, World.ownsRow_nil _ _ _ _, Frm.refl _ _⟩
    case round =>
      obtain ⟨k, hk, rfl, hcol⟩ := hrel
      have HCOL := Lib.hid hcol
      obtain ⟨a, n, cp, rfl⟩ := hcol.form
      have hML := pre_length s.data.toList k
      by_cases hlt : k ≤ s.size
      · by_cases hk0 : k = 0
        · subst hk0
          have hput := fun (v' : Value) (w2 : World) (o : Obj) => found.put (v' := v') (w2 := w2) (o := o) HCOL.out rfl
          obtain ⟨hown, hfr⟩ := hcol
          have hsz := hfr.size
          have HPUT := Lib.hid hput
          clear hput hfr
          go_wp2_with (at_builtin; refine wpList_append_row rfl (.tmp 45) (.tmp 47) 27 rfl w2.heap.size 3 i0 (.int .i64 0) 1 8 Try.underlying27 hin hz0 hz1 hz2 rfl (by decide) _ 0 [] rfl (hown.alloc _) _ 1 [.int .i64 0] rfl (.inr ⟨_, _, rfl, cell_one_new _ _ _⟩) rfl (by simp [Value.oneCell']) (by unfold maxLen; omega) (by omega) (by simp; omega) ?_)
          intro v' w4 hr2 hf2 _ _
          have hcol2 := HPUT.out v' w4 _ hr2 hf2
          obtain ⟨a2, n2, c2, rfl⟩ := hcol2.form
          have HC2 := Lib.hid hcol2
          clear hr2 hf2 hcol2 hown
          go_wp2_with fail
          go_roundw
          case rel => exact ⟨1, by omega, by go_num, HC2.out⟩
          case measure => simp [intOf]
        · as_aux_lemma =>
          obtain ⟨j, rfl⟩ : ∃ j, k = j + 1 := ⟨k - 1, by omega⟩
          have hj : j < s.size := by omega
          have hsk := str_get s j hj
          have hst := pre_step s.data.toList j _ hsk
          have hne : ((j : Int) + 1 == 0) = false := by rw [beq_eq_false_iff_ne]; omega
          have hjj : ((j + 1 : Nat) : Int) = (j : Int) + 1 := by omega
          by_cases h10 : s[j] = 10
          · have htest := test10_yes h10
            have hput := fun (v' : Value) (w2 : World) (o : Obj) => found.put (v' := v') (w2 := w2) (o := o) HCOL.out (by rw [hst, if_pos h10])
            obtain ⟨hown, hfr⟩ := hcol
            have hsz := hfr.size
            obtain ⟨cs, hcs⟩ : ∃ cs, cs = (pre s.data.toList (j + 1)).flatMap encI := ⟨_, rfl⟩
            rw [← hcs] at hown hput
            generalize (pre s.data.toList (j + 1)).length = M at hown hput hML
            have HPUT := Lib.hid hput
            clear hput hfr hst hsk h10 hcs
            rw [hjj]
            clear hjj
            obtain ⟨_, _, hsl, _, _⟩ := ownsRow_form hown
            cases hsl
            go_wp2_with (at_builtin; refine wpList_append_row rfl (.tmp 45) (.tmp 47) 27 rfl w2.heap.size 3 i0 (.int .i64 0) 1 8 Try.underlying27 hin hz0 hz1 hz2 rfl (by decide) _ n cs rfl (hown.alloc _) _ 1 [.int .i64 ((j : Int) + 1)] rfl (.inr ⟨_, _, rfl, cell_one_new _ _ _⟩) rfl (by simp [Value.oneCell']) (by unfold maxLen; omega) (by omega) (by simp; omega) ?_)
            intro v' w4 hr2 hf2 _ _
            have hcol2 := HPUT.out v' w4 _ hr2 hf2
            obtain ⟨a2, n2, c2, rfl⟩ := hcol2.form
            have HC2 := Lib.hid hcol2
            clear hr2 hf2 hcol2 hown
            go_wp2_with fail
            go_roundw
            case rel => exact ⟨j + 1 + 1, by omega, by go_num, HC2.out⟩
            case measure => simp [intOf]; omega
          · have htest := test10_no h10
            have hcol2 : found w2 s.data.toList (j + 1 + 1) (.slice a n cp) _ := ⟨by rw [hst, if_neg h10, List.append_nil]; exact hcol.1, hcol.2⟩
            have HC2 := Lib.hid hcol2
            clear hcol hcol2 hst hsk h10
            rw [hjj]
            clear hjj
            go_wp2_with fail
            go_roundw
            case rel => exact ⟨j + 1 + 1, by omega, by go_num, HC2.out⟩
            case measure => simp [intOf]; omega
      · as_aux_lemma =>
        obtain rfl : k = s.size + 1 := by omega
        have hall : s.data.toList.take s.size = s.data.toList := List.take_of_length_le (by simp)
        have hpre : pre s.data.toList (s.size + 1) = starts s.data.toList := by rw [pre, hall]
        obtain ⟨hown, hfr⟩ := hcol
        rw [hpre] at hown
        have hN : nl s.data.toList ≤ 200 := by
          have := nl_le s.data.toList
          have hss : s.data.toList.length = s.size := by simp
          omega
        rw [starts_length] at hown
        obtain ⟨cs, hcs⟩ : ∃ cs, cs = (starts s.data.toList).flatMap encI := ⟨_, rfl⟩
        rw [← hcs] at hown
        have HCS := Lib.hid hcs
        have HF4 := Lib.hid hfr
        have hsz := hfr.size
        clear hfr hpre hall hML hlt hk hcs HCOL
        obtain ⟨N, hNe⟩ : ∃ N, N = nl s.data.toList := ⟨_, rfl⟩
        rw [← hNe] at hown hN
        have HNE := Lib.hid hNe
        clear hNe
        obtain ⟨_, _, hsl, _, _⟩ := ownsRow_form hown
        cases hsl
        go_wp2_with (at_builtin; refine wpList_append_row rfl (.tmp 49) (.tmp 53) 27 rfl w2.heap.size 3 i0 (.int .i64 0) 1 8 Try.underlying27 hin hz0 hz1 hz2 rfl (by decide) _ (N + 1) cs rfl (hown.alloc _) _ 1 [.int .i64 ((s.size : Int) + 1)] rfl (.inr ⟨_, _, rfl, cell_one_new _ _ _⟩) rfl (by simp [Value.oneCell']) (by unfold maxLen; omega) (by omega) (by simp; omega) ?_)
        intro v' w5 hr5 hf5 _ _
        have hF5 : Frm [] w2 w5 := (HF4.out.alloc _).trans hf5 (fun x hx => .inr (hown.lt x (by simpa using hx)).1)
        have hr6 : w5.ownsRow w2.heap.size 3 1 v' (N + 2) ((bnd s.data.toList).flatMap encI) := by
          rw [bnd, List.flatMap_append, ← HCS.out]
          have hss : s.data.toList.length = s.size := by simp
          rw [hss]
          exact hr5
        obtain ⟨g, cp5, rfl, hg1, hg2⟩ : ∃ g cp5, v' = .slice (some ⟨g, 0, none⟩) (N + 2) cp5 ∧ w2.heap.size ≤ g ∧ g < w5.heap.size := by
          rcases hr6.2 with ⟨_, h0⟩ | ⟨g, cap, cur, hv, hb, hg, _⟩
          · omega
          · exact ⟨g, cap, hv, hb, lt_of_heap hg⟩
        have hcell : ∀ j b, (bnd s.data.toList)[j]? = some b → w5.cell? ⟨g, j, none⟩ = some (.int .i64 b) := fun j b hb => by
          have hj := (List.getElem?_eq_some_iff.1 hb).1
          rw [bnd_length, ← HNE.out] at hj
          rw [hr6.cellAt j (by omega)]
          have e : (bnd s.data.toList).flatMap encI = (bnd s.data.toList).map (Value.int .i64) := by
            generalize bnd s.data.toList = xs
            induction xs with
            | nil => rfl
            | cons x xs ih => simp only [List.flatMap_cons, List.map_cons, ih]; rfl
          rw [e, List.getElem?_map, hb]
          rfl
        have hbr : ∀ (j : Nat) (b : Int), (bnd s.data.toList)[j]? = some b → 0 ≤ b ∧ b ≤ 201 := fun j b hb => by
          have hm := List.mem_of_getElem? hb
          have hss : s.data.toList.length = s.size := by simp
          rcases List.mem_append.1 hm with h | h
          · have := starts_range _ _ h
            omega
          · simp at h
            rw [h]
            have : s.data.size = s.size := rfl
            omega
        have hi5 := HI.out.frm hF5 (by simp)
        have hss : s.data.toList.length = s.size := by simp
        obtain ⟨sv, kv, inb, hS, hK, hinb⟩ := idxLineAny w5 x fp _ hi5 (by omega) line
        rw [← HNE.out] at hinb
        have HI5 := Lib.hid hi5
        have HF5 := Lib.hid (HF2.out.trans hF5 (by simp))
        have HP5 := Lib.hid (hF5.heap HP2.out (by simp))
        have HCELL := Lib.hid hcell
        have HBR := Lib.hid hbr
        have HIN := Lib.hid hinb
        have hwl := HP2.out
        have hwlt := lt_of_heap hwl
        have hgw : g ≠ w.heap.size := by omega
        have hpc0 := cell_of_heap (i := 0) HP5.out rfl
        have hpc1 := cell_of_heap (i := 1) HP5.out rfl
        have HPC0 := Lib.hid hpc0
        have HPC1 := Lib.hid hpc1
        clear hr5 hf5 hF5 hr6 hcell hbr hi5 hinb hwl hpc0 hpc1 hown HCS HF4 hsz hgw hwlt hg1 hin hz0 hz1 hz2
        go_upto_region 16 with (first | (go_at_call 16; refine hS.mono ?_; rintro e w' ⟨rfl, rfl⟩) | (go_at_call 17; refine hK.mono ?_; rintro e w' ⟨rfl, rfl⟩))
        clear hS hK
        go_cut [17] (fun s17 wx => s17 = .bool inb ∧ w5 = wx)
        case first => as_aux_lemma =>
          rcases HIN.out with ⟨rfl, k, e', rfl, hk, -⟩ | ⟨rfl, hno, -⟩
          · have hd1 : (0 : Int) ≤ (k : Int) := by omega
            have hd2 : (k : Int) < (N : Int) + 2 - 1 := by omega
            go_wp2_with fail
            go_meet
            exact ⟨rfl, rfl⟩
          · by_cases h0 : 0 ≤ line
            · have hd2 : ¬ line < (N : Int) + 2 - 1 := by omega
              go_wp2_with fail
              go_meet
              exact ⟨rfl, rfl⟩
            · go_wp2_with fail
              go_meet
              exact ⟨rfl, rfl⟩
        case rest =>
          obtain ⟨rfl, rfl⟩ := hcut
          go_upto_region 17 with fail
          go_cut [122] (fun s122 wx => s122 = .bool false ∧ ∃ nq, wx = w5.drewN nq)
          case first => as_aux_lemma =>
            rcases HIN.out with ⟨rfl, k, e', rfl, hk, hb1, hb2, rfl⟩ | ⟨rfl, hno, rfl, rfl⟩
            · have h0 := HCELL.out _ _ hb1
              have h1 := HCELL.out _ _ hb2
              have b0 := HBR.out _ _ hb1
              have b1 := HBR.out _ _ hb2
              clear hb1 hb2
              have hka : IntKind.i64.wrap ((k : Int) + 1) = (k : Int) + 1 := by rw [IntKind.wrap_i64]; omega
              go_quiet (fail)
              go_wp2_with fail
              go_meet
              exact ⟨rfl, _, rfl⟩
            · go_quiet (fail)
              go_wp2_with fail
              go_meet
              exact ⟨rfl, _, rfl⟩
          case rest =>
            obtain ⟨rfl, nq, rfl⟩ := hcut
            have hpc0 := HPC0.out
            have hpc1 := HPC1.out
            have hfq : Frm [] w5 (w5.drewN nq) := (Frm.refl [] w5).drewN nq
            obtain ⟨ov, thb, hO, hthere⟩ := idxOffAny (w5.drewN nq) x fp _ (HI5.out.frm hfq (by simp)) (by omega) l c
            rw [← HNE.out] at hthere
            have HTH := Lib.hid hthere
            have HFQ := Lib.hid hfq
            clear hthere hfq
            go_wp2_with fail
            refine hO.mono ?_
            rintro e w6 ⟨rfl, hf6⟩
            have hf56 := HFQ.out.trans hf6 (by simp)
            have HF6 := Lib.hid hf56
            have hp6 := hf56.heap HP5.out (by simp)
            have hpc0 := cell_of_heap (i := 0) hp6 rfl
            have hpc1 := cell_of_heap (i := 1) hp6 rfl
            have HPC0 := Lib.hid hpc0
            have HPC1 := Lib.hid hpc1
            clear hO hf6 hf56 hp6
            go_upto_region 20 with fail
            go_cut [20] (fun s20 wx => s20 = .bool thb ∧ ∃ nq, wx = w6.drewN nq)
            case first => as_aux_lemma =>
              rcases HTH.out with ⟨rfl, k, s', e', rfl, hk, hb1, hb2, hc0, hc1, -⟩ | ⟨rfl, -, hlo | ⟨k, s', e', rfl, hk, hb1, hb2, hc0⟩⟩
              · have h0 := HF6.out.cell (HCELL.out _ _ hb1) (by simp)
                have h1 := HF6.out.cell (HCELL.out _ _ hb2) (by simp)
                have b0 := HBR.out _ _ hb1
                have b1 := HBR.out _ _ hb2
                have hka : IntKind.i64.wrap ((k : Int) + 1) = (k : Int) + 1 := by rw [IntKind.wrap_i64]; omega
                have hd1 : decide ((0 : Int) ≤ (k : Int)) = true := decide_eq_true (by omega)
                have hd2 : decide ((k : Int) < (N : Int) + 2 - 1) = true := decide_eq_true (by omega)
                have hd3 : decide (0 ≤ c) = true := decide_eq_true hc0
                have hd4 : decide (c ≤ e' - 1 - s') = true := decide_eq_true hc1
                clear hb1 hb2
                go_quiet (fail)
                go_wp2_with fail
                go_meet
                exact ⟨rfl, _, rfl⟩
              · by_cases hl0 : 0 ≤ l
                · have hd1 : decide ((0 : Int) ≤ l) = true := decide_eq_true (by omega)
                  have hd2 : decide (l < (N : Int) + 2 - 1) = false := decide_eq_false (by omega)
                  go_quiet (fail)
                  go_wp2_with fail
                  go_meet
                  exact ⟨rfl, _, rfl⟩
                · have hd1 : decide ((0 : Int) ≤ l) = false := decide_eq_false (by omega)
                  go_quiet (fail)
                  go_wp2_with fail
                  go_meet
                  exact ⟨rfl, _, rfl⟩
              · have hka : IntKind.i64.wrap ((k : Int) + 1) = (k : Int) + 1 := by rw [IntKind.wrap_i64]; omega
                have hd1 : decide ((0 : Int) ≤ (k : Int)) = true := decide_eq_true (by omega)
                have hd2 : decide ((k : Int) < (N : Int) + 2 - 1) = true := decide_eq_true (by omega)
                by_cases hcc : 0 ≤ c
                · have h0 := HF6.out.cell (HCELL.out _ _ hb1) (by simp)
                  have h1 := HF6.out.cell (HCELL.out _ _ hb2) (by simp)
                  have b0 := HBR.out _ _ hb1
                  have b1 := HBR.out _ _ hb2
                  have hd3 : decide (0 ≤ c) = true := decide_eq_true hcc
                  have hd4 : decide (c ≤ e' - 1 - s') = false := decide_eq_false (by omega)
                  clear hb1 hb2 hc0
                  go_quiet (fail)
                  go_wp2_with fail
                  go_meet
                  exact ⟨rfl, _, rfl⟩
                · have hd3 : decide (0 ≤ c) = false := decide_eq_false hcc
                  clear hb1 hb2 hc0
                  go_quiet (fail)
                  go_wp2_with fail
                  go_meet
                  exact ⟨rfl, _, rfl⟩
            case rest =>
              obtain ⟨rfl, nr, rfl⟩ := hcut
              go_upto_region 21 with fail
              go_cut [186] (fun s186 wx => s186 = .bool false ∧ ∃ nq, wx = w6.drewN nq)
              case first => as_aux_lemma =>
                rcases HTH.out with ⟨rfl, k, s', e', rfl, hk, hb1, hb2, hc0, hc1, rfl⟩ | ⟨rfl, rfl, -⟩
                · have h0 := HF6.out.cell (HCELL.out _ _ hb1) (by simp)
                  have b0 := HBR.out _ _ hb1
                  have b1 := HBR.out _ _ hb2
                  have hsc : IntKind.i64.wrap (s' + c) = s' + c := by rw [IntKind.wrap_i64]; omega
                  clear hb1 hb2
                  go_quiet (fail)
                  go_wp2_with fail
                  go_meet
                  exact ⟨rfl, _, rfl⟩
                · go_quiet (fail)
                  go_wp2_with fail
                  go_meet
                  exact ⟨rfl, _, rfl⟩
              case rest => as_aux_lemma =>
                obtain ⟨rfl, ns, rfl⟩ := hcut
                have hfs : Frm [] w5 (w6.drewN ns) := HF6.out.drewN ns
                obtain ⟨a1, a2, db, hAt, hd⟩ := idxAtAny _ x fp _ (HI5.out.frm hfs (by simp)) (by omega) off
                have HFS := Lib.hid hfs
                have HD := Lib.hid hd
                clear hfs hd hpc0 hpc1
                go_wp2_with fail
                refine hAt.mono ?_
                rintro e w7 ⟨rfl, hf7⟩
                have HF7 := Lib.hid ((HF5.out.trans HFS.out (by simp)).trans hf7 (by simp))
                clear hAt hf7
                have hss2 : ((s.data.toList.length : Nat) : Int) = (s.size : Int) := by simp
                have hd := HD.out
                rw [hss2] at hd
                clear hss hss2
                rcases hd with ⟨rfl, h0, h1⟩ | ⟨rfl, h0⟩ | ⟨rfl, h0, h1⟩
                · have hd1 : decide (off ≤ (s.size : Int)) = true := decide_eq_true h1
                  go_wp2_with fail
                  go_ret
                  exact ⟨rfl, HF7.out.alloc _⟩
                · have hd1 : decide (0 ≤ off) = false := decide_eq_false (by omega)
                  go_wp2_with fail
                  go_ret
                  exact ⟨rfl, HF7.out.alloc _⟩
                · have hd1 : decide (off ≤ (s.size : Int)) = false := decide_eq_false (by omega)
                  go_wp2_with fail
                  go_ret
                  exact ⟨rfl, HF7.out.alloc _⟩
  · go_enter Try.func3, Try.ntmps3
    go_wp2_with fail
    refine hk.mono ?_
    rintro e w1 ⟨rfl, hf1⟩
    clear hk
    go_wp2_with fail
    go_ret
    rw [← hW0] at hf1
    exact ⟨rfl, hF0.trans hf1 (by simp)⟩

end Go.Proofs.Ytnajkjgjeiodmaa
