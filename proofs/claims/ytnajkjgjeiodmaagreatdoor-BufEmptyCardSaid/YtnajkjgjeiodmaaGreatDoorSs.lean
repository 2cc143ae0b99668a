/-
  SLICES OF TEXTS, BY THE TEXTS: what strings.Join, strings.Split make of them; a part of one; foolscaphelp.Strings at equal lists. Conditions: as each says.
-/
import Derived.Test.YtnajkjgjeiodmaaGreatDoorShz
import Derived.Test.YtnajkjgjeiodmaaGreatDoorBpl
import Derived.Test.YtnajkjgjeiodmaaGreatDoorBase6
import Derived.Lib.SplitLaws
import Derived.Lib.IndexLaws
import Derived.DataElems
namespace Go.Proofs.YtnajkjgjeiodmaaGreatDoor
open Go.RowKit
open Go.Proofs (Tryz.prog)

/-- A text as a value. -/
def strV (l : List UInt8) : Value := .string ⟨l.toArray⟩
theorem addr_add (b o j : Nat) : (⟨b, o, none⟩ : Addr).add j = ⟨b, o + j, none⟩ := by unfold Addr.add; split <;> simp_all
/-- The slice v of texts reads as L. -/
def RdL (w : World) (v : Value) (L : List (List UInt8)) : Prop :=
  (∃ a c, v = .slice a 0 c ∧ (a = none → c = 0) ∧ L = []) ∨ ∃ b o c, v = .slice (some ⟨b, o, none⟩) L.length c ∧ L.length ≤ c ∧ b < w.heap.size ∧ ∀ (j : Nat) l, L[j]? = some l → w.cell? ⟨b, o + j, none⟩ = some (strV l)
theorem RdL.form {w : World} {v : Value} {L : List (List UInt8)} (h : RdL w v L) : ∃ a c, v = .slice a L.length c := by
  rcases h with ⟨a, c, rfl, ha, rfl⟩ | ⟨b, o, c, rfl, _⟩
  · exact ⟨a, c, rfl⟩
  · exact ⟨_, _, rfl⟩
theorem RdL.at {w : World} {v : Value} {L : List (List UInt8)} (h : RdL w v L) {k : Nat} {l : List UInt8} (hs : L[k]? = some l) : ∃ b o c, v = .slice (some ⟨b, o, none⟩) L.length c ∧ w.cell? ⟨b, o + k, none⟩ = some (strV l) := by
  rcases h with ⟨a, c, rfl, ha, rfl⟩ | ⟨b, o, c, rfl, _, _, hc⟩
  · simp at hs
  · exact ⟨b, o, c, rfl, hc k l hs⟩
theorem RdL.lt {w : World} {v : Value} {L : List (List UInt8)} (h : RdL w v L) (hL : L ≠ []) : ∀ b, v.ownBlock = some b → b < w.heap.size := by
  rcases h with ⟨a, c, rfl, ha, rfl⟩ | ⟨b, o, c, rfl, _, h, _⟩
  · exact absurd rfl hL
  · intro b2 hb
    obtain rfl : b = b2 := by simpa [Value.ownBlock] using hb
    exact h
theorem RdL.frmS {S : List Nat} {w w' : World} {v : Value} {L : List (List UInt8)} (h : RdL w v L) (hf : Frm S w w') (hS : L ≠ [] → ∀ b ∈ S, v.ownBlock ≠ some b) : RdL w' v L := by
  rcases h with h | ⟨b, o, c, h1, h2, h3, h4⟩
  · exact .inl h
  · refine .inr ⟨b, o, c, h1, h2, Nat.lt_of_lt_of_le h3 hf.size, fun j s hs => hf.cell (h4 j s hs) (fun hm => hS (fun e => by rw [e] at hs; simp at hs) b hm (by rw [h1]; rfl))⟩
theorem RdL.frm {w w' : World} {v : Value} {L : List (List UInt8)} (h : RdL w v L) (hf : Frm [] w w') : RdL w' v L := h.frmS hf (by simp)
theorem rdL_nil (w : World) : RdL w (.slice none 0 0) [] := .inl ⟨none, 0, rfl, fun _ => rfl, rfl⟩
theorem rdL_row {W : World} {base : Nat} {u : Value} {L : List (List UInt8)} (h : W.ownsRow base 9 1 u L.length (L.map strV)) : RdL W u L := by
  rcases h.2 with ⟨rfl, h0⟩ | ⟨g, cap, cur, rfl, h1, h2, h3, h4, h5, h6⟩
  · exact .inl ⟨none, 0, rfl, fun _ => rfl, List.eq_nil_of_length_eq_zero h0⟩
  · refine .inr ⟨g, 0, cap, rfl, h3, lt_of_heap h2, fun j l hl => ?_⟩
    have := h.cells (g := g) rfl j (strV l) (by rw [List.getElem?_map, hl]; rfl)
    rwa [addr_add] at this
/-- A slice of texts just made. -/
theorem rdL_lit (w : World) (T : TypeId) (L : List (List UInt8)) (cs : Array Value) (c : Nat) (h : cs.toList = L.map strV) (hc : L.length ≤ c) (fz : Nat × Nat) : RdL (w.alloc (.cells cs T fz)) (.slice (some ⟨w.heap.size, 0, none⟩) L.length c) L := by
  refine .inr ⟨_, _, _, rfl, hc, by simp, fun j l hl => ?_⟩
  rw [Nat.zero_add]
  exact cell_of_heap (heap_alloc_at w _) (by rw [← Array.getElem?_toList, h, List.getElem?_map, hl]; rfl)
theorem RdL.rd {w : World} {v : Value} {L : List (List UInt8)} (h : RdL w v L) (hL : L ≠ []) : Rd w v L.length (L.map strV) := by
  rcases h with ⟨a, c, rfl, ha, rfl⟩ | ⟨b, o, c, rfl, _, _, hc⟩
  · exact absurd rfl hL
  · refine .inr ⟨_, _, rfl, fun j u hj => ?_⟩
    rw [addr_add]
    rw [List.getElem?_map] at hj
    cases hl : L[j]? with
    | none => rw [hl] at hj; cases hj
    | some l =>
      rw [hl] at hj
      obtain rfl := Option.some.inj hj
      exact hc j l hl
theorem mk_back (L : List (List UInt8)) : (L.map fun l => (⟨l.toArray⟩ : ByteArray)).map (·.data.toList) = L := by
  rw [List.map_map]
  conv => rhs; rw [← List.map_id L]
  apply List.map_congr_left
  intro l _
  rfl

/-! ### Parts -/
set_option maxRecDepth 100000 in
theorem rdL_cut {W : World} {v : Value} {L : List (List UInt8)} (h : RdL W v L) {i j : Nat} (h1 : i ≤ j) (h2 : j ≤ L.length) :
    ∃ u, (Instr.slice 22 v (some (.int .i64 (i : Int))) (some (.int .i64 (j : Int))) none).run Tryz.prog W = .ok u W ∧ RdL W u ((L.take j).drop i) ∧ ∀ b, u.ownBlock = some b → v.ownBlock = some b := by
  have hs : (sizeOf (Tryz.prog.elem 22)).run Tryz.prog W = .ok 1 W := by kernel_rfl
  have hlen : ((L.take j).drop i).length = j - i := by rw [List.length_drop, List.length_take]; omega
  rcases h with ⟨a, c, rfl, ha, rfl⟩ | ⟨b, o, c, rfl, hc, hb, hcell⟩
  · obtain rfl : j = 0 := by simpa using h2
    obtain rfl : i = 0 := by omega
    refine ⟨.slice a 0 c, ?_, .inl ⟨a, c, rfl, ha, rfl⟩, fun b hb => hb⟩
    rw [run_slice_lh W 22 a 0 c Tryz.underlying22 .i64 .i64 _ _ (by omega) (by omega) (by omega), hs]
    cases a with
    | none => simp [Result.andThen, sliced]
    | some x => simp [Result.andThen, sliced, Addr.add]
  · have hrun : (Instr.slice 22 (.slice (some ⟨b, o, none⟩) L.length c) (some (.int .i64 (i : Int))) (some (.int .i64 (j : Int))) none).run Tryz.prog W = .ok (.slice (some (if c = i then ⟨b, o, none⟩ else ⟨b, o + i, none⟩)) (j - i) (c - i)) W := by
      rw [run_slice_lh W 22 _ L.length c Tryz.underlying22 .i64 .i64 _ _ (by omega) (by omega) (by omega), hs]
      by_cases he : c = i
      · simp [Result.andThen, sliced, he]
      · simp [Result.andThen, sliced, he, addr_add]
    refine ⟨_, hrun, ?_, fun q hq => ?_⟩
    · by_cases he : i = j
      · subst he
        exact .inl ⟨_, _, by rw [Nat.sub_self], fun h => (by split at h <;> cases h), List.eq_nil_of_length_eq_zero (by rw [hlen]; omega)⟩
      · refine .inr ⟨b, o + i, c - i, by rw [hlen, if_neg (by omega)], by rw [hlen]; omega, hb, fun k l hl => ?_⟩
        rw [Nat.add_assoc]
        refine hcell (i + k) l ?_
        have hk : k < j - i := by
          have := (List.getElem?_eq_some_iff.1 hl).1
          rwa [hlen] at this
        rw [List.getElem?_drop, List.getElem?_take_of_lt (by omega)] at hl
        exact hl
    · have : b = q := by
        by_cases he : c = i
        · simpa [Value.ownBlock, he] using hq
        · simpa [Value.ownBlock, he] using hq
      rw [this]
      rfl
set_option maxRecDepth 100000 in
theorem rdL_cut_lo {W : World} {v : Value} {L : List (List UInt8)} (h : RdL W v L) {i : Nat} (h1 : i ≤ L.length) :
    ∃ u, (Instr.slice 22 v (some (.int .i64 (i : Int))) none none).run Tryz.prog W = .ok u W ∧ RdL W u (L.drop i) ∧ ∀ b, u.ownBlock = some b → v.ownBlock = some b := by
  obtain ⟨u, e1, e2, e3⟩ := rdL_cut h h1 (Nat.le_refl _)
  refine ⟨u, ?_, by rwa [List.take_length] at e2, e3⟩
  rw [← e1]
  obtain ⟨a, c, rfl⟩ := h.form
  have hlc : L.length ≤ c := by
    rcases h with ⟨a', c', e, -, rfl⟩ | ⟨b, o, c', e, hc, _⟩
    · simp
    · obtain ⟨-, e⟩ : True ∧ c = c' := by
        injection e with _ _ e
        exact ⟨trivial, e⟩
      rw [e]; exact hc
  rw [run_slice_l W 22 a L.length c Tryz.underlying22 .i64 (i : Int) (by omega) (by omega),
    run_slice_lh W 22 a L.length c Tryz.underlying22 .i64 .i64 (i : Int) (L.length : Int) (by omega) (by omega) (by omega)]
  rfl
set_option maxRecDepth 100000 in
theorem rdL_cut_hi {W : World} {v : Value} {L : List (List UInt8)} (h : RdL W v L) {j : Nat} (h1 : j ≤ L.length) :
    ∃ u, (Instr.slice 22 v none (some (.int .i64 (j : Int))) none).run Tryz.prog W = .ok u W ∧ RdL W u (L.take j) ∧ ∀ b, u.ownBlock = some b → v.ownBlock = some b := by
  obtain ⟨u, e1, e2, e3⟩ := rdL_cut h (Nat.zero_le j) h1
  refine ⟨u, ?_, by rwa [List.drop_zero] at e2, e3⟩
  rw [← e1]
  obtain ⟨a, c, rfl⟩ := h.form
  have hlc : L.length ≤ c := by
    rcases h with ⟨a', c', e, -, rfl⟩ | ⟨b, o, c', e, hc, _⟩
    · simp
    · obtain ⟨-, e⟩ : True ∧ c = c' := by
        injection e with _ _ e
        exact ⟨trivial, e⟩
      rw [e]; exact hc
  rw [run_slice_h W 22 a L.length c Tryz.underlying22 .i64 (j : Int) (by omega) (by omega),
    run_slice_lh W 22 a L.length c Tryz.underlying22 .i64 .i64 ((0 : Nat) : Int) (j : Int) (by omega) (by omega) (by omega)]
  rfl

theorem RdL.rd0 {w : World} {v : Value} {L : List (List UInt8)} (h : RdL w v L) : Rd w v L.length (L.map strV) := by
  by_cases hL : L = []
  · rcases h with ⟨a, c, rfl, ha, rfl⟩ | ⟨b, o, c, rfl, _, _, hc⟩
    · cases a with
      | none =>
        obtain rfl := ha rfl
        exact .inl ⟨rfl, rfl, rfl⟩
      | some x => exact .inr ⟨x, c, rfl, fun j u hj => by simp at hj⟩
    · subst hL
      exact .inr ⟨_, _, rfl, fun j u hj => by simp at hj⟩
  · exact h.rd hL
set_option maxRecDepth 100000 in
/-- append of texts to a row of one's own. -/
theorem appS (w : World) (base : Nat) (v : Value) (L1 : List (List UInt8)) (hown : w.ownsRow base 9 1 v L1.length (L1.map strV)) (v2 : Value) (L2 : List (List UInt8)) (h2 : RdL w v2 L2) (hl : L1.length + L2.length ≤ 8796093022208) (hb : base ≤ w.heap.size) :
    ∃ v' w', (Builtin.append_ #[22, 22] 22 #[v, v2]).run Tryz.prog w = .ok v' w' ∧ w'.ownsRow base 9 1 v' (L1 ++ L2).length ((L1 ++ L2).map strV) ∧ Frm v.ownBlock.toList w w' := by
  obtain ⟨i0, hi, hz0, hz1, hz2⟩ := info_parts (show (Tryz.prog.info? 9).map (fun i => (i.zero, i.size, i.bytes)) = some (some (.string ByteArray.empty), 1, 16) by kernel_rfl)
  obtain ⟨v', w', h1, h3, h4, -⟩ := run_append_row (P := Tryz.prog) w base 22 22 9 i0 (.string ByteArray.empty) 1 16 Tryz.underlying22 hi hz0 hz1 hz2 rfl (by decide) v L1.length (L1.map strV) hown v2 L2.length (L2.map strV) h2.rd0 (by simp) (fun u hu => by obtain ⟨b, _, rfl⟩ := List.mem_map.1 hu; rfl) (by unfold maxLen; omega) (by omega) hb
  exact ⟨v', w', h1, by rw [List.length_append, List.map_append]; exact h3, h4⟩

/-! ### The library -/
/-- The library's own number is a number. -/
def MaxLenIs (w : World) : Prop := ∃ m : Int, w.cell? ⟨0, 0, none⟩ = some (.int .i64 m)
theorem MaxLenIs.frm {w w' : World} (h : MaxLenIs w) (hf : Frm [] w w') : MaxLenIs w' := h.imp fun _ hm => hf.cell hm (by simp)
theorem strJoin (w : World) (v : Value) (L : List (List UInt8)) (h : RdL w v L) (hN : L.length ≤ 140737488355328) (hl : (Lib.join L [10]).length ≤ 140737488355328) :
    Calls Tryz.prog 27 #[v, .string ⟨#[10]⟩] w fun e w' => e = .returned (.string ⟨(Lib.join L [10]).toArray⟩) ∧ Frm [] w w' := by
  rcases h with ⟨a, c, rfl, ha, rfl⟩ | ⟨b, o, c, rfl, hc, hb, hcell⟩
  · refine (Tryz.strings_Join_none a c ⟨#[10]⟩ w).mono ?_
    rintro e w' ⟨rfl, rfl⟩
    exact ⟨rfl, Frm.refl _ _⟩
  · have := Tryz.strings_Join b o c (L.map fun l => ⟨l.toArray⟩) ⟨#[10]⟩ w (fun j x hx => (by
      rw [List.getElem?_map] at hx
      cases hl : L[j]? with
      | none => rw [hl] at hx; cases hx
      | some l =>
        rw [hl] at hx
        obtain rfl := Option.some.inj hx
        exact hcell j l hl)) hb (by rw [List.length_map]; exact hN) (by rw [List.length_map]; exact hc) (by rw [mk_back]; exact hl)
    rw [List.length_map, mk_back] at this
    refine this.mono ?_
    rintro e w' ⟨rfl, hbl⟩
    exact ⟨rfl, Frm.ofBelow hbl⟩
theorem splitB_cutL (T : List UInt8) : Lib.splitB ⟨#[10]⟩ 0 (Lib.countB ⟨T.toArray⟩ ⟨#[10]⟩) ⟨T.toArray⟩ = (cutL T).map fun l => ⟨l.toArray⟩ := by
  have h := Lib.splitB_data ⟨#[10]⟩ 0 (Lib.countB ⟨T.toArray⟩ ⟨#[10]⟩) ⟨T.toArray⟩
  have h2 : Lib.splitK (⟨#[10]⟩ : ByteArray).data.toList 0 (Lib.countB ⟨T.toArray⟩ ⟨#[10]⟩) (⟨T.toArray⟩ : ByteArray).data.toList = cutL T := splitK_cutL T
  rw [h2] at h
  rw [← h, List.map_map]
  conv => lhs; rw [← List.map_id (Lib.splitB _ _ _ _)]
  apply List.map_congr_left
  intro s _
  rfl
theorem strSplit (w : World) (T : List UInt8) (hm : MaxLenIs w) (hl : T.length ≤ 1000000000) :
    Calls Tryz.prog 35 #[.string ⟨T.toArray⟩, .string ⟨#[10]⟩] w fun e w' => (∃ u, e = .returned u ∧ w'.ownsRow w.heap.size 9 1 u (cutL T).length ((cutL T).map strV)) ∧ Frm [] w w' := by
  obtain ⟨m, hm⟩ := hm
  refine (Tryz.strings_Split ⟨T.toArray⟩ ⟨#[10]⟩ m w (by show T.length < 4294967281; omega) hm (by decide)).mono ?_
  rintro e w' ⟨rfl, rfl⟩
  have hc : Lib.countB ⟨T.toArray⟩ ⟨#[10]⟩ + 1 = (cutL T).length := by
    have := congrArg List.length (splitB_cutL T)
    rw [Lib.splitB_all ⟨#[10]⟩ (by decide) 0 _ _ rfl, List.length_map] at this
    exact this
  rw [hc, splitB_cutL]
  refine ⟨⟨_, rfl, by simp, .inr ⟨_, _, _, rfl, Nat.le_refl _, heap_alloc_at w _, Nat.le_refl _, ?_, by simp, ?_⟩⟩, (Frm.refl _ _).alloc _⟩
  · have h1 := cutL_length T
    have h2 := List.count_le_length (a := (10 : UInt8)) (l := T)
    unfold maxLen
    omega
  · rw [List.map_map, Nat.mul_one, ← List.length_map (f := strV)]
    exact List.take_length
theorem strContains (w : World) (l : List UInt8) : Calls Tryz.prog 44 #[strV l, .string ⟨#[10]⟩] w fun e w' => e = .returned (.bool (decide ((10 : UInt8) ∈ l))) ∧ w' = w := by
  refine (Tryz.strings_Contains_one ⟨l.toArray⟩ 10 w).mono ?_
  rintro e w' ⟨rfl, rfl⟩
  refine ⟨?_, rfl⟩
  have : (0 ≤ Lib.indexByte (⟨l.toArray⟩ : ByteArray).data.toList 10) ↔ (10 : UInt8) ∈ l := by
    show 0 ≤ Lib.indexByte l 10 ↔ _
    constructor
    · intro h
      obtain ⟨o, ho⟩ := Int.eq_ofNat_of_zero_le h
      exact List.mem_of_getElem? (Lib.indexByte_some ho).1
    · intro h
      obtain ⟨k, hk⟩ := List.getElem?_of_mem h
      by_cases hp : 0 ≤ Lib.indexByte l 10
      · exact hp
      · have := Lib.indexByte_ge l 10
        exact absurd hk (Lib.indexByte_none (by omega) k)
  simp [this]

set_option maxRecDepth 100000 in
set_option maxHeartbeats 1600000 in
theorem hlpStrings (w : World) (v u : Value) (L : List (List UInt8)) (hv : RdL w v L) (hu : RdL w u L) (hl : L.length ≤ 140737488355328) :
    Calls Tryz.prog 15 #[v, u] w fun e w' => e = .returned (.bool true) ∧ Frm [] w w' := by
  obtain ⟨va, vc, rfl⟩ := hv.form
  obtain ⟨ua, uc, rfl⟩ := hu.form
  have HV := Lib.hid hv
  have HU := Lib.hid hu
  clear hv hu
  generalize hn : L.length = n at *
  have HN := Lib.hid hn
  clear hn
  go_enter Tryz.func15, Tryz.ntmps15
  go_wp2_with fail
  go_loopw [5] (fun i wr => ∃ k : Nat, k ≤ n ∧ i = .int .i64 (k : Int) ∧ Frm [] w wr) (fun i _ => n - (intOf i).toNat)
  case atStart => exact ⟨0, by omega, rfl, Frm.refl _ _⟩
  case round =>
    obtain ⟨k, hk, rfl, hf⟩ := hrel
    have HF := Lib.hid hf
    by_cases hlt : k < n
    · obtain ⟨s, hs⟩ : ∃ s, L[k]? = some s := ⟨L[k]'(by rw [HN.out]; exact hlt), List.getElem?_eq_getElem _⟩
      have h1 := (HV.out.frm hf)
      have h2 := (HU.out.frm hf)
      rw [← HN.out] at h1 h2
      obtain ⟨b1, o1, c1, e1, k1⟩ := h1.at hs
      obtain ⟨b2, o2, c2, e2, k2⟩ := h2.at hs
      obtain ⟨rfl, -, rfl⟩ : va = some ⟨b1, o1, none⟩ ∧ True ∧ vc = c1 := by simpa using e1
      obtain ⟨rfl, -, rfl⟩ : ua = some ⟨b2, o2, none⟩ ∧ True ∧ uc = c2 := by simpa using e2
      unfold strV at k1 k2
      clear h1 h2 e1 e2 hf hs
      go_wp2_with fail
      go_quiet (fail)
      go_wp2_with fail
      go_roundw
      case rel => exact ⟨k + 1, by omega, by go_num, HF.out.drewN _⟩
      case measure => simp [intOf]; omega
    · clear hf
      go_wp2_with fail
      go_ret
      exact ⟨rfl, HF.out⟩

end Go.Proofs.YtnajkjgjeiodmaaGreatDoor
