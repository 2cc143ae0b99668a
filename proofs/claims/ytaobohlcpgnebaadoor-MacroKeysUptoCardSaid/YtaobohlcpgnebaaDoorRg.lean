/-
  CONTRACT OF foolscapref32.RegOf: the lines that line feeds part. Conditions: fewer than a million keys.
-/
import Derived.Test.YtaobohlcpgnebaaDoorRk
import Derived.Test.YtaobohlcpgnebaaDoorBase6
import Derived.DataElems
namespace Go.Proofs.YtaobohlcpgnebaaDoor
open Go.RowKit
open Go.Proofs (Tryd.prog)

/-- A text as a value. -/
def strV (l : List UInt8) : Value := .string ⟨l.toArray⟩
theorem rdB_keep {S : List Nat} {A B : World} {u : Value} {l : List UInt8} (h : RdB A u l) (hf : Frm S A B) (hS : l ≠ [] → ∀ b ∈ S, u.ownBlock ≠ some b) : RdB B u l := by
  by_cases hl : l = []
  · subst hl
    rcases h with h | ⟨a, c, h1, _⟩
    · exact .inl h
    · exact .inr ⟨a, c, h1, fun j u hj => by simp at hj⟩
  · exact Rd.frm h hf (hS hl)
theorem add_block (a : Addr) (n : Nat) : (a.add n).block = a.block := by unfold Addr.add; split <;> rfl
set_option maxRecDepth 100000 in
/-- A part of a slice of bytes. -/
theorem rdB_cut {W : World} {a : Option Addr} {c : Nat} {K : List UInt8} {fr p : Nat} (h : RdB W (.slice a K.length c) K) (hc : K.length ≤ c) (h1 : fr ≤ p) (h2 : p ≤ K.length) :
    ∃ u, (Instr.slice 22 (.slice a K.length c) (some (.int .i64 (fr : Int))) (some (.int .i64 (p : Int))) none).run Tryd.prog W = .ok u W ∧ RdB W u ((K.take p).drop fr) ∧ ((K.take p).drop fr ≠ [] → (∀ b, u.ownBlock = some b → (Value.slice a K.length c).ownBlock = some b) ∧ K ≠ []) := by
  have hlen : ((K.take p).drop fr).length = p - fr := by rw [List.length_drop, List.length_take]; omega
  have hrun : (Instr.slice 22 (.slice a K.length c) (some (.int .i64 (fr : Int))) (some (.int .i64 (p : Int))) none).run Tryd.prog W = .ok (.slice (if c = fr then a else a.map (·.add fr)) (p - fr) (c - fr)) W := by
    rw [run_slice_lh W 22 a K.length c Tryd.underlying22 .i64 .i64 (fr : Int) (p : Int) (by omega) (by omega) (by omega)]
    have hs : (sizeOf (Tryd.prog.elem 22)).run Tryd.prog W = .ok 1 W := by kernel_rfl
    rw [hs]
    simp [Result.andThen, sliced]
  refine ⟨_, hrun, ?_, fun hne => ?_⟩
  · by_cases he : p = fr
    · subst he
      have h0 : (K.take p).drop p = [] := List.eq_nil_of_length_eq_zero (by rw [hlen]; omega)
      rw [h0]
      cases a with
      | none =>
        rcases h with ⟨e, _, _⟩ | ⟨a, c', e, _⟩
        · obtain ⟨e1, e2⟩ : K.length = 0 ∧ c = 0 := by simpa using e
          refine .inl ⟨?_, rfl, rfl⟩
          rw [Nat.sub_self, show c - p = 0 by omega]
          simp
        · cases e
      | some x =>
        refine .inr ⟨if c = p then x else x.add p, c - p, ?_, fun j u hj => by simp at hj⟩
        rw [Nat.sub_self]
        split <;> rfl
    · rcases h with ⟨_, e, _⟩ | ⟨x, c', e, hcell⟩
      · omega
      · obtain ⟨rfl, -, rfl⟩ : a = some x ∧ True ∧ c = c' := by simpa using e
        refine .inr ⟨x.add fr, c - fr, ?_, fun j u hj => ?_⟩
        · rw [hlen, if_neg (by omega)]
          rfl
        · rw [Addr.add_add]
          have hj2 : j < p - fr := by
            have := (List.getElem?_eq_some_iff.1 hj).1
            rwa [List.length_map, hlen] at this
          refine hcell (fr + j) u ?_
          rw [← hj, List.getElem?_map, List.getElem?_map, List.getElem?_drop, List.getElem?_take_of_lt (by omega)]
  · have hp : fr < p := by
      rcases Nat.lt_or_ge fr p with h | h
      · exact h
      · exact absurd (List.eq_nil_of_length_eq_zero (by rw [hlen]; omega)) hne
    refine ⟨fun b hb => ?_, fun e => by rw [e] at h2; simp at h2; omega⟩
    rw [if_neg (by omega)] at hb
    cases a with
    | none => simp [Value.ownBlock] at hb
    | some x =>
      simp only [Option.map_some, Value.ownBlock, add_block] at hb ⊢
      exact hb
theorem gs_frm {S : List Nat} {j k : Nat} {A B : World} (h : (if j = k then Frm S else Frm []) A B) : Frm S A B := by
  split at h
  · exact h
  · exact h.mono (by simp)
theorem gs_nil {S : List Nat} {j k : Nat} {A B : World} (h : (if j = k then Frm S else Frm []) A B) (hj : k ≠ j) : Frm [] A B := by
  rw [if_neg (fun e => hj e.symm)] at h
  exact h
theorem gs_g {S : List Nat} {k n : Nat} : ∀ (j : Nat) (A B : World), j < n → (if j = k then Frm S else Frm []) A B → Frm S A B := fun _ _ _ _ h => gs_frm h
theorem jStep {L : Nat → Bool} {i k : Nat} {base e size m : Nat} {lv : Value} {cs : List Value} {A B : World} (hJ : L k = false → A.ownsRow base e size lv m cs) (hi : i ≠ k) (hf : Frm [] A B) : more L i k = false → B.ownsRow base e size lv m cs := fun h => by
  rw [more_other _ (fun e => hi e.symm)] at h
  exact ownsRow_frm (hJ h) hf (by simp)
def rgR (N0 N B : Nat) (lv v : Value) (K : List UInt8) (fr p : Nat) (d : List (List UInt8)) : Nat → Value → World → Prop := fun q u w => (([(fun u _ => u = .pointer (some ⟨B, 1, none⟩)),
    (fun u _ => u = lv),
    (fun u _ => u = v),
    (fun u _ => u = .int .i64 (fr : Int)),
    (fun u _ => u = .int .i64 (p : Int)),
    (fun u X => RdB X u ((K.take p).drop fr) ∧ ((K.take p).drop fr ≠ [] → ∀ b, u.ownBlock = some b → b < N0)),
    (fun u _ => u = .string ⟨((K.take p).drop fr).toArray⟩),
    (fun u X => ∃ g, u = .slice (some ⟨g, 0, none⟩) 1 1 ∧ N ≤ g ∧ X.heap[g]? = some (.cells #[.string ⟨((K.take p).drop fr).toArray⟩] 9 (0, 0))),
    (fun u X => X.ownsRow N0 9 1 u (d.length + 1) (d.map strV ++ [.string ⟨((K.take p).drop fr).toArray⟩]) ∧ ∀ b, u.ownBlock = some b → lv.ownBlock = some b ∨ N ≤ b),
    (fun u _ => u = .pointer (some ⟨B, 1, none⟩))] : List (Value → World → Prop)).getD q fun _ _ => False) u w

theorem rg_end {K : List UInt8} {d : List (List UInt8)} {x : List UInt8} (h : cutL (K.take K.length) = d ++ [x]) : d ++ [x] = cutL K := by rw [← h, List.take_length]
theorem rg_lf {K : List UInt8} {p : Nat} {d : List (List UInt8)} {x : List UInt8} (hp : K[p]? = some 10) (h : cutL (K.take p) = d ++ [x]) : cutL (K.take (p + 1)) = d ++ [x] ++ [(K.take (p + 1)).drop (p + 1)] := by
  rw [List.take_add_one, hp]
  show cutL (K.take p ++ [10]) = _
  rw [cutL_snoc_lf, h]
  congr 2
  rw [List.drop_of_length_le]
  simp
  omega
theorem rg_more {K : List UInt8} {p fr : Nat} {c : UInt8} {d : List (List UInt8)} (hp : K[p]? = some c) (hc : c ≠ 10) (hfr : fr ≤ p) (h : cutL (K.take p) = d ++ [(K.take p).drop fr]) : cutL (K.take (p + 1)) = d ++ [(K.take (p + 1)).drop fr] := by
  have hlt := (List.getElem?_eq_some_iff.1 hp).1
  rw [List.take_add_one, hp]
  show cutL (K.take p ++ [c]) = _
  rw [cutL_snoc hc _ _ _ h]
  show _ = d ++ [(K.take p ++ [c]).drop fr]
  rw [List.drop_append_of_le_length (by rw [List.length_take]; omega)]
theorem rdS_of_row {W : World} {base : Nat} {u : Value} {d : List (List UInt8)} (h : W.ownsRow base 9 1 u d.length (d.map strV)) : RdS W u (d.map fun l => ⟨l.toArray⟩) := by
  rcases h.2 with ⟨rfl, h0⟩ | ⟨g, cap, cur, rfl, h1, h2, h3, h4, h5, h6⟩
  · exact .inl ⟨none, 0, rfl, by rw [List.eq_nil_of_length_eq_zero h0]; rfl⟩
  · refine .inr ⟨g, 0, cap, by rw [List.length_map], by rw [List.length_map]; exact h3, lt_of_heap h2, fun j s hs => ?_⟩
    have := h.cells (g := g) rfl j (.string s) (by
      rw [List.getElem?_map] at hs ⊢
      cases hj : d[j]? with
      | none => rw [hj] at hs; cases hs
      | some l =>
        rw [hj] at hs
        obtain rfl := Option.some.inj hs
        rfl)
    rwa [addr_add] at this
/-- Between two rounds: the lines ahead of the byte p are done, but for the last one's begin. -/
def RgS (w : World) (a : Option Addr) (c : Nat) (K : List UInt8) (p fr : Nat) (d : List (List UInt8)) (lv : Value) (wr : World) : Prop :=
  (p ≤ K.length ∧ fr ≤ p ∧ cutL (K.take p) = d ++ [(K.take p).drop fr] ∨ p = K.length + 1 ∧ fr = p ∧ d = cutL K) ∧ d.length ≤ p ∧ wr.heap[w.heap.size + 1]? = some (.cells #[.int .i64 0, lv] 42 (0, 0)) ∧ wr.heap[w.heap.size]? = some (.cells #[.int .i64 0, .slice none 0 0] 42 (0, 0)) ∧
    wr.ownsRow (w.heap.size + 2) 9 1 lv d.length (d.map strV) ∧ Frm [] w wr

set_option maxRecDepth 100000 in
set_option maxHeartbeats 6400000 in
theorem refRegOf (w : World) (a : Option Addr) (c : Nat) (K : List UInt8) (h : RdB w (.slice a K.length c) K) (hc : K.length ≤ c) (hl : K.length ≤ 1000000) :
    Calls Tryd.prog 32 #[.slice a K.length c] w fun e w' => (∃ u, e = .returned (.agg #[.int .i64 0, u]) ∧ RdS w' u (linesOf K)) ∧ Frm [] w w' := by
  obtain ⟨i0, hi0, hz0, hz1, hz2⟩ := info_parts (show (Tryd.prog.info? 9).map (fun i => (i.zero, i.size, i.bytes)) = some (some (.string ByteArray.empty), 1, 16) by kernel_rfl)
  have HI := Lib.hid (And.intro hz0 (And.intro hz1 hz2))
  have hvl : K ≠ [] → ∀ b, (Value.slice a K.length c).ownBlock = some b → b < w.heap.size + 2 := fun hne b hb => Nat.lt_of_lt_of_le (h.lt hne b hb) (by omega)
  have HVL := Lib.hid hvl
  have HKK := Lib.hid h
  clear hz0 hz1 hz2 hvl h
  go_enter Tryd.func32, Tryd.ntmps32
  go_wp2_with fail
  go_loopw [4, 5] (fun f i wr => ∃ (p fr : Nat) (d : List (List UInt8)) (lv : Value), i = .int .i64 (p : Int) ∧ f = .int .i64 (fr : Int) ∧ RgS w a c K p fr d lv wr) (fun _ i _ => K.length + 1 - (intOf i).toNat)
  case atStart => 
    refine ⟨0, 0, [], .slice none 0 0, rfl, rfl, .inl ⟨by omega, by omega, rfl⟩, by simp, ?_, ?_, ⟨rfl, .inl ⟨rfl, rfl⟩⟩, ?_⟩
    · have := heap_alloc_at (w.alloc (.cells #[.int .i64 0, .slice none 0 0] 42)) (.cells #[.int .i64 0, .slice none 0 0] 42)
      simpa using this
    · exact (heap_alloc_below _ (by simp)).trans (heap_alloc_at w _)
    · exact ((Frm.refl _ _).alloc _).alloc _
  case round =>
    obtain ⟨p, fr, d, lv, rfl, rfl, hst, hdp, hB, hA, hown, hf⟩ := hrel
    have HB := Lib.hid hB
    have HA := Lib.hid hA
    have HOWN := Lib.hid hown
    have HF := Lib.hid hf
    have HST := Lib.hid hst
    have HK := Lib.hid (HKK.out.frm hf)
    have hws := HF.out.size
    have hN0 : w.heap.size + 2 ≤ wr.heap.size := by
      have := lt_of_heap hB
      omega
    have HLV := Lib.hid (show ∀ b, lv.ownBlock = some b → w.heap.size + 2 ≤ b ∧ b < wr.heap.size from fun b hb => by
      rcases hown.2 with ⟨e, _⟩ | ⟨g, c2, cur, e, h1, h2, _⟩
      · rw [e] at hb; simp [Value.ownBlock] at hb
      · rw [e] at hb
        obtain rfl : g = b := by simpa [Value.ownBlock] using hb
        exact ⟨h1, lt_of_heap h2⟩)
    clear hB hA hown hf hst
    by_cases hpl : p ≤ K.length
    · obtain ⟨hpK, hfr, hcu⟩ : p ≤ K.length ∧ fr ≤ p ∧ cutL (K.take p) = d ++ [(K.take p).drop fr] := by
        rcases HST.out with h | h
        · exact h
        · omega
      have HCU := Lib.hid hcu
      clear hcu
      by_cases hpe : p = K.length
      · have HEND := Lib.hid (show d ++ [(K.take p).drop fr] = cutL K by rw [← HCU.out, hpe, List.take_length])
        have ht : ((p : Int) == (K.length : Int)) = true := by rw [hpe]; simp
        go_wp2_with fail
        have hC1 := cell_of_heap (i := 1) HB.out rfl
        have hBl : w.heap.size + 1 ∉ lv.ownBlock.toList := fun hm => by
          have := (HLV.out _ (by simpa using hm)).1
          omega
        have hAl : w.heap.size ∉ lv.ownBlock.toList := fun hm => by
          have := (HLV.out _ (by simpa using hm)).1
          omega
        have hvb : K ≠ [] → ∀ b ∈ lv.ownBlock.toList, (Value.slice a K.length c).ownBlock ≠ some b := fun hne b hb e => by
          have h1 := HVL.out hne b e
          have h2 := (HLV.out b (by simpa using hb)).1
          omega
        have hJ0 : (fun _ : Nat => false) 8 = false → wr.drew.ownsRow (w.heap.size + 2) 9 1 lv d.length (d.map strV) := fun _ => ownsRow_frm HOWN.out ((Frm.refl [] wr).drew) (by simp)
        refine (wpIn_wide (n := 3)).1 ?_
        refine wpIn_region_joint (size := 37) wide_wide 10 (rgR (w.heap.size + 2) wr.heap.size (w.heap.size + 1) lv (.slice a K.length c) K fr p d) (Frm lv.ownBlock.toList) (fun j => if j = 8 then Frm lv.ownBlock.toList else Frm []) (fun L W => L 8 = false → W.ownsRow (w.heap.size + 2) 9 1 lv d.length (d.map strV)) mixed (by kernel_rfl) (by kernel_rfl) (by decide) (by kernel_rfl) (by kernel_rfl) (by kernel_rfl) (by kernel_rfl) rfl (fun h k => h.trans k (fun b hb => .inl hb)) (Frm.refl _ _) gs_g ?hR hJ0 ?hgd ?hrun ?htail
        case hR =>
          intro qi qj qv A B hi hj hij h hf
          rcases (by omega : qi = 0 ∨ qi = 1 ∨ qi = 2 ∨ qi = 3 ∨ qi = 4 ∨ qi = 5 ∨ qi = 6 ∨ qi = 7 ∨ qi = 8 ∨ qi = 9) with rfl | rfl | rfl | rfl | rfl | rfl | rfl | rfl | rfl | rfl
          all_goals first
            | exact h
            | exact ⟨rdB_keep h.1 (gs_frm hf) (fun hne b hb => by
                have h1 := h.2 hne
                have h2 := HLV.out b (by simpa using hb)
                exact fun e => (by have := h1 b e; omega)), h.2⟩
            | (obtain ⟨q, h1, h2, h3⟩ := h
               exact ⟨q, h1, h2, (gs_frm hf).heap h3 (fun hm => by have := (HLV.out q (by simpa using hm)).2; omega)⟩)
            | exact ⟨ownsRow_frm h.1 (gs_nil hf hij) (by simp), h.2⟩
        case hgd =>
          intro qi qo qg qb hi ho hgo qv A hv
          rcases (by omega : qi = 0 ∨ qi = 1 ∨ qi = 2 ∨ qi = 3 ∨ qi = 4 ∨ qi = 5 ∨ qi = 6 ∨ qi = 7 ∨ qi = 8 ∨ qi = 9) with rfl | rfl | rfl | rfl | rfl | rfl | rfl | rfl | rfl | rfl
          all_goals obtain rfl := Option.some.inj ho
          all_goals first
            | (cases hgo; done)
            | (cases hgo; exact hv)
        case hrun =>
          intro qi hi qo ho qa w' L hG ht hLi hJ
          rcases (by omega : qi = 0 ∨ qi = 1 ∨ qi = 2 ∨ qi = 3 ∨ qi = 4 ∨ qi = 5 ∨ qi = 6 ∨ qi = 7 ∨ qi = 8 ∨ qi = 9) with rfl | rfl | rfl | rfl | rfl | rfl | rfl | rfl | rfl | rfl
          all_goals obtain rfl := Option.some.inj ho
          · have h0 := ht.free 3 (by kernel_rfl)
            exact .inl ⟨_, _, by simp [execOp, go_sem, Act.eval, h0]; first | rfl | exact ⟨rfl, rfl⟩, by exact rfl, by exact Frm.refl _ _, jStep hJ (by decide) (Frm.refl _ _)⟩
          · obtain ⟨v0, h0, e0⟩ := ht.dep 0 24 (by kernel_rfl) rfl
            obtain rfl : .pointer (some ⟨w.heap.size + 1, 1, none⟩) = v0 := Eq.symm e0
            have hcl := hG.cell hC1 hBl
            exact .inl ⟨_, _, by simp [execOp, go_sem, Act.eval, h0, hcl]; first | rfl | exact ⟨rfl, rfl⟩, by exact rfl, by exact Frm.refl _ _, jStep hJ (by decide) (Frm.refl _ _)⟩
          · have h0 := ht.free 0 (by kernel_rfl)
            exact .inl ⟨_, _, by simp [execOp, go_sem, Act.eval, h0]; first | rfl | exact ⟨rfl, rfl⟩, by exact rfl, by exact Frm.refl _ _, jStep hJ (by decide) (Frm.refl _ _)⟩
          · have h0 := ht.free 4 (by kernel_rfl)
            exact .inl ⟨_, _, by simp [execOp, go_sem, Act.eval, h0]; first | rfl | exact ⟨rfl, rfl⟩, by exact rfl, by exact Frm.refl _ _, jStep hJ (by decide) (Frm.refl _ _)⟩
          · have h0 := ht.free 5 (by kernel_rfl)
            exact .inl ⟨_, _, by simp [execOp, go_sem, Act.eval, h0]; first | rfl | exact ⟨rfl, rfl⟩, by exact rfl, by exact Frm.refl _ _, jStep hJ (by decide) (Frm.refl _ _)⟩
          · obtain ⟨v0, h0, e0⟩ := ht.dep 2 26 (by kernel_rfl) rfl
            obtain rfl : .slice a K.length c = v0 := Eq.symm e0
            obtain ⟨v1, h1, e1⟩ := ht.dep 3 27 (by kernel_rfl) rfl
            obtain rfl : .int .i64 (fr : Int) = v1 := Eq.symm e1
            obtain ⟨v2, h2, e2⟩ := ht.dep 4 28 (by kernel_rfl) rfl
            obtain rfl : .int .i64 (p : Int) = v2 := Eq.symm e2
            obtain ⟨u5, hrun5, hr5, hb5⟩ := rdB_cut (rdB_keep HK.out hG.ofDrew hvb) hc hfr hpK
            exact .inl ⟨u5, _, by simp [execOp, go_sem, Act.eval, h0, h1, h2, hrun5], ⟨hr5, fun hne b hb => HVL.out (hb5 hne).2 b ((hb5 hne).1 b hb)⟩, Frm.refl _ _, jStep hJ (by decide) (Frm.refl _ _)⟩
          · obtain ⟨v0, h0, e0⟩ := ht.dep 5 29 (by kernel_rfl) rfl
            replace e0 : (fun u X => RdB X u ((K.take p).drop fr) ∧ ((K.take p).drop fr ≠ [] → ∀ b, u.ownBlock = some b → b < (w.heap.size + 2))) v0 w' := e0
            have hcv := e0.1.convert
            exact .inl ⟨_, _, by simp [execOp, go_sem, Act.eval, h0, hcv]; rfl, by exact rfl, Frm.refl _ _, jStep hJ (by decide) (Frm.refl _ _)⟩
          · obtain ⟨v0, h0, e0⟩ := ht.dep 6 30 (by kernel_rfl) rfl
            obtain rfl : .string ⟨((K.take p).drop fr).toArray⟩ = v0 := Eq.symm e0
            exact .inl ⟨_, _, by simp [execOp, go_sem, Act.eval, h0]; rfl, ⟨_, rfl, hG.size, by simpa using heap_alloc_at w' _⟩, (Frm.refl _ _).alloc _, jStep hJ (by decide) ((Frm.refl _ _).alloc _)⟩
          · obtain ⟨v0, h0, e0⟩ := ht.dep 1 25 (by kernel_rfl) rfl
            obtain rfl : lv = v0 := Eq.symm e0
            obtain ⟨v1, h1, e1⟩ := ht.dep 7 31 (by kernel_rfl) rfl
            replace e1 : (fun u X => ∃ g, u = .slice (some ⟨g, 0, none⟩) 1 1 ∧ wr.heap.size ≤ g ∧ X.heap[g]? = some (.cells #[.string ⟨((K.take p).drop fr).toArray⟩] 9 (0, 0))) v1 w' := e1
            obtain ⟨g, hg, hgN, hgc⟩ := e1
            subst hg
            have hrow := hJ hLi
            obtain ⟨v', w2, hr, h2, h3, h4, -⟩ := run_append_row (P := Tryd.prog) w' (w.heap.size + 2) 28 28 9 i0 (.string ByteArray.empty) 1 16 Tryd.underlying28 hi0 HI.out.1 HI.out.2.1 HI.out.2.2 rfl (by decide) lv d.length (d.map strV) hrow (.slice (some ⟨g, 0, none⟩) 1 1) 1 [.string ⟨((K.take p).drop fr).toArray⟩] (.inr ⟨_, _, rfl, fun j u hj => (by
              match j, hj with
              | 0, hj =>
                obtain rfl := Option.some.inj hj
                rw [addr_add]
                exact cell_of_heap (i := 0) hgc rfl)⟩) rfl (by simp [Value.oneCell']) (by unfold maxLen; omega) (by omega) (Nat.le_trans hN0 hG.size)
            exact .inl ⟨v', w2, by simp [execOp, resolve, invoke, builtin, Act.eval, h0, h1, hr, Result.andThen], ⟨h2, fun b hb => (h4 b hb).imp (fun e => e.symm) (fun e => by rw [e]; exact hG.size)⟩, h3, fun h => by rw [more_same] at h; cases h⟩
          · have h0 := ht.free 3 (by kernel_rfl)
            exact .inl ⟨_, _, by simp [execOp, go_sem, Act.eval, h0]; first | rfl | exact ⟨rfl, rfl⟩, by exact rfl, by exact Frm.refl _ _, jStep hJ (by decide) (Frm.refl _ _)⟩
        case htail =>
          intro a' w' L hde hsz hG hL hJ hall hfree
          obtain ⟨u5, k5, -⟩ := hall 5 _ 29 (by omega) rfl rfl
          obtain ⟨u7, k7, -⟩ := hall 7 _ 31 (by omega) rfl rfl
          obtain ⟨u8, k8, hrow8, hbl8⟩ := hall 8 _ 32 (by omega) rfl rfl
          obtain ⟨a8, c8, rfl⟩ : ∃ a8 c8, u8 = .slice a8 (d.length + 1) c8 := (by
            rcases hrow8.2 with ⟨_, h0⟩ | ⟨g, c2, cur, e, _⟩
            · omega
            · exact ⟨_, _, e⟩)
          obtain ⟨u0, k0, e0⟩ := hall 0 _ 24 (by omega) rfl rfl
          obtain rfl : .pointer (some ⟨w.heap.size + 1, 1, none⟩) = u0 := Eq.symm e0
          obtain ⟨u1, k1, e1⟩ := hall 1 _ 25 (by omega) rfl rfl
          obtain rfl : lv = u1 := Eq.symm e1
          obtain ⟨u2, k2, e2⟩ := hall 2 _ 26 (by omega) rfl rfl
          obtain rfl : .slice a K.length c = u2 := Eq.symm e2
          obtain ⟨u3, k3, e3⟩ := hall 3 _ 27 (by omega) rfl rfl
          obtain rfl : .int .i64 (fr : Int) = u3 := Eq.symm e3
          obtain ⟨u4, k4, e4⟩ := hall 4 _ 28 (by omega) rfl rfl
          obtain rfl : .int .i64 (p : Int) = u4 := Eq.symm e4
          obtain ⟨u6, k6, e6⟩ := hall 6 _ 30 (by omega) rfl rfl
          obtain rfl : .string ⟨((K.take p).drop fr).toArray⟩ = u6 := Eq.symm e6
          obtain ⟨u9, k9, e9⟩ := hall 9 _ 33 (by omega) rfl rfl
          obtain rfl : .pointer (some ⟨w.heap.size + 1, 1, none⟩) = u9 := Eq.symm e9
          obtain ⟨tm, df⟩ := a'
          simp only at hde hsz k0 k1 k2 k3 k4 k5 k6 k7 k8 k9 hfree
          have htm := tmps_of [(24, .pointer (some ⟨w.heap.size + 1, 1, none⟩)), (25, lv), (26, .slice a K.length c), (27, .int .i64 (fr : Int)), (28, .int .i64 (p : Int)), (29, u5), (30, .string ⟨((K.take p).drop fr).toArray⟩), (31, u7), (32, .slice a8 (d.length + 1) c8), (33, .pointer (some ⟨w.heap.size + 1, 1, none⟩))] _ (hsz.trans (show 37 = _ from rfl)) (by
            intro q hq
            simp only [List.mem_cons, List.not_mem_nil, or_false] at hq
            rcases hq with rfl | rfl | rfl | rfl | rfl | rfl | rfl | rfl | rfl | rfl
            all_goals assumption) (fun d hd => hfree d (fun j q hj hq => (by
              rcases (by omega : j = 0 ∨ j = 1 ∨ j = 2 ∨ j = 3 ∨ j = 4 ∨ j = 5 ∨ j = 6 ∨ j = 7 ∨ j = 8 ∨ j = 9) with rfl | rfl | rfl | rfl | rfl | rfl | rfl | rfl | rfl | rfl
              all_goals (obtain rfl := Option.some.inj hq; exact fun e => hd (by have e2 := Option.some.inj e; subst e2; simp)))))
          subst hde
          simp only [List.foldl_cons, List.foldl_nil, List.setIfInBounds_toArray, List.set_cons_succ, List.set_cons_zero] at htm
          subst htm
          have hBB := hG.heap (x := w.heap.size + 1) HB.out hBl
          have hAA := hG.heap (x := w.heap.size) HA.out hAl
          have hcz := cell_of_heap (i := 1) hBB rfl
          have hzz := frozen_of_heap 1 hBB
          have hset := heap_set_at (i := 1) (.slice a8 (d.length + 1) c8) hBB
          have hfs := (Frm.refl [w.heap.size + 1] w').setCell (p := ⟨w.heap.size + 1, 1, none⟩) (.inl (by simp)) (.slice a8 (d.length + 1) c8)
          have hne8 : ∀ b ∈ [w.heap.size + 1], (Value.slice a8 (d.length + 1) c8).ownBlock ≠ some b := fun b hb e => by
            obtain rfl : b = w.heap.size + 1 := by simpa using hb
            rcases hbl8 _ e with h | h
            · have := (HLV.out _ h).1
              omega
            · omega
          have HROW := Lib.hid (ownsRow_frm hrow8 hfs hne8)
          have HSET := Lib.hid hset
          have HAA := Lib.hid (hfs.heap hAA (by simp))
          have HFF := Lib.hid ((HF.out.trans hG.ofDrew (fun b hb => .inr (by have := (HLV.out b (by simpa using hb)).1; omega))).setCell (p := ⟨w.heap.size + 1, 1, none⟩) (.inr (by simp)) (.slice a8 (d.length + 1) c8))
          clear hrow8 hset hfs hAA hG hall hfree k0 k1 k2 k3 k4 k5 k6 k7 k8 k9 hJ hL hbl8 hne8 hBB
          gi_wp2_with fail
          go_wp2_with fail
          go_roundw
          case rel => exact ⟨p + 1, p + 1, d ++ [(K.take p).drop fr], _, by go_num, by go_num, .inr ⟨by omega, rfl, HEND.out⟩, by simp; omega, HSET.out, HAA.out, by simpa [strV] using HROW.out, HFF.out⟩
          case measure => simp [intOf]; omega
      · have hplt : p < K.length := by omega
        have ht : ((p : Int) == (K.length : Int)) = false := beq_eq_false_iff_ne.2 (by omega)
        rcases HK.out with ⟨_, h0, _⟩ | ⟨ad, cc, hva, hcell⟩
        · omega
        obtain ⟨rfl, -, rfl⟩ : a = some ad ∧ True ∧ c = cc := by simpa using hva
        have hkp : K[p]? = some K[p] := List.getElem?_eq_getElem hplt
        have hcp := hcell p (encB K[p]) (by rw [List.getElem?_map, hkp]; rfl)
        clear hva hcell
        simp only [encB] at hcp
        by_cases h10 : K[p] = 10
        · have HEND := Lib.hid (rg_lf (by rw [hkp, h10]) HCU.out)
          rw [h10] at hcp
          clear hkp h10
          have e10 : ((10 : UInt8).toNat : Int) = 10 := rfl
          rw [e10] at hcp
          go_wp2_with fail
          have hC1 := cell_of_heap (i := 1) HB.out rfl
          have hBl : w.heap.size + 1 ∉ lv.ownBlock.toList := fun hm => by
            have := (HLV.out _ (by simpa using hm)).1
            omega
          have hAl : w.heap.size ∉ lv.ownBlock.toList := fun hm => by
            have := (HLV.out _ (by simpa using hm)).1
            omega
          have hvb : K ≠ [] → ∀ b ∈ lv.ownBlock.toList, (Value.slice (some ad) K.length c).ownBlock ≠ some b := fun hne b hb e => by
            have h1 := HVL.out hne b e
            have h2 := (HLV.out b (by simpa using hb)).1
            omega
          have hJ0 : (fun _ : Nat => false) 8 = false → wr.drew.ownsRow (w.heap.size + 2) 9 1 lv d.length (d.map strV) := fun _ => ownsRow_frm HOWN.out ((Frm.refl [] wr).drew) (by simp)
          refine (wpIn_wide (n := 3)).1 ?_
          refine wpIn_region_joint (size := 37) wide_wide 10 (rgR (w.heap.size + 2) wr.heap.size (w.heap.size + 1) lv (.slice (some ad) K.length c) K fr p d) (Frm lv.ownBlock.toList) (fun j => if j = 8 then Frm lv.ownBlock.toList else Frm []) (fun L W => L 8 = false → W.ownsRow (w.heap.size + 2) 9 1 lv d.length (d.map strV)) mixed (by kernel_rfl) (by kernel_rfl) (by decide) (by kernel_rfl) (by kernel_rfl) (by kernel_rfl) (by kernel_rfl) rfl (fun h k => h.trans k (fun b hb => .inl hb)) (Frm.refl _ _) gs_g ?hR hJ0 ?hgd ?hrun ?htail
          case hR =>
            intro qi qj qv A B hi hj hij h hf
            rcases (by omega : qi = 0 ∨ qi = 1 ∨ qi = 2 ∨ qi = 3 ∨ qi = 4 ∨ qi = 5 ∨ qi = 6 ∨ qi = 7 ∨ qi = 8 ∨ qi = 9) with rfl | rfl | rfl | rfl | rfl | rfl | rfl | rfl | rfl | rfl
            all_goals first
              | exact h
              | exact ⟨rdB_keep h.1 (gs_frm hf) (fun hne b hb => by
                  have h1 := h.2 hne
                  have h2 := HLV.out b (by simpa using hb)
                  exact fun e => (by have := h1 b e; omega)), h.2⟩
              | (obtain ⟨q, h1, h2, h3⟩ := h
                 exact ⟨q, h1, h2, (gs_frm hf).heap h3 (fun hm => by have := (HLV.out q (by simpa using hm)).2; omega)⟩)
              | exact ⟨ownsRow_frm h.1 (gs_nil hf hij) (by simp), h.2⟩
          case hgd =>
            intro qi qo qg qb hi ho hgo qv A hv
            rcases (by omega : qi = 0 ∨ qi = 1 ∨ qi = 2 ∨ qi = 3 ∨ qi = 4 ∨ qi = 5 ∨ qi = 6 ∨ qi = 7 ∨ qi = 8 ∨ qi = 9) with rfl | rfl | rfl | rfl | rfl | rfl | rfl | rfl | rfl | rfl
            all_goals obtain rfl := Option.some.inj ho
            all_goals first
              | (cases hgo; done)
              | (cases hgo; exact hv)
          case hrun =>
            intro qi hi qo ho qa w' L hG ht hLi hJ
            rcases (by omega : qi = 0 ∨ qi = 1 ∨ qi = 2 ∨ qi = 3 ∨ qi = 4 ∨ qi = 5 ∨ qi = 6 ∨ qi = 7 ∨ qi = 8 ∨ qi = 9) with rfl | rfl | rfl | rfl | rfl | rfl | rfl | rfl | rfl | rfl
            all_goals obtain rfl := Option.some.inj ho
            · have h0 := ht.free 3 (by kernel_rfl)
              exact .inl ⟨_, _, by simp [execOp, go_sem, Act.eval, h0]; first | rfl | exact ⟨rfl, rfl⟩, by exact rfl, by exact Frm.refl _ _, jStep hJ (by decide) (Frm.refl _ _)⟩
            · obtain ⟨v0, h0, e0⟩ := ht.dep 0 24 (by kernel_rfl) rfl
              obtain rfl : .pointer (some ⟨w.heap.size + 1, 1, none⟩) = v0 := Eq.symm e0
              have hcl := hG.cell hC1 hBl
              exact .inl ⟨_, _, by simp [execOp, go_sem, Act.eval, h0, hcl]; first | rfl | exact ⟨rfl, rfl⟩, by exact rfl, by exact Frm.refl _ _, jStep hJ (by decide) (Frm.refl _ _)⟩
            · have h0 := ht.free 0 (by kernel_rfl)
              exact .inl ⟨_, _, by simp [execOp, go_sem, Act.eval, h0]; first | rfl | exact ⟨rfl, rfl⟩, by exact rfl, by exact Frm.refl _ _, jStep hJ (by decide) (Frm.refl _ _)⟩
            · have h0 := ht.free 4 (by kernel_rfl)
              exact .inl ⟨_, _, by simp [execOp, go_sem, Act.eval, h0]; first | rfl | exact ⟨rfl, rfl⟩, by exact rfl, by exact Frm.refl _ _, jStep hJ (by decide) (Frm.refl _ _)⟩
            · have h0 := ht.free 5 (by kernel_rfl)
              exact .inl ⟨_, _, by simp [execOp, go_sem, Act.eval, h0]; first | rfl | exact ⟨rfl, rfl⟩, by exact rfl, by exact Frm.refl _ _, jStep hJ (by decide) (Frm.refl _ _)⟩
            · obtain ⟨v0, h0, e0⟩ := ht.dep 2 26 (by kernel_rfl) rfl
              obtain rfl : .slice (some ad) K.length c = v0 := Eq.symm e0
              obtain ⟨v1, h1, e1⟩ := ht.dep 3 27 (by kernel_rfl) rfl
              obtain rfl : .int .i64 (fr : Int) = v1 := Eq.symm e1
              obtain ⟨v2, h2, e2⟩ := ht.dep 4 28 (by kernel_rfl) rfl
              obtain rfl : .int .i64 (p : Int) = v2 := Eq.symm e2
              obtain ⟨u5, hrun5, hr5, hb5⟩ := rdB_cut (rdB_keep HK.out hG.ofDrew hvb) hc hfr hpK
              exact .inl ⟨u5, _, by simp [execOp, go_sem, Act.eval, h0, h1, h2, hrun5], ⟨hr5, fun hne b hb => HVL.out (hb5 hne).2 b ((hb5 hne).1 b hb)⟩, Frm.refl _ _, jStep hJ (by decide) (Frm.refl _ _)⟩
            · obtain ⟨v0, h0, e0⟩ := ht.dep 5 29 (by kernel_rfl) rfl
              replace e0 : (fun u X => RdB X u ((K.take p).drop fr) ∧ ((K.take p).drop fr ≠ [] → ∀ b, u.ownBlock = some b → b < (w.heap.size + 2))) v0 w' := e0
              have hcv := e0.1.convert
              exact .inl ⟨_, _, by simp [execOp, go_sem, Act.eval, h0, hcv]; rfl, by exact rfl, Frm.refl _ _, jStep hJ (by decide) (Frm.refl _ _)⟩
            · obtain ⟨v0, h0, e0⟩ := ht.dep 6 30 (by kernel_rfl) rfl
              obtain rfl : .string ⟨((K.take p).drop fr).toArray⟩ = v0 := Eq.symm e0
              exact .inl ⟨_, _, by simp [execOp, go_sem, Act.eval, h0]; rfl, ⟨_, rfl, hG.size, by simpa using heap_alloc_at w' _⟩, (Frm.refl _ _).alloc _, jStep hJ (by decide) ((Frm.refl _ _).alloc _)⟩
            · obtain ⟨v0, h0, e0⟩ := ht.dep 1 25 (by kernel_rfl) rfl
              obtain rfl : lv = v0 := Eq.symm e0
              obtain ⟨v1, h1, e1⟩ := ht.dep 7 31 (by kernel_rfl) rfl
              replace e1 : (fun u X => ∃ g, u = .slice (some ⟨g, 0, none⟩) 1 1 ∧ wr.heap.size ≤ g ∧ X.heap[g]? = some (.cells #[.string ⟨((K.take p).drop fr).toArray⟩] 9 (0, 0))) v1 w' := e1
              obtain ⟨g, hg, hgN, hgc⟩ := e1
              subst hg
              have hrow := hJ hLi
              obtain ⟨v', w2, hr, h2, h3, h4, -⟩ := run_append_row (P := Tryd.prog) w' (w.heap.size + 2) 28 28 9 i0 (.string ByteArray.empty) 1 16 Tryd.underlying28 hi0 HI.out.1 HI.out.2.1 HI.out.2.2 rfl (by decide) lv d.length (d.map strV) hrow (.slice (some ⟨g, 0, none⟩) 1 1) 1 [.string ⟨((K.take p).drop fr).toArray⟩] (.inr ⟨_, _, rfl, fun j u hj => (by
                match j, hj with
                | 0, hj =>
                  obtain rfl := Option.some.inj hj
                  rw [addr_add]
                  exact cell_of_heap (i := 0) hgc rfl)⟩) rfl (by simp [Value.oneCell']) (by unfold maxLen; omega) (by omega) (Nat.le_trans hN0 hG.size)
              exact .inl ⟨v', w2, by simp [execOp, resolve, invoke, builtin, Act.eval, h0, h1, hr, Result.andThen], ⟨h2, fun b hb => (h4 b hb).imp (fun e => e.symm) (fun e => by rw [e]; exact hG.size)⟩, h3, fun h => by rw [more_same] at h; cases h⟩
            · have h0 := ht.free 3 (by kernel_rfl)
              exact .inl ⟨_, _, by simp [execOp, go_sem, Act.eval, h0]; first | rfl | exact ⟨rfl, rfl⟩, by exact rfl, by exact Frm.refl _ _, jStep hJ (by decide) (Frm.refl _ _)⟩
          case htail =>
            intro a' w' L hde hsz hG hL hJ hall hfree
            obtain ⟨u5, k5, -⟩ := hall 5 _ 29 (by omega) rfl rfl
            obtain ⟨u7, k7, -⟩ := hall 7 _ 31 (by omega) rfl rfl
            obtain ⟨u8, k8, hrow8, hbl8⟩ := hall 8 _ 32 (by omega) rfl rfl
            obtain ⟨a8, c8, rfl⟩ : ∃ a8 c8, u8 = .slice a8 (d.length + 1) c8 := (by
              rcases hrow8.2 with ⟨_, h0⟩ | ⟨g, c2, cur, e, _⟩
              · omega
              · exact ⟨_, _, e⟩)
            obtain ⟨u0, k0, e0⟩ := hall 0 _ 24 (by omega) rfl rfl
            obtain rfl : .pointer (some ⟨w.heap.size + 1, 1, none⟩) = u0 := Eq.symm e0
            obtain ⟨u1, k1, e1⟩ := hall 1 _ 25 (by omega) rfl rfl
            obtain rfl : lv = u1 := Eq.symm e1
            obtain ⟨u2, k2, e2⟩ := hall 2 _ 26 (by omega) rfl rfl
            obtain rfl : .slice (some ad) K.length c = u2 := Eq.symm e2
            obtain ⟨u3, k3, e3⟩ := hall 3 _ 27 (by omega) rfl rfl
            obtain rfl : .int .i64 (fr : Int) = u3 := Eq.symm e3
            obtain ⟨u4, k4, e4⟩ := hall 4 _ 28 (by omega) rfl rfl
            obtain rfl : .int .i64 (p : Int) = u4 := Eq.symm e4
            obtain ⟨u6, k6, e6⟩ := hall 6 _ 30 (by omega) rfl rfl
            obtain rfl : .string ⟨((K.take p).drop fr).toArray⟩ = u6 := Eq.symm e6
            obtain ⟨u9, k9, e9⟩ := hall 9 _ 33 (by omega) rfl rfl
            obtain rfl : .pointer (some ⟨w.heap.size + 1, 1, none⟩) = u9 := Eq.symm e9
            obtain ⟨tm, df⟩ := a'
            simp only at hde hsz k0 k1 k2 k3 k4 k5 k6 k7 k8 k9 hfree
            have htm := tmps_of [(24, .pointer (some ⟨w.heap.size + 1, 1, none⟩)), (25, lv), (26, .slice (some ad) K.length c), (27, .int .i64 (fr : Int)), (28, .int .i64 (p : Int)), (29, u5), (30, .string ⟨((K.take p).drop fr).toArray⟩), (31, u7), (32, .slice a8 (d.length + 1) c8), (33, .pointer (some ⟨w.heap.size + 1, 1, none⟩))] _ (hsz.trans (show 37 = _ from rfl)) (by
              intro q hq
              simp only [List.mem_cons, List.not_mem_nil, or_false] at hq
              rcases hq with rfl | rfl | rfl | rfl | rfl | rfl | rfl | rfl | rfl | rfl
              all_goals assumption) (fun d hd => hfree d (fun j q hj hq => (by
                rcases (by omega : j = 0 ∨ j = 1 ∨ j = 2 ∨ j = 3 ∨ j = 4 ∨ j = 5 ∨ j = 6 ∨ j = 7 ∨ j = 8 ∨ j = 9) with rfl | rfl | rfl | rfl | rfl | rfl | rfl | rfl | rfl | rfl
                all_goals (obtain rfl := Option.some.inj hq; exact fun e => hd (by have e2 := Option.some.inj e; subst e2; simp)))))
            subst hde
            simp only [List.foldl_cons, List.foldl_nil, List.setIfInBounds_toArray, List.set_cons_succ, List.set_cons_zero] at htm
            subst htm
            have hBB := hG.heap (x := w.heap.size + 1) HB.out hBl
            have hAA := hG.heap (x := w.heap.size) HA.out hAl
            have hcz := cell_of_heap (i := 1) hBB rfl
            have hzz := frozen_of_heap 1 hBB
            have hset := heap_set_at (i := 1) (.slice a8 (d.length + 1) c8) hBB
            have hfs := (Frm.refl [w.heap.size + 1] w').setCell (p := ⟨w.heap.size + 1, 1, none⟩) (.inl (by simp)) (.slice a8 (d.length + 1) c8)
            have hne8 : ∀ b ∈ [w.heap.size + 1], (Value.slice a8 (d.length + 1) c8).ownBlock ≠ some b := fun b hb e => by
              obtain rfl : b = w.heap.size + 1 := by simpa using hb
              rcases hbl8 _ e with h | h
              · have := (HLV.out _ h).1
                omega
              · omega
            have HROW := Lib.hid (ownsRow_frm hrow8 hfs hne8)
            have HSET := Lib.hid hset
            have HAA := Lib.hid (hfs.heap hAA (by simp))
            have HFF := Lib.hid ((HF.out.trans hG.ofDrew (fun b hb => .inr (by have := (HLV.out b (by simpa using hb)).1; omega))).setCell (p := ⟨w.heap.size + 1, 1, none⟩) (.inr (by simp)) (.slice a8 (d.length + 1) c8))
            clear hrow8 hset hfs hAA hG hall hfree k0 k1 k2 k3 k4 k5 k6 k7 k8 k9 hJ hL hbl8 hne8 hBB
            gi_wp2_with fail
            go_wp2_with fail
            go_roundw
            case rel => exact ⟨p + 1, p + 1, d ++ [(K.take p).drop fr], _, by go_num, by go_num, .inl ⟨by omega, by omega, HEND.out⟩, by simp; omega, HSET.out, HAA.out, by simpa [strV] using HROW.out, HFF.out⟩
            case measure => simp [intOf]; omega
        · have HEND := Lib.hid (rg_more hkp h10 hfr HCU.out)
          have ht2 : ((K[p].toNat : Int) == 10) = false := beq_eq_false_iff_ne.2 (fun e => h10 (by
            apply UInt8.toNat_inj.1
            have e2 : (10 : UInt8).toNat = 10 := rfl
            omega))
          generalize K[p].toNat = kp at *
          clear hkp h10
          go_wp2_with fail
          go_roundw
          case rel => exact ⟨p + 1, fr, d, lv, by go_num, rfl, .inl ⟨by omega, by omega, HEND.out⟩, by omega, HB.out, HA.out, HOWN.out, HF.out⟩
          case measure => simp [intOf]; omega
    · obtain ⟨hpe, -, hd⟩ : p = K.length + 1 ∧ fr = p ∧ d = cutL K := by
        rcases HST.out with h | h
        · omega
        · exact h
      have HD := Lib.hid hd
      obtain ⟨la, lc, rfl⟩ : ∃ la lc, lv = .slice la d.length lc := by
        rcases HOWN.out.2 with ⟨rfl, h0⟩ | ⟨g, c2, cur, rfl, _⟩
        · exact ⟨none, 0, by rw [h0]⟩
        · exact ⟨_, _, rfl⟩
      have hc0 := cell_of_heap (i := 0) HB.out rfl
      have hc1 := cell_of_heap (i := 1) HB.out rfl
      have ha0 := cell_of_heap (i := 0) HA.out rfl
      have ha1 := cell_of_heap (i := 1) HA.out rfl
      have hz0 := frozen_of_heap 0 HA.out
      have hz1 := frozen_of_heap 1 HA.out
      clear hd
      go_wp2_with fail
      have hs1 := heap_set_at (i := 0) (.int .i64 0) HA.out
      have hs2 := heap_set_at (i := 1) (.slice la d.length lc) hs1
      have hf2 := ((Frm.refl [w.heap.size] wr).setCell (p := ⟨w.heap.size, 0, none⟩) (.inl (by simp)) (.int .i64 0)).setCell (p := ⟨w.heap.size, 1, none⟩) (.inl (by simp)) (.slice la d.length lc)
      have hrow2 := ownsRow_frm HOWN.out hf2 (fun b hb e => (by
        obtain rfl : b = w.heap.size := by simpa using hb
        have := (HLV.out _ e).1
        omega))
      have hff := ((HF.out).setCell (p := ⟨w.heap.size, 0, none⟩) (.inr (Nat.le_refl _)) (.int .i64 0)).setCell (p := ⟨w.heap.size, 1, none⟩) (.inr (Nat.le_refl _)) (.slice la d.length lc)
      have q0 := cell_of_heap (i := 0) hs2 rfl
      have q1 := cell_of_heap (i := 1) hs2 rfl
      refine bodyPost_ret (v := .agg #[.int .i64 0, .slice la d.length lc]) ?hres rfl ?hend
      case hres => simp [results, go_sem, q0, q1]
      case hend =>
        refine ⟨⟨_, rfl, ?_⟩, hff⟩
        have := rdS_of_row hrow2
        rw [HD.out] at this
        rw [linesOf_eq]
        exact HD.out ▸ this

end Go.Proofs.YtaobohlcpgnebaaDoor
