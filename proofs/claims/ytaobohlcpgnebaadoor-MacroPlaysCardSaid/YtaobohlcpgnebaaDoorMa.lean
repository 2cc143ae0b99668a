/-
  macro.Stack BY WHAT IT MEANS: frames as keys, how often still, how far; between two calls each frame has a key to play. Conditions: at most a million keys and frames.
-/
import Derived.Test.YtaobohlcpgnebaaDoorMn
namespace Go.Proofs.YtaobohlcpgnebaaDoor
open Go.RowKit
open Go.Proofs (Tryd.prog)

/-- A frame by what it means: keys, how often still, how far. -/
abbrev AF := List UInt8 × Nat × Nat
def ASett (az : List AF) : Prop := ∀ f ∈ az, 1 ≤ f.2.1 ∧ f.2.1 ≤ 9223372036854775807 ∧ f.2.2 < f.1.length ∧ f.1.length ≤ 1000000
/-- What Push answers, and leaves. -/
def pushOk (depth : Nat) (az : List AF) (K : List UInt8) (n : Int) : Bool := decide (n < 1 ∨ K = [] ∨ az.length < depth)
def pushed (depth : Nat) (az : List AF) (K : List UInt8) (n : Int) : List AF := if n < 1 ∨ K = [] then az else if depth ≤ az.length then az else az ++ [(K, n.toNat, 0)]
/-- A frame of which one key more was played. -/
def turnF (f : AF) : List AF := if f.2.2 + 1 < f.1.length then [(f.1, f.2.1, f.2.2 + 1)] else if 1 < f.2.1 then [(f.1, f.2.1 - 1, 0)] else []
def keyF (f : AF) : UInt8 := (f.1[f.2.2]?).getD 0
/-- What Next answers, and leaves. -/
def nextOk (az : List AF) (rest : Nat) : Bool := decide (az ≠ [] ∧ rest ≠ 0)
def nextC (az : List AF) (rest : Nat) : Nat := if az ≠ [] ∧ rest ≠ 0 then (keyF (az.getLast?.getD ([], 0, 0))).toNat else 0
def nexted (az : List AF) (rest : Nat) : List AF := if az ≠ [] ∧ rest ≠ 0 then az.dropLast ++ turnF (az.getLast?.getD ([], 0, 0)) else az
def nextRest (az : List AF) (rest : Nat) : Nat := if az ≠ [] ∧ rest ≠ 0 then rest - 1 else rest

theorem turnF_length (f : AF) : (turnF f).length ≤ 1 := by
  unfold turnF
  split
  · simp
  · split <;> simp
theorem turnF_good {f : AF} (h : 1 ≤ f.2.1 ∧ f.2.1 ≤ 9223372036854775807 ∧ f.2.2 < f.1.length ∧ f.1.length ≤ 1000000) : ∀ q ∈ turnF f, 1 ≤ q.2.1 ∧ q.2.1 ≤ 9223372036854775807 ∧ q.2.2 < q.1.length ∧ q.1.length ≤ 1000000 := by
  intro q hq
  unfold turnF at hq
  split at hq
  · obtain rfl : q = _ := by simpa using hq
    exact ⟨h.1, h.2.1, by assumption, h.2.2.2⟩
  · split at hq
    · obtain rfl : q = _ := by simpa using hq
      exact ⟨by simp only; omega, by simp only; omega, by simp only; omega, h.2.2.2⟩
    · cases hq
theorem pushed_good {depth : Nat} {az : List AF} {K : List UInt8} {n : Int} (h : ASett az) (hK : K.length ≤ 1000000) (hn : n ≤ 9223372036854775807) : ASett (pushed depth az K n) := by
  unfold pushed
  split
  · exact h
  · rename_i hk
    split
    · exact h
    · intro f hf
      rcases List.mem_append.1 hf with hf | hf
      · exact h f hf
      · obtain rfl : f = (K, n.toNat, 0) := by simpa using hf
        have h1 : ¬ n < 1 := fun e => hk (.inl e)
        have h2 : 0 < K.length := List.length_pos_iff.2 fun e => hk (.inr e)
        exact ⟨by simp only; omega, by simp only; omega, h2, hK⟩
theorem pushed_length {depth : Nat} {az : List AF} {K : List UInt8} {n : Int} (h : az.length ≤ depth) : (pushed depth az K n).length ≤ depth := by
  unfold pushed
  split
  · exact h
  · split
    · exact h
    · simp; omega
theorem nexted_good {az : List AF} {rest : Nat} (h : ASett az) : ASett (nexted az rest) := by
  unfold nexted
  split
  · rename_i hc
    intro f hf
    rcases List.mem_append.1 hf with hf | hf
    · exact h f (List.dropLast_subset _ hf)
    · obtain ⟨r, q, rfl⟩ : ∃ r q, az = r ++ [q] := by
        rcases List.eq_nil_or_concat az with e | ⟨r, q, e⟩
        · exact absurd e hc.1
        · exact ⟨r, q, by simpa using e⟩
      have e : ((r ++ [q]).getLast?.getD ([], 0, 0)) = q := by simp
      rw [e] at hf
      exact turnF_good (h q (by simp)) f hf
  · exact h
theorem nexted_length {az : List AF} {rest : Nat} : (nexted az rest).length ≤ az.length := by
  unfold nexted
  split
  · rename_i hc
    have h1 := turnF_length (az.getLast?.getD ([], 0, 0))
    have h2 : 0 < az.length := List.length_pos_iff.2 hc.1
    rw [List.length_append, List.length_dropLast]
    omega
  · exact Nat.le_refl _

theorem settleL_same : ∀ l : List Fr, (∀ f ∈ l, f.2.2.2 < f.2.1.length) → settleL l = l
  | [], _ => rfl
  | f :: r, h => by
    have hf := h f (by simp)
    rw [settleL, if_neg (by omega)]
theorem settled_same {fs : List Fr} (h : ASett (fs.map (·.2))) : settled fs = fs := by
  unfold settled
  rw [settleL_same _ (fun f hf => (h f.2 (List.mem_map.2 ⟨f, by simpa using hf, rfl⟩)).2.2.1), List.reverse_reverse]
theorem settled_turn {r : List Fr} {kv : Value} {K : List UInt8} {n at' : Nat} (h : ASett (r.map (·.2))) (hat : at' < K.length) : (settled (r ++ [(kv, K, n, at' + 1)])).map (·.2) = r.map (·.2) ++ turnF (K, n, at') := by
  have hr : settleL r.reverse = r.reverse := settleL_same _ (fun f hf => (h f.2 (List.mem_map.2 ⟨f, by simpa using hf, rfl⟩)).2.2.1)
  unfold settled turnF
  simp only [List.reverse_append, List.reverse_cons, List.reverse_nil, List.nil_append, List.cons_append, settleL, hr]
  by_cases h1 : at' + 1 < K.length
  · rw [if_pos h1, if_neg (by omega)]
    simp
  · rw [if_neg h1, if_pos (by omega)]
    by_cases h2 : 1 < n
    · rw [if_pos h2, if_pos h2]
      simp
    · rw [if_neg h2, if_neg h2]
      simp
theorem goodf_of_sett {fs : List Fr} (h : ASett (fs.map (·.2))) : Goodf fs := fun f hf => by
  obtain ⟨h1, h2, h3, h4⟩ := h f.2 (List.mem_map.2 ⟨f, hf, rfl⟩)
  exact ⟨h1, h2, Nat.le_of_lt h3, (fun e => (by rw [e] at h3; cases h3)), h4⟩

/-- The stack at block x, in the blocks of fp, means these frames, fuel, rest, depth. -/
def Mak (w : World) (x : Nat) (fp : List Nat) (az : List AF) (fuel left depth : Nat) : Prop :=
  ∃ fs, Mac w x fp fs fuel left depth ∧ fs.map (·.2) = az ∧ ASett az ∧ az.length ≤ depth ∧ depth ≤ 1000000 ∧ left ≤ fuel ∧ fuel ≤ 9223372036854775807
theorem Mak.frm {w w' : World} {x : Nat} {fp S : List Nat} {az : List AF} {fuel left depth : Nat} (h : Mak w x fp az fuel left depth) (hf : Frm S w w') (hd : ∀ b ∈ fp, b ∉ S) : Mak w' x fp az fuel left depth := by
  obtain ⟨fs, h1, h2⟩ := h
  exact ⟨fs, h1.frm hf hd, h2⟩
theorem Mak.lt {w : World} {x : Nat} {fp : List Nat} {az : List AF} {fuel left depth : Nat} (h : Mak w x fp az fuel left depth) : ∀ b ∈ fp, b < w.heap.size := by
  obtain ⟨fs, ⟨_, _, _, _, _, h1, _⟩, _⟩ := h
  exact h1
theorem Mak.few {w : World} {x : Nat} {fp : List Nat} {az : List AF} {fuel left depth : Nat} (h : Mak w x fp az fuel left depth) : ASett az ∧ az.length ≤ depth ∧ depth ≤ 1000000 ∧ left ≤ fuel ∧ fuel ≤ 9223372036854775807 := by
  obtain ⟨fs, _, _, h1⟩ := h
  exact h1
theorem makNew (w : World) (a d : Int) (ha0 : -9223372036854775808 ≤ a) (ha : a ≤ 9223372036854775807) (hd0 : -9223372036854775808 ≤ d) (hd : d ≤ 1000000) :
    Calls Tryd.prog 22 #[.int .i64 a, .int .i64 d] w fun e w' => ∃ x fp, e = .returned (.pointer (some ⟨x, 0, none⟩)) ∧ Mak w' x fp [] a.toNat a.toNat d.toNat ∧ Frm [] w w' ∧ ∀ b ∈ fp, w.heap.size ≤ b := by
  refine (macNew w a d ha0 ha hd0 (by omega)).mono ?_
  rintro e w' ⟨x, fp, rfl, hm, hf, hb⟩
  exact ⟨x, fp, rfl, ⟨[], hm, rfl, by simp [ASett], by simp, by omega, Nat.le_refl _, by omega⟩, hf, hb⟩
theorem makLeft (w : World) (x : Nat) (fp : List Nat) (az : List AF) (fuel left depth : Nat) (h : Mak w x fp az fuel left depth) :
    Calls Tryd.prog 25 #[.pointer (some ⟨x, 0, none⟩)] w fun e w' => e = .returned (.int .i64 (left : Int)) ∧ w' = w := by
  obtain ⟨fs, h1, _⟩ := h
  exact macLeft w x fp fs fuel left depth h1
theorem makDeep (w : World) (x : Nat) (fp : List Nat) (az : List AF) (fuel left depth : Nat) (h : Mak w x fp az fuel left depth) :
    Calls Tryd.prog 33 #[.pointer (some ⟨x, 0, none⟩)] w fun e w' => e = .returned (.int .i64 (az.length : Int)) ∧ w' = w := by
  obtain ⟨fs, h1, rfl, _⟩ := h
  rw [List.length_map]
  exact macDeep w x fp fs fuel left depth h1
theorem makDry (w : World) (x : Nat) (fp : List Nat) (az : List AF) (fuel left depth : Nat) (h : Mak w x fp az fuel left depth) :
    Calls Tryd.prog 26 #[.pointer (some ⟨x, 0, none⟩)] w fun e w' => e = .returned (.bool (decide (0 < az.length) && decide (left = 0))) ∧ w' = w := by
  obtain ⟨fs, h1, rfl, _⟩ := h
  rw [List.length_map]
  exact macDry w x fp fs fuel left depth h1
theorem makDrop (w : World) (x : Nat) (fp : List Nat) (az : List AF) (fuel left depth : Nat) (h : Mak w x fp az fuel left depth) :
    Calls Tryd.prog 36 #[.pointer (some ⟨x, 0, none⟩)] w fun e w' => e = .returned (.tuple #[]) ∧ Mak w' x fp [] fuel left depth ∧ Frm fp w w' := by
  obtain ⟨fs, h1, rfl, _, _, h2⟩ := h
  refine (macDrop w x fp fs fuel left depth h1).mono ?_
  rintro e w' ⟨rfl, hm, hf⟩
  exact ⟨rfl, ⟨[], hm, rfl, by simp [ASett], by simp, h2⟩, hf⟩
theorem makRefuel (w : World) (x : Nat) (fp : List Nat) (az : List AF) (fuel left depth : Nat) (h : Mak w x fp az fuel left depth) :
    Calls Tryd.prog 37 #[.pointer (some ⟨x, 0, none⟩)] w fun e w' => e = .returned (.tuple #[]) ∧ Mak w' x fp az fuel fuel depth ∧ Frm fp w w' := by
  obtain ⟨fs, h1, rfl, h2, h3, h4, h5, h6⟩ := h
  have hx : x ∈ fp := by
    obtain ⟨_, _, _, h3, _⟩ := h1
    exact h3
  refine (macRefuel w x fp fs fuel left depth h1).mono ?_
  rintro e w' ⟨rfl, hm, hf⟩
  exact ⟨rfl, ⟨fs, hm, rfl, h2, h3, h4, Nat.le_refl _, h6⟩, hf.mono (fun b hb => .inl (by simp at hb; subst hb; exact hx))⟩
theorem makPush (w : World) (x : Nat) (fp : List Nat) (az : List AF) (fuel left depth : Nat) (h : Mak w x fp az fuel left depth) (v : Value) (K : List UInt8) (n : Int) (hn : n ≤ 9223372036854775807) (hl : K.length ≤ 1000000) (hv : RdB w v K) (hvl : K ≠ [] → ∀ b ∈ fp, v.ownBlock ≠ some b) :
    Calls Tryd.prog 23 #[.pointer (some ⟨x, 0, none⟩), v, .int .i64 n] w fun e w' => e = .returned (.bool (pushOk depth az K n)) ∧ ∃ fp', Mak w' x fp' (pushed depth az K n) fuel left depth ∧ Frm fp w w' ∧ ∀ b ∈ fp', b ∈ fp ∨ w.heap.size ≤ b := by
  by_cases h0 : n < 1 ∨ K = []
  · refine (macPush_none w x v K n hv h0).mono ?_
    rintro e w' ⟨rfl, rfl⟩
    have e1 : pushOk depth az K n = true := decide_eq_true (h0.imp id .inl)
    have e2 : pushed depth az K n = az := if_pos h0
    rw [e1, e2]
    exact ⟨rfl, fp, h, Frm.refl _ _, fun b hb => .inl hb⟩
  · have hn1 : ¬ n < 1 := fun e => h0 (.inl e)
    have hK1 : K ≠ [] := fun e => h0 (.inr e)
    obtain ⟨m, rfl⟩ := Int.eq_ofNat_of_zero_le (a := n) (by omega)
    obtain ⟨fs, h1, h2, h3, h4, h5, h6⟩ := h
    have hlen : fs.length = az.length := by rw [← h2, List.length_map]
    by_cases hd : depth ≤ az.length
    · refine (macPush_full w x fp fs fuel left depth h1 v K m (by omega) hK1 hv (by omega)).mono ?_
      rintro e w' ⟨rfl, hf⟩
      have e1 : pushOk depth az K (m : Int) = false := decide_eq_false (fun hh => by rcases hh with h | h | h; exact hn1 h; exact hK1 h; omega)
      have e2 : pushed depth az K (m : Int) = az := by unfold pushed; rw [if_neg h0, if_pos hd]
      rw [e1, e2]
      exact ⟨rfl, fp, ⟨fs, h1.frm hf (by simp), h2, h3, h4, h5, h6⟩, hf.mono (by simp), fun b hb => .inl hb⟩
    · refine (macPush w x fp fs fuel left depth h1 v K m (by omega) (by omega) hK1 hl hv (hvl hK1) (by omega) h5).mono ?_
      rintro e w' ⟨rfl, u, fp', hm, hf, hb⟩
      have e1 : pushOk depth az K (m : Int) = true := decide_eq_true (.inr (.inr (by omega)))
      have e2 : pushed depth az K (m : Int) = az ++ [(K, m, 0)] := by unfold pushed; rw [if_neg h0, if_neg hd]; rfl
      have hg := pushed_good (depth := depth) (K := K) (n := (m : Int)) h3 hl hn
      have hll := pushed_length (K := K) (n := (m : Int)) h4
      rw [e2] at hg hll
      rw [e1, e2]
      exact ⟨rfl, fp', ⟨_, hm, by simp [h2], hg, hll, h5, h6⟩, hf, hb⟩
theorem makNext (w : World) (x : Nat) (fp : List Nat) (az : List AF) (fuel left depth : Nat) (h : Mak w x fp az fuel left depth) :
    Calls Tryd.prog 24 #[.pointer (some ⟨x, 0, none⟩)] w fun e w' => e = .returned (.tuple #[.int .u8 (nextC az left : Int), .bool (nextOk az left)]) ∧ Mak w' x fp (nexted az left) fuel (nextRest az left) depth ∧ Frm fp w w' := by
  obtain ⟨fs, h1, h2, h3, h4, h5, h6, h7⟩ := h
  have hlen : fs.length = az.length := by rw [← h2, List.length_map]
  subst h2
  have hs := settled_same h3
  by_cases hc : (fs.map (·.2) : List AF) ≠ [] ∧ left ≠ 0
  · obtain ⟨r, f, rfl⟩ : ∃ r f, fs = r ++ [f] := by
      rcases List.eq_nil_or_concat fs with e | ⟨r, q, e⟩
      · exact absurd (by rw [e]; rfl) hc.1
      · exact ⟨r, q, by simpa using e⟩
    obtain ⟨l, rfl⟩ : ∃ l, left = l + 1 := ⟨left - 1, by omega⟩
    obtain ⟨kv, K, n, at'⟩ := f
    have hf := h3 (K, n, at') (by simp)
    have hr : ASett (r.map (·.2)) := fun q hq => h3 q (by rw [List.map_append]; exact List.mem_append_left _ hq)
    have hat : at' < K.length := hf.2.2.1
    have hkc : K[at']? = some K[at'] := List.getElem?_eq_getElem hf.2.2.1
    refine (macNext_some w x fp _ r kv K n at' fuel l depth h1 (goodf_of_sett h3) (by omega) (by omega) hs K[at'] hkc).mono ?_
    rintro e w' ⟨rfl, hm, hff⟩
    have e1 : nextOk ((r ++ [((kv, K, n, at') : Fr)]).map (·.2)) (l + 1) = true := decide_eq_true hc
    have eL : (((r ++ [((kv, K, n, at') : Fr)]).map (·.2)).getLast?.getD ([], 0, 0)) = (K, n, at') := by simp
    have e2 : nextC ((r ++ [((kv, K, n, at') : Fr)]).map (·.2)) (l + 1) = K[at'].toNat := by unfold nextC; rw [if_pos hc, eL]; simp [keyF, hkc]
    have e3 : nexted ((r ++ [((kv, K, n, at') : Fr)]).map (·.2)) (l + 1) = r.map (·.2) ++ turnF (K, n, at') := by unfold nexted; rw [if_pos hc, eL]; simp
    have e4 : nextRest ((r ++ [((kv, K, n, at') : Fr)]).map (·.2)) (l + 1) = l := by unfold nextRest; rw [if_pos hc]; rfl
    have hg := nexted_good (rest := l + 1) h3
    have hll := nexted_length (az := (r ++ [((kv, K, n, at') : Fr)]).map (·.2)) (rest := l + 1)
    rw [e3] at hg hll
    rw [e1, e2, e3, e4]
    exact ⟨rfl, ⟨_, hm, settled_turn hr hf.2.2.1, hg, by omega, h5, by omega, h7⟩, hff⟩
  · refine (macNext_none w x fp fs fuel left depth h1 (goodf_of_sett h3) (by omega) ?_).mono ?_
    · rw [hs]
      by_cases he : fs = []
      · exact .inl he
      · exact .inr (Classical.byContradiction fun hl => hc ⟨by simpa using he, hl⟩)
    rintro e w' ⟨rfl, hm, hff⟩
    rw [hs] at hm
    have e1 : nextOk (fs.map (·.2)) left = false := decide_eq_false hc
    have e2 : nextC (fs.map (·.2)) left = 0 := if_neg hc
    have e3 : nexted (fs.map (·.2)) left = fs.map (·.2) := if_neg hc
    have e4 : nextRest (fs.map (·.2)) left = left := if_neg hc
    rw [e1, e2, e3, e4]
    exact ⟨rfl, ⟨fs, hm, rfl, h3, h4, h5, h6, h7⟩, hff⟩

end Go.Proofs.YtaobohlcpgnebaaDoor
