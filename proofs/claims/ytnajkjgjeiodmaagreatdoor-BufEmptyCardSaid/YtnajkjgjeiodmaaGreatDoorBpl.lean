/-
  PLAIN LAWS OF LINES: where they begin, and what putting lines in other lines' stead does to the text. Conditions: none.
-/
import Derived.Lib.SplitLaws
import Derived.Lib.Join
namespace Go.Proofs.YtnajkjgjeiodmaaGreatDoor
open Go

/-- The parts of a text that line feeds separate. -/
def cutL : List UInt8 → List (List UInt8)
  | [] => [[]]
  | c :: r => if c = 10 then [] :: cutL r else match cutL r with
    | [] => [[c]]
    | h :: t => (c :: h) :: t
theorem cutL_ne : ∀ l, cutL l ≠ []
  | [] => by simp [cutL]
  | c :: r => by
    unfold cutL
    split
    · simp
    · split <;> simp
theorem cutL_lf (r : List UInt8) : cutL (10 :: r) = [] :: cutL r := by simp [cutL]
theorem cutL_other {c : UInt8} (hc : c ≠ 10) {r h : List UInt8} {t : List (List UInt8)} (e : cutL r = h :: t) : cutL (c :: r) = (c :: h) :: t := by
  rw [cutL, if_neg hc, e]
theorem splitK_lf (r : List UInt8) (k : Nat) : Lib.splitK [10] 0 (k + 1) (10 :: r) = [] :: Lib.splitK [10] 0 k r := by
  have e : Lib.index (10 :: r) [10] = 0 := by rw [Lib.index]; simp [List.isPrefixOf]
  rw [Lib.splitK, e]
  rfl
theorem index_other {c : UInt8} (hc : c ≠ 10) (r : List UInt8) : Lib.index (c :: r) [10] = if Lib.index r [10] == -1 then -1 else Lib.index r [10] + 1 := by
  have hp : ([10] : List UInt8).isPrefixOf (c :: r) = false := by simp [List.isPrefixOf, Ne.symm hc]
  rw [Lib.index, hp]
  simp
theorem splitK_other {c : UInt8} (hc : c ≠ 10) (r : List UInt8) (k : Nat) {h : List UInt8} {t : List (List UInt8)} (e : Lib.splitK [10] 0 k r = h :: t) : Lib.splitK [10] 0 k (c :: r) = (c :: h) :: t := by
  cases k with
  | zero =>
    simp only [Lib.splitK] at e ⊢
    obtain ⟨rfl, rfl⟩ := List.cons.inj e
    rfl
  | succ k =>
    have hix := index_other hc r
    unfold Lib.splitK at e ⊢
    by_cases hm : (Lib.index r [10] == -1) = true
    · rw [if_pos hm] at e hix
      rw [if_pos (by rw [hix]; rfl)]
      obtain ⟨rfl, rfl⟩ := List.cons.inj e
      rfl
    · rw [if_neg hm] at e hix
      have hge := Lib.index_ge r [10]
      have hne : Lib.index r [10] ≠ -1 := fun e => hm (beq_iff_eq.2 e)
      have h1 : (Lib.index r [10] + 1).toNat = (Lib.index r [10]).toNat + 1 := by omega
      rw [if_neg (by rw [hix, beq_iff_eq]; omega), hix, h1]
      obtain ⟨rfl, rfl⟩ := List.cons.inj e
      simp
theorem splitK_cutL : ∀ l : List UInt8, Lib.splitK [10] 0 (Lib.count l [10]) l = cutL l
  | [] => by rw [Lib.count_one]; rfl
  | c :: r => by
    have ih := splitK_cutL r
    by_cases hc : c = 10
    · subst hc
      rw [Lib.count_cons_eq, Nat.add_comm, splitK_lf, ih, cutL_lf]
    · rw [Lib.count_cons_ne c 10 r hc]
      obtain ⟨h, t, e⟩ : ∃ h t, cutL r = h :: t := by
        cases hcut : cutL r with
        | nil => exact absurd hcut (cutL_ne r)
        | cons h t => exact ⟨h, t, rfl⟩
      rw [splitK_other hc r _ (ih.trans e), cutL_other hc e]
theorem join_cons2 (x y : List UInt8) (r : List (List UInt8)) : Lib.join (x :: y :: r) [10] = x ++ 10 :: Lib.join (y :: r) [10] := by
  rw [Lib.join_cons, Lib.join_cons]
  simp [Lib.joinTail]
theorem join_cutL : ∀ l : List UInt8, Lib.join (cutL l) [10] = l
  | [] => by simp [cutL, Lib.join_one]
  | c :: r => by
    have ih := join_cutL r
    obtain ⟨h, t, e⟩ : ∃ h t, cutL r = h :: t := by
      cases hcut : cutL r with
      | nil => exact absurd hcut (cutL_ne r)
      | cons h t => exact ⟨h, t, rfl⟩
    by_cases hc : c = 10
    · subst hc
      rw [cutL_lf, e, join_cons2, ← e, ih]
      rfl
    · rw [cutL_other hc e]
      rw [e] at ih
      rw [Lib.join_cons] at ih ⊢
      rw [List.cons_append, ih]
theorem cutL_length (l : List UInt8) : (cutL l).length = l.count 10 + 1 := by
  induction l with
  | nil => rfl
  | cons c r ih =>
    obtain ⟨h, t, e⟩ : ∃ h t, cutL r = h :: t := by
      cases hcut : cutL r with
      | nil => exact absurd hcut (cutL_ne r)
      | cons h t => exact ⟨h, t, rfl⟩
    by_cases hc : c = 10
    · subst hc
      rw [cutL_lf, List.length_cons, ih, List.count_cons_self]
    · rw [cutL_other hc e, List.count_cons_of_ne hc, ← ih, e]
      rfl
theorem cutL_clean : ∀ (l : List UInt8), ∀ x ∈ cutL l, (10 : UInt8) ∉ x
  | [], x, hx => by
    obtain rfl : x = [] := by simpa [cutL] using hx
    simp
  | c :: r, x, hx => by
    have ih := cutL_clean r
    obtain ⟨h, t, e⟩ : ∃ h t, cutL r = h :: t := by
      cases hcut : cutL r with
      | nil => exact absurd hcut (cutL_ne r)
      | cons h t => exact ⟨h, t, rfl⟩
    by_cases hc : c = 10
    · subst hc
      rw [cutL_lf] at hx
      rcases List.mem_cons.1 hx with rfl | hx
      · simp
      · exact ih x hx
    · rw [cutL_other hc e] at hx
      rw [e] at ih
      rcases List.mem_cons.1 hx with rfl | hx
      · intro hm
        rcases List.mem_cons.1 hm with h1 | h1
        · exact hc h1.symm
        · exact ih h (by simp) h1
      · exact ih x (List.mem_cons_of_mem _ hx)
theorem cutL_plain : ∀ (x : List UInt8), (10 : UInt8) ∉ x → cutL x = [x]
  | [], _ => rfl
  | c :: r, hx => by
    have hc : c ≠ 10 := fun e => hx (by simp [e])
    rw [cutL_other hc (cutL_plain r (fun h => hx (List.mem_cons_of_mem _ h)))]
theorem cutL_lf_mid : ∀ (x : List UInt8) (r : List UInt8), (10 : UInt8) ∉ x → cutL (x ++ 10 :: r) = x :: cutL r
  | [], r, _ => cutL_lf r
  | c :: s, r, hx => by
    have hc : c ≠ 10 := fun e => hx (by simp [e])
    rw [List.cons_append, cutL_other hc (cutL_lf_mid s r (fun h => hx (List.mem_cons_of_mem _ h)))]
theorem cutL_join : ∀ (xs : List (List UInt8)), xs ≠ [] → (∀ x ∈ xs, (10 : UInt8) ∉ x) → cutL (Lib.join xs [10]) = xs
  | [], h, _ => absurd rfl h
  | [x], _, h => by rw [Lib.join_one]; exact cutL_plain x (h x (by simp))
  | x :: y :: r, _, h => by
    rw [join_cons2, cutL_lf_mid x _ (h x (by simp)), cutL_join (y :: r) (by simp) (fun z hz => h z (List.mem_cons_of_mem _ hz))]
/-- One byte more. -/
theorem cutL_snoc_lf : ∀ (l : List UInt8), cutL (l ++ [10]) = cutL l ++ [[]]
  | [] => by simp [cutL]
  | c :: r => by
    have ih := cutL_snoc_lf r
    obtain ⟨h, t, e⟩ : ∃ h t, cutL r = h :: t := by
      cases hcut : cutL r with
      | nil => exact absurd hcut (cutL_ne r)
      | cons h t => exact ⟨h, t, rfl⟩
    by_cases hc : c = 10
    · subst hc
      rw [List.cons_append, cutL_lf, cutL_lf, ih]
      rfl
    · rw [List.cons_append, cutL_other hc e, cutL_other hc (ih.trans (by rw [e]; rfl))]
      rfl
theorem cutL_snoc {c : UInt8} (hc : c ≠ 10) : ∀ (l : List UInt8) (d : List (List UInt8)) (x : List UInt8), cutL l = d ++ [x] → cutL (l ++ [c]) = d ++ [x ++ [c]]
  | [], d, x, e => by
    have e' : [([] : List UInt8)] = d ++ [x] := e
    cases d with
    | nil =>
      obtain rfl : x = [] := by simpa using e'.symm
      rw [List.nil_append, cutL_other hc (r := []) rfl]
      rfl
    | cons y d => simp at e'
  | b :: r, d, x, e => by
    obtain ⟨h, t, e2⟩ : ∃ h t, cutL r = h :: t := by
      cases hcut : cutL r with
      | nil => exact absurd hcut (cutL_ne r)
      | cons h t => exact ⟨h, t, rfl⟩
    rw [List.cons_append]
    by_cases hb : b = 10
    · subst hb
      rw [cutL_lf] at e ⊢
      cases d with
      | nil =>
        simp at e
        exact absurd e.2 (cutL_ne r)
      | cons y d =>
        obtain ⟨rfl, e3⟩ := List.cons.inj e
        rw [cutL_snoc hc r d x e3]
        rfl
    · rw [cutL_other hb e2] at e
      cases d with
      | nil =>
        obtain ⟨rfl, rfl⟩ := List.cons.inj e
        have := cutL_snoc hc r [] h e2
        rw [cutL_other hb this]
        rfl
      | cons y d =>
        obtain ⟨rfl, rfl⟩ := List.cons.inj e
        have := cutL_snoc hc r (h :: d) x e2
        rw [cutL_other hb this]
        rfl

end Go.Proofs.YtnajkjgjeiodmaaGreatDoor

namespace Go.Proofs.YtnajkjgjeiodmaaGreatDoor

/-- The places behind line feeds, o being the text's first place. -/
def brk (o : Int) : List UInt8 → List Int
  | [] => []
  | c :: r => if c = 10 then (o + 1) :: brk (o + 1) r else brk (o + 1) r
/-- Where lines begin. -/
def starts (t : List UInt8) : List Int := 0 :: brk 0 t
/-- How many line feeds there are. -/
def nl : List UInt8 → Nat
  | [] => 0
  | c :: r => (if c = 10 then 1 else 0) + nl r
/-- Where lines begin, and where one more would. -/
def bnd (t : List UInt8) : List Int := starts t ++ [(t.length : Int) + 1]

theorem brk_append (o : Int) (a b : List UInt8) : brk o (a ++ b) = brk o a ++ brk (o + a.length) b := by
  induction a generalizing o with
  | nil => simp [brk]
  | cons c r ih =>
    simp only [List.cons_append, brk, ih, List.length_cons]
    have e : o + 1 + (r.length : Int) = o + ((r.length + 1 : Nat) : Int) := by omega
    rw [e]
    split <;> rfl
theorem nl_append (a b : List UInt8) : nl (a ++ b) = nl a + nl b := by
  induction a with
  | nil => simp [nl]
  | cons c r ih => simp only [List.cons_append, nl, ih]; omega
theorem brk_length (o : Int) (t : List UInt8) : (brk o t).length = nl t := by
  induction t generalizing o with
  | nil => rfl
  | cons c r ih =>
    simp only [brk, nl]
    split <;> simp [ih] <;> omega
theorem nl_le (t : List UInt8) : nl t ≤ t.length := by
  induction t with
  | nil => simp [nl]
  | cons c r ih => simp only [nl, List.length_cons]; split <;> omega
theorem brk_mem (o : Int) (t : List UInt8) : ∀ x ∈ brk o t, o < x ∧ x ≤ o + t.length := by
  induction t generalizing o with
  | nil => intro x hx; cases hx
  | cons c r ih =>
    intro x hx
    simp only [brk] at hx
    simp only [List.length_cons]
    split at hx
    · rcases List.mem_cons.1 hx with rfl | hx
      · omega
      · have := ih _ x hx; omega
    · have := ih _ x hx; omega
theorem brk_shift (o d : Int) (t : List UInt8) : brk (o + d) t = (brk o t).map (· + d) := by
  induction t generalizing o with
  | nil => rfl
  | cons c r ih =>
    simp only [brk]
    have e : o + d + 1 = o + 1 + d := by omega
    rw [e, ih]
    split <;> simp
theorem starts_length (t : List UInt8) : (starts t).length = nl t + 1 := by simp [starts, brk_length]
theorem starts_split (t : List UInt8) (k : Nat) (hk : k ≤ t.length) : starts t = (0 :: brk 0 (t.take k)) ++ brk k (t.drop k) := by
  have e : starts t = 0 :: brk 0 (t.take k ++ t.drop k) := by rw [List.take_append_drop]; rfl
  rw [e, brk_append, List.length_take, Nat.min_eq_left hk]
  simp
theorem starts_le (t : List UInt8) (k : Nat) (hk : k ≤ t.length) (j : Nat) (x : Int) (hx : (starts t)[j]? = some x) : x ≤ (k : Int) ↔ j ≤ nl (t.take k) := by
  rw [starts_split t k hk] at hx
  have hl : (0 :: brk 0 (t.take k)).length = nl (t.take k) + 1 := by simp [brk_length]
  by_cases hj : j < (0 :: brk 0 (t.take k)).length
  · rw [List.getElem?_append_left hj] at hx
    have hm := List.mem_of_getElem? hx
    have : x ≤ (k : Int) := by
      rcases List.mem_cons.1 hm with rfl | hm
      · omega
      · have := brk_mem _ _ _ hm
        rw [List.length_take] at this
        omega
    constructor
    · intro _; omega
    · intro _; exact this
  · rw [List.getElem?_append_right (by omega)] at hx
    have hm := List.mem_of_getElem? hx
    have := brk_mem _ _ _ hm
    constructor
    · intro _; omega
    · intro _; omega
theorem starts_range (t : List UInt8) : ∀ x ∈ starts t, 0 ≤ x ∧ x ≤ t.length := by
  intro x hx
  rcases List.mem_cons.1 hx with rfl | hx
  · omega
  · have := brk_mem _ _ _ hx; omega
theorem starts_nil : starts [] = [0] := rfl
theorem bnd_length (t : List UInt8) : (bnd t).length = nl t + 2 := by simp [bnd, starts_length]
theorem bnd_start (t : List UInt8) (j : Nat) (hj : j < nl t + 1) : (bnd t)[j]? = (starts t)[j]? := by
  rw [bnd, List.getElem?_append_left (by rw [starts_length]; exact hj)]
theorem bnd_last (t : List UInt8) : (bnd t)[nl t + 1]? = some ((t.length : Int) + 1) := by
  rw [bnd, List.getElem?_append_right (by rw [starts_length]; omega), starts_length]
  simp
/-- A text put in. -/
theorem starts_insert (t s : List UInt8) (k : Nat) (hk : k ≤ t.length) :
    starts (t.take k ++ s ++ t.drop k) = (0 :: brk 0 (t.take k)) ++ brk k s ++ (brk k (t.drop k)).map (· + (s.length : Int)) := by
  have e : starts (t.take k ++ s ++ t.drop k) = 0 :: brk 0 (t.take k ++ s ++ t.drop k) := rfl
  rw [e, brk_append, brk_append, ← brk_shift, List.length_append, List.length_take, Nat.min_eq_left hk]
  simp
/-- Bytes taken out. -/
theorem starts_delete (t : List UInt8) (k n : Nat) (hk : k + n ≤ t.length) :
    starts (t.take k ++ t.drop (k + n)) = (0 :: brk 0 (t.take k)) ++ (brk (k + n : Nat) (t.drop (k + n))).map (· + (-(n : Int))) := by
  have e : starts (t.take k ++ t.drop (k + n)) = 0 :: brk 0 (t.take k ++ t.drop (k + n)) := rfl
  have e2 : (0 : Int) + ((min k t.length : Nat) : Int) = ((k + n : Nat) : Int) + (-(n : Int)) := by omega
  rw [e, brk_append, List.length_take, e2, brk_shift]
  simp
theorem nl_take_le (t : List UInt8) {j k : Nat} (h : j ≤ k) : nl (t.take j) ≤ nl (t.take k) := by
  have e : t.take k = t.take j ++ (t.take k).drop j := by
    have := List.take_append_drop j (t.take k)
    rw [List.take_take, Nat.min_eq_left h] at this
    exact this.symm
  rw [e, nl_append]; omega
theorem nl_take_total (t : List UInt8) (k : Nat) : nl (t.take k) ≤ nl t := by
  have := nl_append (t.take k) (t.drop k)
  rw [List.take_append_drop] at this
  omega

end Go.Proofs.YtnajkjgjeiodmaaGreatDoor

namespace Go.Proofs.YtnajkjgjeiodmaaGreatDoor
open Go

/-- Lines, a line feed behind each. -/
def joinT (xs : List (List UInt8)) : List UInt8 := xs.flatMap (· ++ [10])
theorem joinT_nil : joinT [] = [] := rfl
theorem joinT_cons (x : List UInt8) (r : List (List UInt8)) : joinT (x :: r) = x ++ 10 :: joinT r := by simp [joinT]
theorem joinT_append (a b : List (List UInt8)) : joinT (a ++ b) = joinT a ++ joinT b := by simp [joinT]
theorem join_append (a : List (List UInt8)) {b : List (List UInt8)} (hb : b ≠ []) : Lib.join (a ++ b) [10] = joinT a ++ Lib.join b [10] := by
  induction a with
  | nil => rfl
  | cons x r ih =>
    obtain ⟨y, s, e⟩ : ∃ y s, r ++ b = y :: s := by
      cases h : r ++ b with
      | nil => simp at h; exact absurd h.2 hb
      | cons y s => exact ⟨y, s, rfl⟩
    rw [List.cons_append, e, join_cons2, ← e, ih, joinT_cons]
    simp
theorem joinT_join {a : List (List UInt8)} (ha : a ≠ []) : joinT a = Lib.join a [10] ++ [10] := by
  have h := join_append a (b := [[]]) (by simp)
  rw [Lib.join_one, List.append_nil] at h
  rw [← h]
  clear h
  induction a with
  | nil => exact absurd rfl ha
  | cons x r ih =>
    cases r with
    | nil => simp [Lib.join_one, join_cons2]
    | cons y s =>
      have := ih (by simp)
      rw [List.cons_append] at this
      rw [List.cons_append, List.cons_append, join_cons2, join_cons2, this]
      simp
/-- Where the line k begins. -/
def pos (xs : List (List UInt8)) (k : Nat) : Nat := (joinT (xs.take k)).length
theorem pos_zero (xs : List (List UInt8)) : pos xs 0 = 0 := by simp [pos, joinT_nil]
theorem pos_succ {xs : List (List UInt8)} {k : Nat} {x : List UInt8} (h : xs[k]? = some x) : pos xs (k + 1) = pos xs k + x.length + 1 := by
  unfold pos
  rw [List.take_add_one, h]
  simp [joinT_append, joinT_cons, joinT_nil]
  omega
theorem pos_all {xs : List (List UInt8)} (h : xs ≠ []) : pos xs xs.length = (Lib.join xs [10]).length + 1 := by
  unfold pos
  rw [List.take_length, joinT_join h]
  simp
theorem pos_mono (xs : List (List UInt8)) {j k : Nat} (h : j ≤ k) : pos xs j ≤ pos xs k := by
  unfold pos
  obtain ⟨d, rfl⟩ := Nat.exists_eq_add_of_le h
  rw [List.take_add, joinT_append, List.length_append]
  omega
theorem pos_le {xs : List (List UInt8)} (h : xs ≠ []) (k : Nat) : pos xs k ≤ (Lib.join xs [10]).length + 1 := by
  rw [← pos_all h]
  rcases Nat.le_total k xs.length with h1 | h1
  · exact pos_mono xs h1
  · unfold pos
    rw [List.take_of_length_le h1, List.take_length]
    exact Nat.le_refl _
theorem take_pos {xs : List (List UInt8)} {k : Nat} (hk : k < xs.length) : (Lib.join xs [10]).take (pos xs k) = joinT (xs.take k) := by
  conv => lhs; rw [← List.take_append_drop k xs, join_append (xs.take k) (b := xs.drop k) (by simp; omega)]
  unfold pos
  rw [List.take_append_drop, List.take_left']
  rfl
theorem drop_pos {xs : List (List UInt8)} {k : Nat} (hk : k < xs.length) : (Lib.join xs [10]).drop (pos xs k) = Lib.join (xs.drop k) [10] := by
  conv => lhs; rw [← List.take_append_drop k xs, join_append (xs.take k) (b := xs.drop k) (by simp; omega)]
  unfold pos
  rw [List.take_append_drop, List.drop_left']
  rfl
/-- What stands ahead of the line feed that ends the line ahead. -/
theorem take_pos_pred {xs : List (List UInt8)} {k : Nat} (h0 : 0 < k) (hk : k ≤ xs.length) : (Lib.join xs [10]).take (pos xs k - 1) = Lib.join (xs.take k) [10] := by
  have hne : xs.take k ≠ [] := by
    intro e
    have := congrArg List.length e
    rw [List.length_take, List.length_nil] at this
    omega
  have hp : pos xs k = (Lib.join (xs.take k) [10]).length + 1 := by
    unfold pos
    rw [joinT_join hne]
    simp
  rcases Nat.lt_or_ge k xs.length with hlt | hge
  · have h1 := take_pos hlt
    rw [joinT_join hne] at h1
    have h2 := congrArg (List.take (pos xs k - 1)) h1
    rw [List.take_take, Nat.min_eq_left (by omega)] at h2
    rw [h2, hp, Nat.add_sub_cancel, List.take_left']
    rfl
  · obtain rfl : k = xs.length := by omega
    rw [List.take_length] at hp ⊢
    rw [hp, Nat.add_sub_cancel, List.take_length]
/-- A line by its place. -/
theorem line_at {xs : List (List UInt8)} {k : Nat} {x : List UInt8} (h : xs[k]? = some x) : ((Lib.join xs [10]).drop (pos xs k)).take x.length = x := by
  have hk := (List.getElem?_eq_some_iff.1 h).1
  rw [drop_pos hk]
  have e : xs.drop k = x :: xs.drop (k + 1) := by
    rw [List.drop_eq_getElem_cons hk]
    obtain ⟨_, h2⟩ := List.getElem?_eq_some_iff.1 h
    rw [h2]
  rw [e, Lib.join_cons, List.take_left']
  rfl

/-! ### The index's places are these -/
def offs (o : Int) : List (List UInt8) → List Int
  | [] => []
  | x :: r => o :: offs (o + x.length + 1) r
theorem offs_length (o : Int) (xs : List (List UInt8)) : (offs o xs).length = xs.length := by
  induction xs generalizing o with
  | nil => rfl
  | cons x r ih => simp [offs, ih]
theorem offs_get (o : Int) (xs : List (List UInt8)) (k : Nat) (h : k < xs.length) : (offs o xs)[k]? = some (o + (pos xs k : Nat)) := by
  induction xs generalizing o k with
  | nil => simp at h
  | cons x r ih =>
    cases k with
    | zero => simp [offs, pos, joinT_nil]
    | succ k =>
      have := ih (o + x.length + 1) k (by simpa using h)
      simp only [offs, List.getElem?_cons_succ, this]
      congr 1
      unfold pos
      rw [List.take_succ_cons, joinT_cons]
      simp only [List.length_append, List.length_cons]
      omega
theorem brk_offs (o : Int) : ∀ T : List UInt8, o :: brk o T = offs o (cutL T)
  | [] => by simp [brk, cutL, offs]
  | c :: r => by
    have ih := brk_offs (o + 1) r
    obtain ⟨h, t, e⟩ : ∃ h t, cutL r = h :: t := by
      cases hcut : cutL r with
      | nil => exact absurd hcut (cutL_ne r)
      | cons h t => exact ⟨h, t, rfl⟩
    by_cases hc : c = 10
    · subst hc
      rw [cutL_lf, offs, ← show offs (o + 1) (cutL r) = offs (o + (([] : List UInt8).length : Int) + 1) (cutL r) by simp, ← ih]
      simp [brk]
    · rw [cutL_other hc e]
      rw [e, offs] at ih
      have h2 := (List.cons.inj ih).2
      simp only [brk, if_neg hc, offs]
      rw [h2]
      congr 2
      simp only [List.length_cons]
      omega
theorem starts_offs (T : List UInt8) : starts T = offs 0 (cutL T) := brk_offs 0 T
theorem nl_cutL (T : List UInt8) : nl T + 1 = (cutL T).length := by
  have := congrArg List.length (starts_offs T)
  rw [starts_length, offs_length] at this
  exact this
theorem starts_pos {T : List UInt8} {k : Nat} (h : k < (cutL T).length) : (starts T)[k]? = some ((pos (cutL T) k : Nat) : Int) := by
  rw [starts_offs, offs_get _ _ _ h]
  simp
theorem bnd_pos {T : List UInt8} {k : Nat} (h : k ≤ (cutL T).length) : (bnd T)[k]? = some ((pos (cutL T) k : Nat) : Int) := by
  rcases Nat.lt_or_ge k (cutL T).length with h1 | h1
  · rw [bnd_start T k (by rw [nl_cutL]; exact h1), starts_pos h1]
  · obtain rfl : k = (cutL T).length := by omega
    have e := pos_all (cutL_ne T)
    rw [join_cutL] at e
    rw [e]
    have h2 := bnd_last T
    rw [nl_cutL] at h2
    rw [h2]
    simp

/-! ### Lines put in other lines' stead -/
def Clean (xs : List (List UInt8)) : Prop := ∀ x ∈ xs, (10 : UInt8) ∉ x
theorem clean_cutL (T : List UInt8) : Clean (cutL T) := cutL_clean T
theorem Clean.take {xs : List (List UInt8)} (h : Clean xs) (k : Nat) : Clean (xs.take k) := fun x hx => h x (List.mem_of_mem_take hx)
theorem Clean.drop {xs : List (List UInt8)} (h : Clean xs) (k : Nat) : Clean (xs.drop k) := fun x hx => h x (List.mem_of_mem_drop hx)
theorem Clean.append {xs ys : List (List UInt8)} (h : Clean xs) (k : Clean ys) : Clean (xs ++ ys) := fun x hx => by
  rcases List.mem_append.1 hx with h1 | h1
  · exact h x h1
  · exact k x h1
/-- The lines, once others are put in. -/
def repl (xs : List (List UInt8)) (at' n : Nat) (L : List (List UInt8)) : List (List UInt8) := xs.take at' ++ L ++ xs.drop (at' + n)
/-- At least one. -/
def some1 (xs : List (List UInt8)) : List (List UInt8) := if xs = [] then [[]] else xs
theorem some1_ne (xs : List (List UInt8)) : some1 xs ≠ [] := by
  unfold some1
  split
  · simp
  · assumption
theorem Clean.some1 {xs : List (List UInt8)} (h : Clean xs) : Clean (some1 xs) := by
  unfold YtnajkjgjeiodmaaGreatDoor.some1
  split
  · intro x hx
    obtain rfl : x = [] := by simpa using hx
    simp
  · exact h
theorem Clean.repl {xs L : List (List UInt8)} (h : Clean xs) (hL : Clean L) (a n : Nat) : Clean (repl xs a n L) := ((h.take a).append hL).append (h.drop (a + n))
/-- Bytes, and one for each line. -/
def sizeL (xs : List (List UInt8)) : Nat := (joinT xs).length
theorem sizeL_cons (x : List UInt8) (r : List (List UInt8)) : sizeL (x :: r) = x.length + 1 + sizeL r := by simp [sizeL, joinT_cons]; omega
theorem sizeL_append (a b : List (List UInt8)) : sizeL (a ++ b) = sizeL a + sizeL b := by simp [sizeL, joinT_append]
theorem sizeL_join {xs : List (List UInt8)} (h : xs ≠ []) : sizeL xs = (Lib.join xs [10]).length + 1 := by simp [sizeL, joinT_join h]
theorem sizeL_cutL (T : List UInt8) : sizeL (cutL T) = T.length + 1 := by rw [sizeL_join (cutL_ne T), join_cutL]
theorem pos_sizeL (xs : List (List UInt8)) (k : Nat) : pos xs k = sizeL (xs.take k) := rfl

theorem repl_inner {T : List UInt8} {L : List (List UInt8)} {a n : Nat} (h : a + n < (cutL T).length) : Lib.join (repl (cutL T) a n L) [10] = T.take (pos (cutL T) a) ++ joinT L ++ T.drop (pos (cutL T) (a + n)) := by
  have h1 := take_pos (xs := cutL T) (k := a) (by omega)
  have h2 := drop_pos (xs := cutL T) (k := a + n) h
  rw [join_cutL] at h1 h2
  rw [h1, h2, repl, join_append _ (b := (cutL T).drop (a + n)) (by simp; omega), joinT_append]
theorem repl_end {T : List UInt8} {L : List (List UInt8)} {a n : Nat} (h0 : 0 < a) (h : a + n = (cutL T).length) : Lib.join (repl (cutL T) a n L) [10] = T.take (pos (cutL T) a - 1) ++ (if L = [] then [] else 10 :: Lib.join L [10]) := by
  have h1 := take_pos_pred (xs := cutL T) (k := a) h0 (by omega)
  rw [join_cutL] at h1
  rw [h1, repl, List.drop_of_length_le (by omega), List.append_nil]
  by_cases hL : L = []
  · rw [hL, if_pos rfl, List.append_nil, List.append_nil]
  · have hne : (cutL T).take a ≠ [] := by
      intro e
      have := congrArg List.length e
      rw [List.length_take, List.length_nil] at this
      omega
    rw [if_neg hL, join_append _ hL, joinT_join hne]
    simp
theorem repl_all {T : List UInt8} {L : List (List UInt8)} (a n : Nat) (h : n = (cutL T).length) (ha : a + n ≤ (cutL T).length) : repl (cutL T) a n L = L := by
  obtain rfl : a = 0 := by omega
  rw [repl, List.drop_of_length_le (by omega)]
  simp
theorem repl_none (xs : List (List UInt8)) (a : Nat) : repl xs a 0 [] = xs := by simp [repl]

end Go.Proofs.YtnajkjgjeiodmaaGreatDoor
