/-
  PLAIN LAWS OF LINES: a text cut at its line feeds. Conditions: none.
-/
import Derived.Lib.SplitLaws
import Derived.Lib.Join
namespace Go.Proofs.YtaobohlcpgnebaaDoor
open Go

/-- The parts of a text that line feeds separate. -/
def cutL : List UInt8 → List (List UInt8)
  | [] => [[]]
  | c :: r => if c = 10 then [] :: cutL r else match cutL r with
    | [] => [[c]]
    | h :: t => (c :: h) :: t
theorem cutL_ne : ∀ l, cutL l ≠ []
  | [] => by simp [cutL]
  | c :: r => by
    unfold cutL
    split
    · simp
    · split <;> simp
theorem cutL_lf (r : List UInt8) : cutL (10 :: r) = [] :: cutL r := by simp [cutL]
theorem cutL_other {c : UInt8} (hc : c ≠ 10) {r h : List UInt8} {t : List (List UInt8)} (e : cutL r = h :: t) : cutL (c :: r) = (c :: h) :: t := by
  rw [cutL, if_neg hc, e]
theorem splitK_lf (r : List UInt8) (k : Nat) : Lib.splitK [10] 0 (k + 1) (10 :: r) = [] :: Lib.splitK [10] 0 k r := by
  have e : Lib.index (10 :: r) [10] = 0 := by rw [Lib.index]; simp [List.isPrefixOf]
  rw [Lib.splitK, e]
  rfl
theorem index_other {c : UInt8} (hc : c ≠ 10) (r : List UInt8) : Lib.index (c :: r) [10] = if Lib.index r [10] == -1 then -1 else Lib.index r [10] + 1 := by
  have hp : ([10] : List UInt8).isPrefixOf (c :: r) = false := by simp [List.isPrefixOf, Ne.symm hc]
  rw [Lib.index, hp]
  simp
theorem splitK_other {c : UInt8} (hc : c ≠ 10) (r : List UInt8) (k : Nat) {h : List UInt8} {t : List (List UInt8)} (e : Lib.splitK [10] 0 k r = h :: t) : Lib.splitK [10] 0 k (c :: r) = (c :: h) :: t := by
  cases k with
  | zero =>
    simp only [Lib.splitK] at e ⊢
    obtain ⟨rfl, rfl⟩ := List.cons.inj e
    rfl
  | succ k =>
    have hix := index_other hc r
    unfold Lib.splitK at e ⊢
    by_cases hm : (Lib.index r [10] == -1) = true
    · rw [if_pos hm] at e hix
      rw [if_pos (by rw [hix]; rfl)]
      obtain ⟨rfl, rfl⟩ := List.cons.inj e
      rfl
    · rw [if_neg hm] at e hix
      have hge := Lib.index_ge r [10]
      have hne : Lib.index r [10] ≠ -1 := fun e => hm (beq_iff_eq.2 e)
      have h1 : (Lib.index r [10] + 1).toNat = (Lib.index r [10]).toNat + 1 := by omega
      rw [if_neg (by rw [hix, beq_iff_eq]; omega), hix, h1]
      obtain ⟨rfl, rfl⟩ := List.cons.inj e
      simp
theorem splitK_cutL : ∀ l : List UInt8, Lib.splitK [10] 0 (Lib.count l [10]) l = cutL l
  | [] => by rw [Lib.count_one]; rfl
  | c :: r => by
    have ih := splitK_cutL r
    by_cases hc : c = 10
    · subst hc
      rw [Lib.count_cons_eq, Nat.add_comm, splitK_lf, ih, cutL_lf]
    · rw [Lib.count_cons_ne c 10 r hc]
      obtain ⟨h, t, e⟩ : ∃ h t, cutL r = h :: t := by
        cases hcut : cutL r with
        | nil => exact absurd hcut (cutL_ne r)
        | cons h t => exact ⟨h, t, rfl⟩
      rw [splitK_other hc r _ (ih.trans e), cutL_other hc e]
theorem join_cons2 (x y : List UInt8) (r : List (List UInt8)) : Lib.join (x :: y :: r) [10] = x ++ 10 :: Lib.join (y :: r) [10] := by
  rw [Lib.join_cons, Lib.join_cons]
  simp [Lib.joinTail]
theorem join_cutL : ∀ l : List UInt8, Lib.join (cutL l) [10] = l
  | [] => by simp [cutL, Lib.join_one]
  | c :: r => by
    have ih := join_cutL r
    obtain ⟨h, t, e⟩ : ∃ h t, cutL r = h :: t := by
      cases hcut : cutL r with
      | nil => exact absurd hcut (cutL_ne r)
      | cons h t => exact ⟨h, t, rfl⟩
    by_cases hc : c = 10
    · subst hc
      rw [cutL_lf, e, join_cons2, ← e, ih]
      rfl
    · rw [cutL_other hc e]
      rw [e] at ih
      rw [Lib.join_cons] at ih ⊢
      rw [List.cons_append, ih]
theorem cutL_length (l : List UInt8) : (cutL l).length = l.count 10 + 1 := by
  induction l with
  | nil => rfl
  | cons c r ih =>
    obtain ⟨h, t, e⟩ : ∃ h t, cutL r = h :: t := by
      cases hcut : cutL r with
      | nil => exact absurd hcut (cutL_ne r)
      | cons h t => exact ⟨h, t, rfl⟩
    by_cases hc : c = 10
    · subst hc
      rw [cutL_lf, List.length_cons, ih, List.count_cons_self]
    · rw [cutL_other hc e, List.count_cons_of_ne hc, ← ih, e]
      rfl
theorem cutL_clean : ∀ (l : List UInt8), ∀ x ∈ cutL l, (10 : UInt8) ∉ x
  | [], x, hx => by
    obtain rfl : x = [] := by simpa [cutL] using hx
    simp
  | c :: r, x, hx => by
    have ih := cutL_clean r
    obtain ⟨h, t, e⟩ : ∃ h t, cutL r = h :: t := by
      cases hcut : cutL r with
      | nil => exact absurd hcut (cutL_ne r)
      | cons h t => exact ⟨h, t, rfl⟩
    by_cases hc : c = 10
    · subst hc
      rw [cutL_lf] at hx
      rcases List.mem_cons.1 hx with rfl | hx
      · simp
      · exact ih x hx
    · rw [cutL_other hc e] at hx
      rw [e] at ih
      rcases List.mem_cons.1 hx with rfl | hx
      · intro hm
        rcases List.mem_cons.1 hm with h1 | h1
        · exact hc h1.symm
        · exact ih h (by simp) h1
      · exact ih x (List.mem_cons_of_mem _ hx)
theorem cutL_plain : ∀ (x : List UInt8), (10 : UInt8) ∉ x → cutL x = [x]
  | [], _ => rfl
  | c :: r, hx => by
    have hc : c ≠ 10 := fun e => hx (by simp [e])
    rw [cutL_other hc (cutL_plain r (fun h => hx (List.mem_cons_of_mem _ h)))]
theorem cutL_lf_mid : ∀ (x : List UInt8) (r : List UInt8), (10 : UInt8) ∉ x → cutL (x ++ 10 :: r) = x :: cutL r
  | [], r, _ => cutL_lf r
  | c :: s, r, hx => by
    have hc : c ≠ 10 := fun e => hx (by simp [e])
    rw [List.cons_append, cutL_other hc (cutL_lf_mid s r (fun h => hx (List.mem_cons_of_mem _ h)))]
theorem cutL_join : ∀ (xs : List (List UInt8)), xs ≠ [] → (∀ x ∈ xs, (10 : UInt8) ∉ x) → cutL (Lib.join xs [10]) = xs
  | [], h, _ => absurd rfl h
  | [x], _, h => by rw [Lib.join_one]; exact cutL_plain x (h x (by simp))
  | x :: y :: r, _, h => by
    rw [join_cons2, cutL_lf_mid x _ (h x (by simp)), cutL_join (y :: r) (by simp) (fun z hz => h z (List.mem_cons_of_mem _ hz))]
/-- One byte more. -/
theorem cutL_snoc_lf : ∀ (l : List UInt8), cutL (l ++ [10]) = cutL l ++ [[]]
  | [] => by simp [cutL]
  | c :: r => by
    have ih := cutL_snoc_lf r
    obtain ⟨h, t, e⟩ : ∃ h t, cutL r = h :: t := by
      cases hcut : cutL r with
      | nil => exact absurd hcut (cutL_ne r)
      | cons h t => exact ⟨h, t, rfl⟩
    by_cases hc : c = 10
    · subst hc
      rw [List.cons_append, cutL_lf, cutL_lf, ih]
      rfl
    · rw [List.cons_append, cutL_other hc e, cutL_other hc (ih.trans (by rw [e]; rfl))]
      rfl
theorem cutL_snoc {c : UInt8} (hc : c ≠ 10) : ∀ (l : List UInt8) (d : List (List UInt8)) (x : List UInt8), cutL l = d ++ [x] → cutL (l ++ [c]) = d ++ [x ++ [c]]
  | [], d, x, e => by
    have e' : [([] : List UInt8)] = d ++ [x] := e
    cases d with
    | nil =>
      obtain rfl : x = [] := by simpa using e'.symm
      rw [List.nil_append, cutL_other hc (r := []) rfl]
      rfl
    | cons y d => simp at e'
  | b :: r, d, x, e => by
    obtain ⟨h, t, e2⟩ : ∃ h t, cutL r = h :: t := by
      cases hcut : cutL r with
      | nil => exact absurd hcut (cutL_ne r)
      | cons h t => exact ⟨h, t, rfl⟩
    rw [List.cons_append]
    by_cases hb : b = 10
    · subst hb
      rw [cutL_lf] at e ⊢
      cases d with
      | nil =>
        simp at e
        exact absurd e.2 (cutL_ne r)
      | cons y d =>
        obtain ⟨rfl, e3⟩ := List.cons.inj e
        rw [cutL_snoc hc r d x e3]
        rfl
    · rw [cutL_other hb e2] at e
      cases d with
      | nil =>
        obtain ⟨rfl, rfl⟩ := List.cons.inj e
        have := cutL_snoc hc r [] h e2
        rw [cutL_other hb this]
        rfl
      | cons y d =>
        obtain ⟨rfl, rfl⟩ := List.cons.inj e
        have := cutL_snoc hc r (h :: d) x e2
        rw [cutL_other hb this]
        rfl

end Go.Proofs.YtaobohlcpgnebaaDoor
