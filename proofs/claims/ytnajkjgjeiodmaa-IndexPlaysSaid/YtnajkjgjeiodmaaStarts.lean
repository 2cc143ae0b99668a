/-
  PLAIN LAWS ON WHERE LINES BEGIN IN A TEXT (a list of bytes). No program, no conditions.
-/
namespace Go.Proofs.Ytnajkjgjeiodmaa

/-- The places behind line feeds, o being the text's first place. -/
def brk (o : Int) : List UInt8 → List Int
  | [] => []
  | c :: r => if c = 10 then (o + 1) :: brk (o + 1) r else brk (o + 1) r
/-- Where lines begin. -/
def starts (t : List UInt8) : List Int := 0 :: brk 0 t
/-- How many line feeds there are. -/
def nl : List UInt8 → Nat
  | [] => 0
  | c :: r => (if c = 10 then 1 else 0) + nl r
/-- Where lines begin, and where one more would. -/
def bnd (t : List UInt8) : List Int := starts t ++ [(t.length : Int) + 1]

theorem brk_append (o : Int) (a b : List UInt8) : brk o (a ++ b) = brk o a ++ brk (o + a.length) b := by
  induction a generalizing o with
  | nil => simp [brk]
  | cons c r ih =>
    simp only [List.cons_append, brk, ih, List.length_cons]
    have e : o + 1 + (r.length : Int) = o + ((r.length + 1 : Nat) : Int) := by omega
    rw [e]
    split <;> rfl
theorem nl_append (a b : List UInt8) : nl (a ++ b) = nl a + nl b := by
  induction a with
  | nil => simp [nl]
  | cons c r ih => simp only [List.cons_append, nl, ih]; omega
theorem brk_length (o : Int) (t : List UInt8) : (brk o t).length = nl t := by
  induction t generalizing o with
  | nil => rfl
  | cons c r ih =>
    simp only [brk, nl]
    split <;> simp [ih] <;> omega
theorem nl_le (t : List UInt8) : nl t ≤ t.length := by
  induction t with
  | nil => simp [nl]
  | cons c r ih => simp only [nl, List.length_cons]; split <;> omega
theorem brk_mem (o : Int) (t : List UInt8) : ∀ x ∈ brk o t, o < x ∧ x ≤ o + t.length := by
  induction t generalizing o with
  | nil => intro x hx; cases hx
  | cons c r ih =>
    intro x hx
    simp only [brk] at hx
    simp only [List.length_cons]
    split at hx
    · rcases List.mem_cons.1 hx with rfl | hx
      · omega
      · have := ih _ x hx; omega
    · have := ih _ x hx; omega
theorem brk_shift (o d : Int) (t : List UInt8) : brk (o + d) t = (brk o t).map (· + d) := by
  induction t generalizing o with
  | nil => rfl
  | cons c r ih =>
    simp only [brk]
    have e : o + d + 1 = o + 1 + d := by omega
    rw [e, ih]
    split <;> simp
theorem starts_length (t : List UInt8) : (starts t).length = nl t + 1 := by simp [starts, brk_length]
theorem starts_split (t : List UInt8) (k : Nat) (hk : k ≤ t.length) : starts t = (0 :: brk 0 (t.take k)) ++ brk k (t.drop k) := by
  have e : starts t = 0 :: brk 0 (t.take k ++ t.drop k) := by rw [List.take_append_drop]; rfl
  rw [e, brk_append, List.length_take, Nat.min_eq_left hk]
  simp
theorem starts_le (t : List UInt8) (k : Nat) (hk : k ≤ t.length) (j : Nat) (x : Int) (hx : (starts t)[j]? = some x) : x ≤ (k : Int) ↔ j ≤ nl (t.take k) := by
  rw [starts_split t k hk] at hx
  have hl : (0 :: brk 0 (t.take k)).length = nl (t.take k) + 1 := by simp [brk_length]
  by_cases hj : j < (0 :: brk 0 (t.take k)).length
  · rw [List.getElem?_append_left hj] at hx
    have hm := List.mem_of_getElem? hx
    have : x ≤ (k : Int) := by
      rcases List.mem_cons.1 hm with rfl | hm
      · omega
      · have := brk_mem _ _ _ hm
        rw [List.length_take] at this
        omega
    constructor
    · intro _; omega
    · intro _; exact this
  · rw [List.getElem?_append_right (by omega)] at hx
    have hm := List.mem_of_getElem? hx
    have := brk_mem _ _ _ hm
    constructor
    · intro _; omega
    · intro _; omega
theorem starts_range (t : List UInt8) : ∀ x ∈ starts t, 0 ≤ x ∧ x ≤ t.length := by
  intro x hx
  rcases List.mem_cons.1 hx with rfl | hx
  · omega
  · have := brk_mem _ _ _ hx; omega
theorem starts_nil : starts [] = [0] := rfl
theorem bnd_length (t : List UInt8) : (bnd t).length = nl t + 2 := by simp [bnd, starts_length]
theorem bnd_start (t : List UInt8) (j : Nat) (hj : j < nl t + 1) : (bnd t)[j]? = (starts t)[j]? := by
  rw [bnd, List.getElem?_append_left (by rw [starts_length]; exact hj)]
theorem bnd_last (t : List UInt8) : (bnd t)[nl t + 1]? = some ((t.length : Int) + 1) := by
  rw [bnd, List.getElem?_append_right (by rw [starts_length]; omega), starts_length]
  simp
/-- A text put in. -/
theorem starts_insert (t s : List UInt8) (k : Nat) (hk : k ≤ t.length) :
    starts (t.take k ++ s ++ t.drop k) = (0 :: brk 0 (t.take k)) ++ brk k s ++ (brk k (t.drop k)).map (· + (s.length : Int)) := by
  have e : starts (t.take k ++ s ++ t.drop k) = 0 :: brk 0 (t.take k ++ s ++ t.drop k) := rfl
  rw [e, brk_append, brk_append, ← brk_shift, List.length_append, List.length_take, Nat.min_eq_left hk]
  simp
/-- Bytes taken out. -/
theorem starts_delete (t : List UInt8) (k n : Nat) (hk : k + n ≤ t.length) :
    starts (t.take k ++ t.drop (k + n)) = (0 :: brk 0 (t.take k)) ++ (brk (k + n : Nat) (t.drop (k + n))).map (· + (-(n : Int))) := by
  have e : starts (t.take k ++ t.drop (k + n)) = 0 :: brk 0 (t.take k ++ t.drop (k + n)) := rfl
  have e2 : (0 : Int) + ((min k t.length : Nat) : Int) = ((k + n : Nat) : Int) + (-(n : Int)) := by omega
  rw [e, brk_append, List.length_take, e2, brk_shift]
  simp
theorem nl_take_le (t : List UInt8) {j k : Nat} (h : j ≤ k) : nl (t.take j) ≤ nl (t.take k) := by
  have e : t.take k = t.take j ++ (t.take k).drop j := by
    have := List.take_append_drop j (t.take k)
    rw [List.take_take, Nat.min_eq_left h] at this
    exact this.symm
  rw [e, nl_append]; omega
theorem nl_take_total (t : List UInt8) (k : Nat) : nl (t.take k) ≤ nl t := by
  have := nl_append (t.take k) (t.drop k)
  rw [List.take_append_drop] at this
  omega

end Go.Proofs.Ytnajkjgjeiodmaa
