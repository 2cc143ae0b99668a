/-
  PIECES, WITHOUT THE PROGRAM: the text that a list of pieces tells, cut, widened, put together. Conditions: none of a program.
-/
import Derived.Test.YtnajkjgjeiodmaaGreatDoorVecP
namespace Go.Proofs.YtnajkjgjeiodmaaGreatDoor.Pp

abbrev Pc : Type := Bool × Int × Int
/-- What a piece tells: out of the first text, or out of what was added. -/
def txt (f a : List UInt8) (p : Pc) : List UInt8 := ((if p.1 then a else f).drop p.2.1.toNat).take p.2.2.toNat
/-- A piece lies within its text, and is not empty. -/
def Okp (f a : List UInt8) (p : Pc) : Prop := 0 ≤ p.2.1 ∧ 0 < p.2.2 ∧ p.2.1 + p.2.2 ≤ ((if p.1 then a else f).length : Nat)
def told (f a : List UInt8) (ps : List Pc) : List UInt8 := ps.flatMap (txt f a)

theorem txt_length {f a : List UInt8} {p : Pc} (h : Okp f a p) : ((txt f a p).length : Int) = p.2.2 := by
  obtain ⟨h0, h1, h2⟩ := h
  rw [txt, List.length_take, List.length_drop]
  omega
theorem told_nil (f a : List UInt8) : told f a [] = [] := rfl
theorem told_cons (f a : List UInt8) (p : Pc) (ps : List Pc) : told f a (p :: ps) = txt f a p ++ told f a ps := by simp [told]
theorem told_append (f a : List UInt8) (ps qs : List Pc) : told f a (ps ++ qs) = told f a ps ++ told f a qs := by simp [told]
theorem told_split (f a : List UInt8) (ps : List Pc) (k : Nat) : told f a ps = told f a (ps.take k) ++ told f a (ps.drop k) := by
  rw [← told_append, List.take_append_drop]
theorem told_next (f a : List UInt8) (ps : List Pc) (k : Nat) (p : Pc) (h : ps[k]? = some p) : told f a (ps.take (k + 1)) = told f a (ps.take k) ++ txt f a p := by
  rw [List.take_add_one, h, told_append]
  simp [told]
theorem txt_ne {f a : List UInt8} {p : Pc} (h : Okp f a p) : txt f a p ≠ [] := fun e => by
  have := txt_length h
  rw [e] at this
  have := h.2.1
  simp at *
  omega

/-- A piece cut in two. -/
theorem cut_ok {f a : List UInt8} {b : Bool} {o n d : Int} (h : Okp f a (b, o, n)) (h0 : 0 < d) (h1 : d < n) : Okp f a (b, o, d) ∧ Okp f a (b, o + d, n - d) ∧ txt f a (b, o, d) ++ txt f a (b, o + d, n - d) = txt f a (b, o, n) := by
  obtain ⟨g0, g1, g2⟩ := h
  simp only at g0 g1 g2
  refine ⟨⟨by simpa using g0, by simpa using h0, by simp only; omega⟩, ⟨by simp only; omega, by simp only; omega, by simp only; omega⟩, ?_⟩
  simp only [txt]
  have e1 : (o + d).toNat = o.toNat + d.toNat := by omega
  have e2 : n.toNat = d.toNat + (n - d).toNat := by omega
  rw [e1, e2, List.take_add, ← List.drop_drop]

/-- What was added grows at its end: no piece tells anything else. -/
theorem grow_ok {f a s : List UInt8} {p : Pc} (h : Okp f a p) : Okp f (a ++ s) p ∧ txt f (a ++ s) p = txt f a p := by
  obtain ⟨b, o, n⟩ := p
  obtain ⟨g0, g1, g2⟩ := h
  simp only at g0 g1 g2
  cases b with
  | false => exact ⟨⟨g0, g1, g2⟩, rfl⟩
  | true =>
    simp only [if_true] at g2
    refine ⟨⟨g0, g1, by simp only [if_true, List.length_append]; omega⟩, ?_⟩
    simp only [txt, if_true]
    rw [List.drop_append_of_le_length (by omega), List.take_append_of_le_length (by rw [List.length_drop]; omega)]
theorem told_grow {f a : List UInt8} (s : List UInt8) : ∀ (ps : List Pc), (∀ p ∈ ps, Okp f a p) → told f (a ++ s) ps = told f a ps
  | [], _ => rfl
  | p :: ps, h => by rw [told_cons, told_cons, (grow_ok (h p (by simp))).2, told_grow s ps (fun q hq => h q (by simp [hq]))]
/-- The last added piece, widened. -/
theorem widen_ok {f a s : List UInt8} {o n : Int} (h : Okp f a (true, o, n)) (he : o + n = (a.length : Nat)) : Okp f (a ++ s) (true, o, n + (s.length : Nat)) ∧ txt f (a ++ s) (true, o, n + (s.length : Nat)) = txt f a (true, o, n) ++ s := by
  obtain ⟨g0, g1, g2⟩ := h
  simp only [if_true] at g0 g1 g2
  refine ⟨⟨g0, by simp only; omega, by simp only [if_true, List.length_append]; omega⟩, ?_⟩
  simp only [txt, if_true]
  rw [List.drop_append_of_le_length (by omega), List.take_of_length_le (by rw [List.length_append, List.length_drop]; omega), List.take_of_length_le (by rw [List.length_drop]; omega)]
/-- A new piece. -/
theorem fresh_ok {f a s : List UInt8} (h : s ≠ []) : Okp f (a ++ s) (true, (a.length : Nat), (s.length : Nat)) ∧ txt f (a ++ s) (true, (a.length : Nat), (s.length : Nat)) = s := by
  have hl : 0 < s.length := List.length_pos_iff.2 h
  refine ⟨⟨by simp only; omega, by simp only; omega, by simp only [if_true, List.length_append]; omega⟩, ?_⟩
  simp only [txt, if_true]
  simp

/-- Where a text falls in two. -/
theorem split_at {A B T : List UInt8} {k : Nat} (h : T = A ++ B) (hk : A.length = k) : A = T.take k ∧ B = T.drop k := by
  subst h hk
  simp

end Go.Proofs.YtnajkjgjeiodmaaGreatDoor.Pp
