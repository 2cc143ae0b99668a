/-
  AN ARGUMENT THAT IS A LIST OF ACTS (a struct of a byte, two integers and a text), OPENED TO CELLS. Conditions: none of a program.
-/
import Derived.Test.YtnajkjgjeiodmaaRow
import Derived.Deep.Slices
import Derived.Lib.SmallJoins
namespace Go.Proofs.Ytnajkjgjeiodmaa
open Go.ChangeShapes Go.WideShapes Go.ChangeAt Go.RowKit

theorem u8_range {a : Int} (h : (Lit.int .u8 a).wf = true) : 0 ≤ a ∧ a ≤ 255 := by
  have h6 : IntKind.u8.min ≤ a ∧ a ≤ IntKind.u8.max := by simpa [Lit.wf] using h
  have e1 : IntKind.u8.min = 0 := by decide
  have e2 : IntKind.u8.max = 255 := by decide
  omega
theorem list_one {α : Type} {a b : α} (h : [a] = [b]) : a = b := by cases h; rfl

theorem open_acts {H : Type} {enc : TypeId × Value → H} {P : Program} {w : World} {held : Bool} {t e : TypeId} {f0 f1 f2 f3 : Field} {fuel : Nat} {a1 : Option Addr} {len1 cap1 : Nat} {x : DataW H × List MemPlace}
    (hT : P.underlying t = some (.slice e)) (hE : P.underlying e = some (.struct #[f0, f1, f2, f3])) (hC : P.cellsOf e = 4) (o0 : f0.offset = 0) (o1 : f1.offset = 1) (o2 : f2.offset = 2) (o3 : f3.offset = 3)
    (c0 : P.cellsOf f0.type = 1) (c1 : P.cellsOf f1.type = 1) (c2 : P.cellsOf f2.type = 1) (c3 : P.cellsOf f3.type = 1)
    (h0 : P.underlying f0.type = some (.int .u8)) (h1 : P.underlying f1.type = some (.int .i64)) (h2 : P.underlying f2.type = some (.int .i64)) (h3 : P.underlying f3.type = some .string)
    (h : DataW.trod enc P w 0 (fun _ => true) held fuel t [.slice a1 len1 cap1] = some x) :
    len1 ≤ maxLen ∧ ∀ i, i < len1 → ∃ (y : Addr) (v : Nat) (o n : Int) (S : ByteArray), a1 = some y ∧ v ≤ 255 ∧ S.size ≤ maxLen ∧ w.cell? (y.add (i * 4)) = some (.int .u8 v) ∧ w.cell? ⟨(y.add (i * 4)).block, (y.add (i * 4)).off + 1, none⟩ = some (.int .i64 o) ∧
      w.cell? ⟨(y.add (i * 4)).block, (y.add (i * 4)).off + 2, none⟩ = some (.int .i64 n) ∧ w.cell? ⟨(y.add (i * 4)).block, (y.add (i * 4)).off + 3, none⟩ = some (.string S) := by
  rcases Deep.open_slice hT h with ⟨hcs, _⟩ | ⟨A, l, c, m, n, D, Pl, hcs, _, hl, hm, hmm, _, hi⟩
  · cases list_one hcs
    exact ⟨Nat.zero_le _, fun i hi => by omega⟩
  · cases list_one hcs
    refine ⟨Nat.le_trans hl hm, fun i hil => ?_⟩
    obtain ⟨cs, hc, ht⟩ := hi i (by rw [hmm]; simp; omega)
    rw [hC] at hc
    obtain ⟨_, hcl, hat⟩ := World.cells?_some hc
    obtain ⟨y0, y1, y2, y3, n', _, _, g0, g1, g2, g3⟩ := Joins.trod_struct4 hE ht
    match cs, hcl with
    | [q0, q1, q2, q3], _ =>
      rw [o0, c0] at g0
      rw [o1, c1] at g1
      rw [o2, c2] at g2
      rw [o3, c3] at g3
      obtain ⟨v, e0, _, w0⟩ := DataW.trod_int h0 g0
      obtain ⟨o, e1, _, _⟩ := DataW.trod_int h1 g1
      obtain ⟨r, e2, _, _⟩ := DataW.trod_int h2 g2
      obtain ⟨S, e3, _, w3⟩ := DataW.trod_string h3 g3
      have u0 := list_one e0
      have u1 := list_one e1
      have u2 := list_one e2
      have u3 := list_one e3
      clear e0 e1 e2 e3
      subst u0 u1 u2 u3
      have hv := u8_range w0
      obtain ⟨v, rfl⟩ := Int.eq_ofNat_of_zero_le hv.1
      exact ⟨A, v, o, r, S, rfl, by omega, w3, hat 0 (by omega), hat 1 (by omega), hat 2 (by omega), hat 3 (by omega)⟩

end Go.Proofs.Ytnajkjgjeiodmaa
