/-
  AN ARGUMENT THAT IS A LIST OF ACTS OF THE MACRO LAWS (a struct of a byte, keys and an integer), OPENED TO CELLS. Conditions: none.
-/
import Derived.Test.YtaobohlcpgnebaaDoorLdM
import Derived.Test.YtaobohlcpgnebaaDoorLd
import Derived.Deep.Slices
import Derived.Deep.Strs
namespace Go.Proofs.YtaobohlcpgnebaaDoor
open Go.ChangeShapes Go.WideShapes Go.ChangeAt Go.RowKit
open Go.Proofs (Tryd.prog)

theorem list_one {α : Type} {a b : α} (h : [a] = [b]) : a = b := by cases h; rfl
set_option maxRecDepth 100000 in
theorem open_macts {H : Type} {enc : TypeId × Value → H} {w : World} {held : Bool} {fuel : Nat} {a1 : Option Addr} {len1 cap1 : Nat} {x : DataW H × List MemPlace}
    (h : DataW.trod enc Tryd.prog w 0 (fun _ => true) held fuel 49 [.slice a1 len1 cap1] = some x) :
    len1 ≤ maxLen ∧ ∀ i, i < len1 → ∃ (q : Addr) (v : Nat) (K : List UInt8) (kv : Value) (n : Int), a1 = some q ∧ v ≤ 255 ∧ RdB w kv K ∧ K.length ≤ 9223372036854775807 ∧ -9223372036854775808 ≤ n ∧ n ≤ 9223372036854775807 ∧ w.cell? (q.add (i * 3)) = some (.int .u8 (v : Int)) ∧ w.cell? ⟨(q.add (i * 3)).block, (q.add (i * 3)).off + 1, none⟩ = some kv ∧ w.cell? ⟨(q.add (i * 3)).block, (q.add (i * 3)).off + 2, none⟩ = some (.int .i64 n) := by
  rcases Deep.open_slice Tryd.underlying49 h with ⟨hcs, _⟩ | ⟨A, l, c, m, n, D, Pl, hcs, _, hl, hm, hmm, _, hi⟩
  · cases list_one hcs
    exact ⟨Nat.zero_le _, fun i hi => by omega⟩
  · cases list_one hcs
    refine ⟨Nat.le_trans hl hm, fun i hil => ?_⟩
    obtain ⟨cs, hc, ht⟩ := hi i (by rw [hmm]; simp; omega)
    rw [show Tryd.prog.cellsOf 53 = 3 by kernel_rfl] at hc
    obtain ⟨_, hcl, hat⟩ := World.cells?_some hc
    obtain ⟨y0, y1, y2, n', _, _, g0, g1, g2⟩ := Deep.trod_struct3 Tryd.underlying53 ht
    match cs, hcl with
    | [q0, q1, q2], _ =>
      have g0' : DataW.trod enc Tryd.prog w 0 (fun _ => true) held n' 5 [q0] = some y0 := g0
      have g1' : DataW.trod enc Tryd.prog w 0 (fun _ => true) held n' 22 [q1] = some y1 := g1
      have g2' : DataW.trod enc Tryd.prog w 0 (fun _ => true) held n' 3 [q2] = some y2 := g2
      obtain ⟨v, e0, _, w0⟩ := DataW.trod_int Tryd.underlying5 g0'
      obtain ⟨K, k1, k2, _⟩ := open_bytes g1'
      obtain ⟨z, e2, _, w2⟩ := DataW.trod_int Tryd.underlying3 g2'
      have u0 := list_one e0
      have u2 := list_one e2
      clear e0 e2
      subst u0 u2
      obtain ⟨v, rfl⟩ := Int.eq_ofNat_of_zero_le (wf_u8 w0).1
      have hv := (wf_u8 w0).2
      exact ⟨A, v, K, q1, z, rfl, by omega, k2, by unfold maxLen at k1; omega, (wf_i64 w2).1, (wf_i64 w2).2, hat 0 (by omega), hat 1 (by omega), hat 2 (by omega)⟩

end Go.Proofs.YtaobohlcpgnebaaDoor
