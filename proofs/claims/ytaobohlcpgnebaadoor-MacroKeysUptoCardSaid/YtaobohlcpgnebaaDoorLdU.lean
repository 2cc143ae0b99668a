/-
  FOR THE STATEMENT OF THE SECOND FORM OF MacroKeys: what the bound on the arguments' bulk gives; a register that came in. Conditions: none.
-/
import Derived.Test.YtaobohlcpgnebaaDoorLdM
import Derived.Test.YtaobohlcpgnebaaDoorMk
import Derived.Test.YtaobohlcpgnebaaDoorLd
import Derived.SliceStrings
import Derived.Lib.SmallJoins
import Derived.Deep.DeepHandedRow
namespace Go.Proofs.YtaobohlcpgnebaaDoor
open Go.ChangeShapes Go.WideShapes Go.ChangeAt Go.RowKit
open Go.Proofs (Tryd.prog)

theorem bulk_strs {H : Type} : ∀ ss : List ByteArray, Rows.uptoBulkAll (strs ss : List (DataW H)) = (ss.map fun s => s.size + 1).sum
  | [] => rfl
  | s :: r => by
    have ih := bulk_strs (H := H) r
    unfold strs at ih ⊢
    rw [List.map_cons, List.map_cons, List.sum_cons]
    show Rows.uptoBulk _ + Rows.uptoBulkAll _ = _
    rw [ih]
    simp [Rows.uptoBulk]
theorem joined_bulk : ∀ ss : List ByteArray, (joined ss).length ≤ (ss.map fun s => s.size + 1).sum
  | [] => by simp [joined, Lib.join_nil]
  | s :: r => by
    have ih := joined_bulk r
    unfold joined at ih ⊢
    cases r with
    | nil => simp [Lib.join_one]
    | cons t r =>
      rw [List.map_cons, List.map_cons, Lib.join_cons, List.map_cons, List.sum_cons]
      rw [List.map_cons, Lib.join_cons] at ih
      simp only [List.length_append, Lib.joinTail, List.map_cons, List.flatten_cons, List.length_cons, List.length_nil] at ih ⊢
      have e : s.data.toList.length = s.size := by simp
      omega
theorem open_lines {H : Type} {enc : TypeId × Value → H} {W : World} {base : Nat} {spare : Nat → Bool} {held : Bool} {fuel : Nat} {v : Value} {x : DataW H × List MemPlace}
    (h : DataW.trod enc Tryd.prog W base spare held fuel 28 [v] = some x) : ∃ xs : List ByteArray, RdS W v xs ∧ xs.length ≤ maxLen ∧ (joined xs).length ≤ Rows.uptoBulk x.1 := by
  rcases open_strings Tryd.underlying28 Tryd.underlying9 (by kernel_rfl) h with ⟨hcs, _⟩ | ⟨a, len, cap, ss, hcs, _, hlc, hcm, hsl, hx, hcell, _⟩
  · obtain rfl : v = .slice none 0 0 := by simpa using hcs
    exact ⟨[], .inl ⟨none, 0, rfl, rfl⟩, by simp, by simp [joined, Lib.join_nil]⟩
  · obtain rfl : v = .slice (some a) len cap := by simpa using hcs
    have hls : len ≤ ss.length := by rw [hsl]; split <;> omega
    have htl : (ss.take len).length = len := by rw [List.length_take]; omega
    have hbulk : (joined (ss.take len)).length ≤ Rows.uptoBulk x.1 := by
      have h1 := joined_bulk (ss.take len)
      have h2 := bulk_strs (H := H) (ss.take len)
      rw [hx]
      show _ ≤ Rows.uptoBulkAll _ + Rows.uptoBulkAll _ + 1
      omega
    by_cases h0 : len = 0
    · subst h0
      exact ⟨[], .inl ⟨some a, cap, rfl, rfl⟩, by simp, by simp [joined, Lib.join_nil]⟩
    · obtain ⟨b, o, sp⟩ := a
      have hc0 := hcell 0 (by omega)
      have hsp : sp = none := by
        have e : (⟨b, o, sp⟩ : Addr).add 0 = ⟨b, o, sp⟩ := rfl
        rw [e] at hc0
        cases sp with
        | none => rfl
        | some q =>
          unfold World.cell? at hc0
          split at hc0 <;> simp at hc0
      subst hsp
      refine ⟨ss.take len, .inr ⟨b, o, cap, by rw [htl], by rw [htl]; exact hlc, ?_, fun j s hs => ?_⟩, by omega, hbulk⟩
      · have := World.block_lt_of_cell? _ _ hc0
        exact this
      · have hj : j < len := by
          have := (List.getElem?_eq_some_iff.1 hs).1
          rwa [htl] at this
        have hc := hcell j (by omega)
        rw [addr_add] at hc
        rw [hc]
        rw [List.getElem?_take_of_lt hj] at hs
        simp [List.getD, hs]
set_option maxRecDepth 100000 in
theorem open_reg {H : Type} {enc : TypeId × Value → H} {W : World} {base base' : Nat} {spare : Nat → Bool} {held : Bool} {r : Reach} {v : Value} {d : DataW H} {p : List MemPlace}
    (hv : Value.okWide Tryd.prog W r base' 42 v) (h : DataW.Trod enc Tryd.prog W base spare held 42 v d p) :
    ∃ (k : Int) (u : Value) (xs : List ByteArray), v = .agg #[.int .i64 k, u] ∧ (Lit.int .i64 k).wf = true ∧ RdS W u xs ∧ xs.length ≤ maxLen ∧ (joined xs).length ≤ Rows.uptoBulk d := by
  obtain ⟨v0, v1, y0, y1, n, rfl, rfl, rfl, h0, h1⟩ := Joins.open_agg2 Tryd.underlying42 (by kernel_rfl) (by kernel_rfl) hv h
  obtain ⟨k, e0, _, w0⟩ := DataW.trod_int Tryd.underlying3 h0
  obtain rfl : v0 = .int .i64 k := by simpa using e0
  obtain ⟨xs, hx, hl, hb⟩ := open_lines h1
  refine ⟨k, v1, xs, rfl, w0, hx, hl, ?_⟩
  show _ ≤ Rows.uptoBulkAll [y0.1, y1.1] + 1
  simp only [Rows.uptoBulkAll]
  omega
theorem open_bytes_c {H : Type} {enc : TypeId × Value → H} {base : Nat} {spare : Nat → Bool} {held : Bool} {w : World} {fuel : Nat} {v : Value} {x : DataW H × List MemPlace}
    (h : DataW.trod enc Tryd.prog w base spare held fuel 22 [v] = some x) : ∃ (l : List UInt8) (a : Option Addr) (c : Nat), v = .slice a l.length c ∧ l.length ≤ c ∧ l.length ≤ maxLen ∧ RdB w v l := by
  obtain ⟨l, h1, h2, _⟩ := open_bytes h
  rcases open_ints Tryd.underlying22 Tryd.underlying5 (by kernel_rfl) h with ⟨hcs, _⟩ | ⟨a, len, cap, zs, hcs, _, hlc, _⟩
  · obtain rfl : v = .slice none 0 0 := by simpa using hcs
    obtain ⟨a, c, e⟩ := h2.form
    obtain ⟨-, e1, -⟩ : none = a ∧ 0 = l.length ∧ 0 = c := by simpa using e
    exact ⟨l, none, 0, by rw [← e1], by omega, h1, h2⟩
  · obtain rfl : v = .slice (some a) len cap := by simpa using hcs
    obtain ⟨a', c, e⟩ := h2.form
    obtain ⟨-, e1, -⟩ : some a = a' ∧ len = l.length ∧ cap = c := by simpa using e
    exact ⟨l, some a, cap, by rw [← e1], by omega, h1, h2⟩

end Go.Proofs.YtaobohlcpgnebaaDoor
