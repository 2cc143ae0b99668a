/-
  macro.Stack: its last frame, opened and turned. Conditions: none.
-/
import Derived.Test.YtaobohlcpgnebaaDoorMq
namespace Go.Proofs.YtaobohlcpgnebaaDoor
open Go.RowKit
open Go.Proofs (Tryd.prog)

theorem fcells_length (fs : List Fr) : (fs.flatMap fcells).length = fs.length * 3 := by
  induction fs with
  | nil => rfl
  | cons f r ih => simp only [List.flatMap_cons, List.length_append, ih, List.length_cons]; simp [fcells]; omega
/-- The row of a stack that has a last frame, and how it may be turned. -/
theorem Mac.last {w : World} {x : Nat} {fp : List Nat} {fs : List Fr} {f : Fr} {fuel left depth : Nat} (h : Mac w x fp (fs ++ [f]) fuel left depth) :
    ∃ g lc cur, w.heap[x]? = some (.cells #[.slice (some ⟨g, 0, none⟩) (fs.length + 1) lc, .int .i64 (fuel : Int), .int .i64 (left : Int), .int .i64 (depth : Int)] 73 (0, 0)) ∧ w.heap[g]? = some (.cells cur 76 (0, 0)) ∧ g ∈ fp ∧ g ≠ x ∧
      cur[fs.length * 3]? = some f.1 ∧ cur[fs.length * 3 + 1]? = some (.int .i64 (f.2.2.1 : Int)) ∧ cur[fs.length * 3 + 2]? = some (.int .i64 (f.2.2.2 : Int)) ∧ fs.length + 1 ≤ lc ∧ lc ≤ maxLen ∧ RdB w f.1 f.2.1 ∧
      (∀ (w' : World) (cur' : Array Value) (f' : Fr), Frm [g] w w' → w'.heap[g]? = some (.cells cur' 76 (0, 0)) → cur'.size = cur.size → f'.1 = f.1 → f'.2.1 = f.2.1 → cur'.toList.take ((fs.length + 1) * 3) = fs.flatMap fcells ++ fcells f' → Mac w' x fp (fs ++ [f']) fuel left depth) ∧
      (∀ w' : World, Frm [x] w w' → w'.heap[x]? = some (.cells #[.slice (some ⟨g, 0, none⟩) fs.length lc, .int .i64 (fuel : Int), .int .i64 (left : Int), .int .i64 (depth : Int)] 73 (0, 0)) → Mac w' x fp fs fuel left depth) ∧
      cur.toList.take ((fs.length + 1) * 3) = fs.flatMap fcells ++ fcells f := by
  obtain ⟨lv, h1, h2, h3, h4, h5, h6⟩ := h
  have hl := h2.1
  rcases h2.2 with ⟨_, h0⟩ | ⟨g, lc, cur, rfl, hb, hg, k1, k2, k3, k4⟩
  · simp at h0
  have hn : (fs ++ [f]).length = fs.length + 1 := by simp
  rw [hn] at h1 k1 k4 h4
  have hfl : (fs ++ [f]).flatMap fcells = fs.flatMap fcells ++ fcells f := by simp
  rw [hfl] at k4
  have hat : ∀ j u, (fcells f)[j]? = some u → cur[fs.length * 3 + j]? = some u := fun j u hj => by
    have hj3 : j < 3 := by
      have := (List.getElem?_eq_some_iff.1 hj).1
      simpa [fcells] using this
    have e : (cur.toList.take ((fs.length + 1) * 3))[fs.length * 3 + j]? = some u := by
      rw [k4, List.getElem?_append_right (by rw [fcells_length]; omega), fcells_length, Nat.add_sub_cancel_left]
      exact hj
    rw [List.getElem?_take_of_lt (by omega)] at e
    simpa using e
  have hgf := h4 g rfl
  have hro := hn
  refine ⟨g, lc, cur, h1, hg, hgf.1, hgf.2, hat 0 _ rfl, hat 1 _ rfl, hat 2 _ rfl, k1, k2, (h6 f (by simp)).1, ?_, ?_, k4⟩
  · intro w' cur' f' hf hg' hs e1 e2 ht
    refine ⟨_, hf.heap h1 (by simpa using fun e => hgf.2 e.symm), ⟨?_, .inr ⟨g, lc, cur', by simp, hb, hg', by simpa using k1, k2, by rw [hs]; exact k3, ?_⟩⟩, h3, fun b hb' => by simpa using h4 b hb', fun b hb' => Nat.lt_of_lt_of_le (h5 b hb') hf.size, ?_⟩
    · rw [fcells_length]
    · rw [show (fs ++ [f']).length = fs.length + 1 by simp, show (fs ++ [f']).flatMap fcells = fs.flatMap fcells ++ fcells f' by simp]
      exact ht
    · intro q hq
      have key : RdB w' q.1 q.2.1 ∧ ∀ b, q.1.ownBlock = some b → b ∈ fp ∧ b ≠ x ∧ (Value.slice (some ⟨g, 0, none⟩) (fs ++ [f]).length lc).ownBlock ≠ some b := by
        rcases List.mem_append.1 hq with h | h
        · have := h6 q (List.mem_append_left _ h)
          exact ⟨Rd.frm this.1 hf (fun b hb' e => (this.2 b e).2.2 (by simp at hb'; subst hb'; rfl)), this.2⟩
        · obtain rfl : q = f' := by simpa using h
          have := h6 f (by simp)
          rw [e1, e2]
          exact ⟨Rd.frm this.1 hf (fun b hb' e => (this.2 b e).2.2 (by simp at hb'; subst hb'; rfl)), this.2⟩
      exact ⟨key.1, fun b hb' => ⟨(key.2 b hb').1, (key.2 b hb').2.1, by simpa [Value.ownBlock] using (key.2 b hb').2.2⟩⟩
  · intro w' hf hx'
    refine ⟨_, hx', ⟨by rw [fcells_length], .inr ⟨g, lc, cur, rfl, hb, hf.heap hg (by simpa using hgf.2), by omega, k2, k3, ?_⟩⟩, h3, fun b hb' => by simpa [Value.ownBlock] using h4 b hb', fun b hb' => Nat.lt_of_lt_of_le (h5 b hb') hf.size, ?_⟩
    · have := congrArg (List.take (fs.length * 3)) k4
      rw [List.take_take, Nat.min_eq_left (by omega)] at this
      rw [this, List.take_append_of_le_length (by rw [fcells_length]; omega), List.take_of_length_le (by rw [fcells_length]; omega)]
    · intro q hq
      have := h6 q (List.mem_append_left _ hq)
      exact ⟨Rd.frm this.1 hf (fun b hb' e => (this.2 b e).2.1 (by simpa using hb')), fun b hb' => ⟨(this.2 b hb').1, (this.2 b hb').2.1, by simpa [Value.ownBlock] using (this.2 b hb').2.2⟩⟩

/-- One cell of the last frame put. -/
theorem last_put {fs : List Fr} {f f' : Fr} {cur : Array Value} (h : cur.toList.take ((fs.length + 1) * 3) = fs.flatMap fcells ++ fcells f) (j : Nat) (hj : j < 3) (u : Value) (hu : (fcells f).set j u = fcells f') :
    (cur.setIfInBounds (fs.length * 3 + j) u).toList.take ((fs.length + 1) * 3) = fs.flatMap fcells ++ fcells f' := by
  rw [Array.toList_setIfInBounds, List.take_set, h, List.set_append_right _ _ (by rw [fcells_length]; omega), fcells_length, Nat.add_sub_cancel_left, hu]

end Go.Proofs.YtaobohlcpgnebaaDoor
