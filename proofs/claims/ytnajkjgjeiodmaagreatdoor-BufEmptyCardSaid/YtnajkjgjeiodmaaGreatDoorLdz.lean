/-
  AN ARGUMENT THAT IS A SLICE OF TEXTS, OPENED; the library's number. Conditions: none.
-/
import Derived.Test.YtnajkjgjeiodmaaGreatDoorLdM
import Derived.Test.YtnajkjgjeiodmaaGreatDoorSs
import Derived.SliceStrings
namespace Go.Proofs.YtnajkjgjeiodmaaGreatDoor
open Go.ChangeShapes Go.WideShapes Go.ChangeAt Go.RowKit
open Go.Proofs (Tryz.prog)

theorem list_one {α : Type} {a b : α} (h : [a] = [b]) : a = b := by cases h; rfl
theorem spot_none {w : World} {a : Addr} {v : Value} (h : w.cell? a = some v) : a = ⟨a.block, a.off, none⟩ := by
  obtain ⟨b, o, s⟩ := a
  cases s with
  | none => rfl
  | some k =>
    unfold World.cell? at h
    split at h
    · simp at h
    · cases h
theorem weights_lit {H : Type} {P : Program} {t : TypeId} {s : ByteArray} : ∀ {ss : List ByteArray}, s ∈ ss → s.size ∈ DataW.weightsAll (H := H) P t (strs ss)
  | [], h => by cases h
  | x :: r, h => by
    rcases List.mem_cons.1 h with rfl | h
    · simp [strs, DataW.weightsAll, DataW.weights]
    · have := weights_lit (H := H) (P := P) (t := t) h
      simp only [strs, List.map_cons, DataW.weightsAll, List.mem_append] at this ⊢
      exact .inr this
set_option maxRecDepth 100000 in
theorem open_rdL {H : Type} {enc : TypeId × Value → H} {w : World} {held : Bool} {fuel : Nat} {a1 : Option Addr} {len1 cap1 : Nat} {d : DataW H} {pl : List MemPlace} {ts : List TypeId} {ds : List (DataW H)} {j : Nat}
    (h : DataW.trod enc Tryz.prog w 0 (fun _ => true) held fuel 22 [.slice a1 len1 cap1] = some (d, pl)) (hsz : (DataW.weightsEach Tryz.prog ts ds).all (· ≤ reachBytes) = true) (ht : ts[j]? = some 22) (hd : ds[j]? = some d) :
    ∃ L, RdL w (.slice a1 len1 cap1) L ∧ L.length ≤ 140737488355328 ∧ ∀ l ∈ L, l.length ≤ 140737488355328 := by
  rcases open_strings Tryz.underlying22 Tryz.underlying9 (by kernel_rfl) h with ⟨hcs, _⟩ | ⟨A, l, c, ss, hcs, _, hlc, hcm, hsl, hx, hcell, hs⟩
  · cases list_one hcs
    exact ⟨[], rdL_nil w, Nat.zero_le _, by simp⟩
  · cases list_one hcs
    obtain ⟨rfl, -⟩ := Prod.mk.inj hx
    have hsl2 : ss.length = cap1 := by rw [hsl]; simp
    have hL : ((ss.take len1).map (·.data.toList)).length = len1 := by rw [List.length_map, List.length_take]; omega
    have hbig : len1 ≤ 140737488355328 := by
      have := List.all_eq_true.1 hsz _ (DataW.weights_mem_each ht hd (((strs (H := H) (ss.take len1)).length + (strs (H := H) (ss.drop len1)).length) * Tryz.prog.bytesOf 9) (by
        simp only [DataW.weights, Tryz.underlying22, List.mem_cons]
        first | exact .inl rfl | exact .inl trivial))
      rw [show Tryz.prog.bytesOf 9 = 16 by kernel_rfl] at this
      have h2 := of_decide_eq_true this
      have h3 := reachBytes_lt
      simp only [strs, List.length_map, List.length_take, List.length_drop] at h2
      omega
    refine ⟨(ss.take len1).map (·.data.toList), ?_, by rw [hL]; exact hbig, fun x hx2 => ?_⟩
    · by_cases h0 : len1 = 0
      · refine .inl ⟨some A, cap1, by rw [h0], fun h => (by cases h), List.eq_nil_of_length_eq_zero (by rw [hL]; exact h0)⟩
      · have hc0 := hcell 0 (by omega)
        have hA := spot_none (show w.cell? A = some _ from hc0)
        obtain ⟨o, ho, _⟩ := cells_of_cell (show w.cell? A = some _ from hc0)
        refine .inr ⟨A.block, A.off, cap1, by rw [hL, ← hA], by rw [hL]; exact hlc, lt_of_heap ho, fun k x hk => ?_⟩
        rw [List.getElem?_map] at hk
        obtain ⟨s, hs1, hs2⟩ : ∃ s, (ss.take len1)[k]? = some s ∧ s.data.toList = x := by
          cases hq : (ss.take len1)[k]? with
          | none => rw [hq] at hk; cases hk
          | some s => rw [hq] at hk; exact ⟨s, rfl, Option.some.inj hk⟩
        have hk1 := (List.getElem?_eq_some_iff.1 hs1).1
        rw [List.length_take] at hk1
        rw [List.getElem?_take_of_lt (by omega)] at hs1
        have hc := hcell k (by omega)
        rw [List.getD_eq_getElem?_getD, hs1, hA, addr_add] at hc
        rw [hc, ← hs2]
        simp [strV]
    · obtain ⟨s, hs1, rfl⟩ := List.mem_map.1 hx2
      have := List.all_eq_true.1 hsz _ (DataW.weights_mem_each ht hd s.size (by
        simp only [DataW.weights, Tryz.underlying22, List.mem_cons, List.mem_append]
        exact .inr (.inl (weights_lit hs1))))
      have h2 : s.size ≤ reachBytes := by simpa using this
      have h3 := reachBytes_lt
      show s.size ≤ _
      omega

end Go.Proofs.YtnajkjgjeiodmaaGreatDoor
