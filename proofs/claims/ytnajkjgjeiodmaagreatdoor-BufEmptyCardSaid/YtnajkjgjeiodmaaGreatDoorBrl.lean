/-
  PLAIN LAWS OF Replace: the text that it comes to, and its size. Conditions: as each says.
-/
import Derived.Test.YtnajkjgjeiodmaaGreatDoorBpl
namespace Go.Proofs.YtnajkjgjeiodmaaGreatDoor
open Go

/-- The lines that Replace puts in. -/
def putL (cnt m : Nat) (L : List (List UInt8)) : List (List UInt8) := if m = cnt ∧ L.length = 0 then [[]] else L
theorem repl_ne {xs L : List (List UInt8)} {a m : Nat} (h : a + m ≤ xs.length) (hn : ¬ (m = xs.length ∧ L.length = 0)) (hx : xs ≠ []) : repl xs a m L ≠ [] := by
  intro e
  unfold repl at e
  have e2 := congrArg List.length e
  simp only [List.length_append, List.length_take, List.length_drop, List.length_nil] at e2
  exact hn ⟨by omega, by omega⟩
theorem some1_of_ne {xs : List (List UInt8)} (h : xs ≠ []) : some1 xs = xs := by unfold some1; rw [if_neg h]
theorem some1_repl_all {T : List UInt8} {L : List (List UInt8)} {a m : Nat} (hm : m = (cutL T).length) (h : a + m ≤ (cutL T).length) : some1 (repl (cutL T) a m L) = putL (cutL T).length m L := by
  rw [repl_all a m hm h]
  unfold some1 putL
  by_cases hl : L = []
  · rw [if_pos hl, if_pos ⟨hm, by rw [hl]; rfl⟩]
  · rw [if_neg hl, if_neg (fun hh => hl (List.eq_nil_of_length_eq_zero hh.2))]
theorem putL_other {cnt m : Nat} {L : List (List UInt8)} (h : m ≠ cnt) : putL cnt m L = L := by unfold putL; rw [if_neg (fun hh => h hh.1)]
theorem cut_parts (xs : List (List UInt8)) (a m : Nat) : xs.take a ++ (xs.take (a + m)).drop a ++ xs.drop (a + m) = xs := by
  have h1 : xs.take a = (xs.take (a + m)).take a := by rw [List.take_take, Nat.min_eq_left (by omega)]
  rw [h1, List.take_append_drop, List.take_append_drop]
theorem size_repl {T : List UInt8} {L : List (List UInt8)} {a m : Nat} (h : a + m ≤ (cutL T).length) :
    T.length + 1 + sizeL (putL (cutL T).length m L) = sizeL (some1 (repl (cutL T) a m L)) + sizeL (((cutL T).take (a + m)).drop a) := by
  have hs := congrArg sizeL (cut_parts (cutL T) a m)
  rw [sizeL_append, sizeL_append, sizeL_cutL] at hs
  by_cases hm : m = (cutL T).length
  · rw [some1_repl_all hm h]
    have ha : a = 0 := by omega
    rw [ha] at hs ⊢
    have h0 : sizeL ((cutL T).take 0) = 0 := by simp [sizeL, joinT_nil]
    have h1 : sizeL ((cutL T).drop (0 + m)) = 0 := by
      rw [List.drop_of_length_le (show (cutL T).length ≤ 0 + m by omega)]
      rfl
    omega
  · rw [putL_other hm, some1_of_ne (repl_ne h (fun hh => hm hh.1) (cutL_ne T))]
    unfold repl
    rw [sizeL_append, sizeL_append]
    omega
theorem txt_all {T : List UInt8} {L : List (List UInt8)} {a m : Nat} (hm : m = (cutL T).length) (h : a + m ≤ (cutL T).length) : Lib.join (some1 (repl (cutL T) a m L)) [10] = Lib.join (putL (cutL T).length m L) [10] := by rw [some1_repl_all hm h]
theorem txt_end {T : List UInt8} {L : List (List UInt8)} {a m : Nat} (hm : m ≠ (cutL T).length) (h : a + m = (cutL T).length) :
    Lib.join (some1 (repl (cutL T) a m L)) [10] = T.take (pos (cutL T) a - 1) ++ (if L = [] then [] else 10 :: Lib.join L [10]) := by
  rw [some1_of_ne (repl_ne (by omega) (fun hh => hm hh.1) (cutL_ne T)), repl_end (by omega) h]
theorem txt_in {T : List UInt8} {L : List (List UInt8)} {a m : Nat} (h : a + m < (cutL T).length) :
    Lib.join (some1 (repl (cutL T) a m L)) [10] = T.take (pos (cutL T) a) ++ joinT L ++ T.drop (pos (cutL T) (a + m)) := by
  rw [some1_of_ne (repl_ne (by omega) (fun hh => by have := hh.1; omega) (cutL_ne T)), repl_inner h]
theorem txt_none {T : List UInt8} (a : Nat) : Lib.join (some1 (repl (cutL T) a 0 [])) [10] = T := by
  rw [repl_none, some1_of_ne (cutL_ne T), join_cutL]
theorem join_le (L : List (List UInt8)) : (Lib.join L [10]).length ≤ sizeL L := by
  by_cases h : L = []
  · subst h; simp [Lib.join_nil]
  · rw [sizeL_join h]; omega
theorem pos_one {xs : List (List UInt8)} {a : Nat} (h : 0 < a) (hx : a ≤ xs.length) : 1 ≤ pos xs a := by
  obtain ⟨x, hx0⟩ : ∃ x, xs[0]? = some x := ⟨xs[0]'(by omega), List.getElem?_eq_getElem _⟩
  have h1 := pos_succ hx0
  have h2 := pos_mono xs (show 0 + 1 ≤ a by omega)
  omega
theorem pos_end (T : List UInt8) : pos (cutL T) (cutL T).length = T.length + 1 := by
  have := pos_all (cutL_ne T)
  rwa [join_cutL] at this
theorem pos_top (T : List UInt8) (k : Nat) : pos (cutL T) k ≤ T.length + 1 := by
  have := pos_le (cutL_ne T) k
  rwa [join_cutL] at this
theorem pos_lt {T : List UInt8} {k : Nat} (h : k < (cutL T).length) : pos (cutL T) k ≤ T.length := by
  obtain ⟨x, hx⟩ : ∃ x, (cutL T)[k]? = some x := ⟨(cutL T)[k], List.getElem?_eq_getElem _⟩
  have h1 := pos_succ hx
  have h2 := pos_top T (k + 1)
  omega

end Go.Proofs.YtnajkjgjeiodmaaGreatDoor
