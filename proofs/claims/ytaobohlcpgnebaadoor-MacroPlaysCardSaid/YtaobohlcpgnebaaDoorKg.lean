/-
  GENERAL LEMMAS FOR KEYS: slices of bytes that are read, owned, told as strings; texts read with any fuel. Conditions: none of a program's own.
-/
import Derived.Test.YtaobohlcpgnebaaDoorFst
namespace Go.Proofs.YtaobohlcpgnebaaDoor
open Go.RowKit
open Go.Proofs (Tryd.prog)

def encB (c : UInt8) : Value := .int .u8 (c.toNat : Int)
def szOf : Value → Nat
  | .string s => s.size
  | _ => 0
/-- The slice v of bytes reads as l. -/
def RdB (w : World) (v : Value) (l : List UInt8) : Prop := Rd w v l.length (l.map encB)
theorem addr_add (b o j : Nat) : (⟨b, o, none⟩ : Addr).add j = ⟨b, o + j, none⟩ := by unfold Addr.add; split <;> simp_all
theorem RdB.convert {w : World} {v : Value} {l : List UInt8} (h : RdB w v l) : (convert 22 9 v).run Tryd.prog w = .ok (.string ⟨l.toArray⟩) w := by
  rcases h with ⟨rfl, h0, _⟩ | ⟨a, c, rfl, hc⟩
  · obtain rfl : l = [] := List.eq_nil_of_length_eq_zero h0
    rw [run_convert_bytes_string w 22 9 5 none 0 0 Tryd.underlying22 Tryd.underlying5 Tryd.underlying9]
    rfl
  · refine run_convert_bytes_back (P := Tryd.prog) w 22 9 5 a c l Tryd.underlying22 Tryd.underlying5 Tryd.underlying9 (fun j hj => hc j _ (by simp [hj, encB]))
theorem Rd.frm {S : List Nat} {w w' : World} {v : Value} {n : Nat} {cs : List Value} (h : Rd w v n cs) (hf : Frm S w w') (hS : ∀ b ∈ S, v.ownBlock ≠ some b) : Rd w' v n cs := by
  rcases h with h | ⟨a, c, rfl, hc⟩
  · exact .inl h
  · exact .inr ⟨a, c, rfl, fun j u hj => hf.cell (hc j u hj) (fun hm => hS _ hm (by simp [Value.ownBlock, Addr.add]; split <;> rfl))⟩
theorem RdB.frm {w w' : World} {v : Value} {l : List UInt8} (h : RdB w v l) (hf : Frm [] w w') : RdB w' v l := Rd.frm h hf (by simp)
theorem RdB.form {w : World} {v : Value} {l : List UInt8} (h : RdB w v l) : ∃ a c, v = .slice a l.length c := by
  rcases h with ⟨rfl, h0, _⟩ | ⟨a, c, rfl, _⟩
  · exact ⟨none, 0, by rw [h0]⟩
  · exact ⟨_, _, rfl⟩
theorem ownsRow_frm {S : List Nat} {w w' : World} {base e size n : Nat} {v : Value} {cs : List Value} (h : w.ownsRow base e size v n cs) (hf : Frm S w w') (hS : ∀ b ∈ S, v.ownBlock ≠ some b) : w'.ownsRow base e size v n cs := by
  rcases h.2 with ⟨rfl, h0⟩ | ⟨g, c, cur, rfl, h1, hg, h2⟩
  · exact ⟨h.1, .inl ⟨rfl, h0⟩⟩
  · exact ⟨h.1, .inr ⟨g, c, cur, rfl, h1, hf.heap hg (fun hm => hS _ hm rfl), h2⟩⟩
theorem own_ge {w : World} {base e size n : Nat} {v : Value} {cs : List Value} (h : w.ownsRow base e size v n cs) : ∀ k ∈ v.ownBlock.toList, base ≤ k := fun k hk => by
  rcases h.2 with ⟨rfl, _⟩ | ⟨g, c, cur, rfl, h1, _⟩
  · simp [Value.ownBlock] at hk
  · obtain rfl : k = g := by simpa [Value.ownBlock] using hk
    exact h1
/-- A text is read with any fuel that is enough. -/
theorem readN_fuel : ∀ (n m : Nat) (s out : List UInt8), s.length ≤ n → s.length ≤ m → readN n s out = readN m s out
  | n, m, [], out, _, _ => by rw [readN_nil, readN_nil]
  | n, m, b :: t, out, hn, hm => by
    obtain ⟨n, rfl⟩ : ∃ k, n = k + 1 := ⟨n - 1, by simp at hn; omega⟩
    obtain ⟨m, rfl⟩ : ∃ k, m = k + 1 := ⟨m - 1, by simp at hm; omega⟩
    cases hf : findN (b :: t) with
    | none => simp [readN, hf]
    | some c =>
      have hp := (name_pos c (findN_some hf).1).1
      simp only [readN, hf]
      have h1 : ((b :: t).drop (nameL c).length).length ≤ n := by
        simp only [List.length_drop]
        omega
      have h2 : ((b :: t).drop (nameL c).length).length ≤ m := by
        simp only [List.length_drop]
        omega
      exact readN_fuel n m _ _ h1 h2
termination_by n => n
/-- What a text reads as. -/
def readB (s : ByteArray) (out : List UInt8) : Option (List UInt8) := readN s.size s.data.toList out
theorem readB_nil (out : List UInt8) : readB ⟨#[]⟩ out = some out := rfl
theorem readB_stop {s : ByteArray} (hs : s.data.toList ≠ []) (h : findN s.data.toList = none) (out : List UInt8) : readB s out = none := readN_stop hs h
theorem readB_step {s : ByteArray} {c : Nat} (hs : s.data.toList ≠ []) (h : findN s.data.toList = some c) (out : List UInt8) :
    readB s out = readB (s.extract (nameL c).length s.size) (out ++ [UInt8.ofNat c]) ∧ (nameL c).length ≤ s.size := by
  have hp := (name_pos c (findN_some h).1).1
  have hle : (nameL c).length ≤ s.size := by
    have := (List.isPrefixOf_iff_prefix.1 (findN_some h).2).length_le
    rwa [str_size] at this
  refine ⟨?_, hle⟩
  unfold readB
  rw [readN_step hs (by rw [str_size]; exact Nat.le_refl _) h]
  have e : (s.extract (nameL c).length s.size).data.toList = s.data.toList.drop (nameL c).length := by
    rw [Lib.extract_eq]
    simp only []
    rw [List.take_of_length_le (by rw [List.length_drop, str_size]; exact Nat.le_refl _)]
  rw [e]
  refine readN_fuel _ _ _ _ ?_ ?_
  · rw [List.length_drop, str_size]; omega
  · rw [← e, str_size]
    exact Nat.le_refl _
theorem str_ne {s : ByteArray} (h : 0 < s.size) : s.data.toList ≠ [] := fun e => by
  rw [← str_size, e] at h
  cases h
theorem str_eq_empty {s : ByteArray} (h : s.size = 0) : s = ⟨#[]⟩ := by
  have := List.eq_nil_of_length_eq_zero ((str_size s).trans h)
  cases s
  rename_i d
  have h2 : d = #[] := by simpa using this
  rw [h2]

end Go.Proofs.YtaobohlcpgnebaaDoor
