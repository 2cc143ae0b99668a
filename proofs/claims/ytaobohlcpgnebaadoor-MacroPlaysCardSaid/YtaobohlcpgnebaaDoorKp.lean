/-
  PLAIN LAWS OF KEYS' NAMES: which key a text begins with, what a text reads as. Conditions: none.
-/
import Derived.Test.YtaobohlcpgnebaaDoorNm
namespace Go.Proofs.YtaobohlcpgnebaaDoor

/-- The first key whose name a text begins with. -/
def findN (s : List UInt8) : Option Nat := (List.range 256).find? fun c => (nameL c).isPrefixOf s
/-- What a text of at most n bytes reads as, behind what has been read. -/
def readN : Nat → List UInt8 → List UInt8 → Option (List UInt8)
  | _, [], out => some out
  | 0, _ :: _, _ => none
  | n + 1, b :: t, out => match findN (b :: t) with
    | none => none
    | some c => readN n ((b :: t).drop (nameL c).length) (out ++ [UInt8.ofNat c])
/-- The keys' text. -/
def textL (k : List UInt8) : List UInt8 := k.flatMap fun b => nameL b.toNat

theorem name_pos : ∀ c, c < 256 → (nameL c).length ≠ 0 ∧ (nameL c).length ≤ 5 := by decide +kernel
theorem name_head : ∀ c, c < 256 → (nameL c).headD 0 = 60 ∨ nameL c = [UInt8.ofNat c] := by decide +kernel
/-- No name begins another. -/
theorem name_alone : ∀ c, c < 256 → ∀ d, d < 256 → (nameL c).isPrefixOf (nameL d) = true → c = d := by decide +kernel

theorem findN_some {s : List UInt8} {c : Nat} (h : findN s = some c) : c < 256 ∧ (nameL c).isPrefixOf s = true := by
  unfold findN at h
  have h1 := List.find?_some h
  have h2 := List.mem_of_find?_eq_some h
  exact ⟨by simpa using h2, h1⟩
/-- Two names that one text begins with are one. -/
theorem name_one {c d : Nat} (hc : c < 256) (hd : d < 256) {s : List UInt8} (h1 : (nameL c).isPrefixOf s = true) (h2 : (nameL d).isPrefixOf s = true) : c = d := by
  rw [List.isPrefixOf_iff_prefix] at h1 h2
  rcases Nat.le_total (nameL c).length (nameL d).length with h | h
  · exact name_alone c hc d hd (List.isPrefixOf_iff_prefix.2 (List.prefix_of_prefix_length_le h1 h2 h))
  · exact (name_alone d hd c hc (List.isPrefixOf_iff_prefix.2 (List.prefix_of_prefix_length_le h2 h1 h))).symm
theorem findN_of {s : List UInt8} {c : Nat} (hc : c < 256) (h : (nameL c).isPrefixOf s = true) : findN s = some c := by
  cases hf : findN s with
  | none =>
    unfold findN at hf
    rw [List.find?_eq_none] at hf
    exact absurd h (hf c (by simpa using hc))
  | some d =>
    obtain ⟨h1, h2⟩ := findN_some hf
    rw [name_one h1 hc h2 h]
theorem findN_none {s : List UInt8} (h : ∀ c, c < 256 → (nameL c).isPrefixOf s = false) : findN s = none := by
  unfold findN
  rw [List.find?_eq_none]
  intro c hc
  rw [h c (by simpa using hc)]
  simp
/-- A text that does not begin with '<' begins with the key of its first byte, or with none. -/
theorem findN_plain {b : UInt8} {t : List UInt8} (hb : b ≠ 60) : findN (b :: t) = if nameL b.toNat = [b] then some b.toNat else none := by
  have hbl : b.toNat < 256 := b.toNat_lt
  split
  · rename_i h
    exact findN_of hbl (by rw [h]; simp [List.isPrefixOf])
  · rename_i h
    refine findN_none fun c hc => ?_
    cases hp : (nameL c).isPrefixOf (b :: t) with
    | false => rfl
    | true =>
      exfalso
      rw [List.isPrefixOf_iff_prefix] at hp
      obtain ⟨u, hu⟩ := hp
      have h0 := (name_pos c hc).1
      rcases name_head c hc with h1 | h1
      · cases hn : nameL c with
        | nil => rw [hn] at h0; exact h0 rfl
        | cons x y =>
          rw [hn] at hu h1
          simp only [List.cons_append, List.cons.injEq] at hu
          exact hb (hu.1.symm.trans (by simpa using h1))
      · rw [h1] at hu
        simp only [List.cons_append, List.cons.injEq] at hu
        have hcb : c = b.toNat := by rw [← hu.1]; simp; omega
        subst hcb
        exact h (by rw [h1]; simp)
theorem readN_nil (n : Nat) (out : List UInt8) : readN n [] out = some out := by cases n <;> rfl
theorem readN_step {n : Nat} {s out : List UInt8} {c : Nat} (hs : s ≠ []) (hn : s.length ≤ n) (h : findN s = some c) : readN n s out = readN (n - 1) (s.drop (nameL c).length) (out ++ [UInt8.ofNat c]) := by
  obtain ⟨b, t, rfl⟩ := List.exists_cons_of_ne_nil hs
  obtain ⟨m, rfl⟩ : ∃ m, n = m + 1 := ⟨n - 1, by simp at hn; omega⟩
  simp [readN, h]
theorem readN_stop {n : Nat} {s out : List UInt8} (hs : s ≠ []) (h : findN s = none) : readN n s out = none := by
  obtain ⟨b, t, rfl⟩ := List.exists_cons_of_ne_nil hs
  cases n <;> simp [readN, h]
/-- The text of keys reads as these keys. -/
theorem readN_text : ∀ (k : List UInt8) (n : Nat) (out : List UInt8), (textL k).length ≤ n → readN n (textL k) out = some (out ++ k)
  | [], n, out, _ => by simp [textL, readN_nil]
  | b :: k, n, out, hn => by
    have hb : b.toNat < 256 := b.toNat_lt
    have e : textL (b :: k) = nameL b.toNat ++ textL k := by simp [textL]
    have hp := name_pos b.toNat hb
    have hf : findN (textL (b :: k)) = some b.toNat := findN_of hb (by rw [e, List.isPrefixOf_iff_prefix]; exact List.prefix_append _ _)
    have hne : textL (b :: k) ≠ [] := by
      rw [e]
      intro h0
      have := List.append_eq_nil_iff.1 h0
      rw [this.1] at hp
      exact hp.1 rfl
    rw [readN_step hne hn hf, e, List.drop_left]
    have := readN_text k (n - 1) (out ++ [UInt8.ofNat b.toNat]) (by rw [e, List.length_append] at hn; omega)
    rw [this]
    simp
theorem textL_append (a b : List UInt8) : textL (a ++ b) = textL a ++ textL b := by simp [textL]
theorem textL_length : ∀ k : List UInt8, (textL k).length ≤ 5 * k.length
  | [] => by simp [textL]
  | b :: k => by
    have := textL_length k
    have hp := name_pos b.toNat b.toNat_lt
    have e : textL (b :: k) = nameL b.toNat ++ textL k := by simp [textL]
    rw [e, List.length_append, List.length_cons]
    omega

end Go.Proofs.YtaobohlcpgnebaaDoor
