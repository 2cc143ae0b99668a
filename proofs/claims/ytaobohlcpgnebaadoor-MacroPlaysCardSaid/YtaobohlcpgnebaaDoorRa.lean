/-
  THE REFERENCE's STACK BY WHAT IT MEANS; the two stacks beside each other, as a law holds them. Conditions: at most a million frames and keys.
-/
import Derived.Test.YtaobohlcpgnebaaDoorRn
import Derived.Test.YtaobohlcpgnebaaDoorKn3
namespace Go.Proofs.YtaobohlcpgnebaaDoor
open Go.RowKit
open Go.Proofs (Tryd.prog)

/-- The reference's stack at block x, in the blocks of fp, means these frames, fuel, rest, depth. -/
def Rak (w : World) (x : Nat) (fp : List Nat) (az : List AF) (fuel rest depth : Nat) : Prop :=
  ∃ fs, Ras w x fp fs fuel depth rest ∧ fs.map (·.2) = az ∧ ASett az ∧ az.length ≤ depth ∧ depth ≤ 1000000 ∧ rest ≤ fuel ∧ fuel ≤ 9223372036854775807
theorem Rak.frm {w w' : World} {x : Nat} {fp S : List Nat} {az : List AF} {fuel rest depth : Nat} (h : Rak w x fp az fuel rest depth) (hf : Frm S w w') (hd : ∀ b ∈ fp, b ∉ S) : Rak w' x fp az fuel rest depth := by
  obtain ⟨fs, h1, h2⟩ := h
  exact ⟨fs, h1.frm hf hd, h2⟩
theorem Rak.lt {w : World} {x : Nat} {fp : List Nat} {az : List AF} {fuel rest depth : Nat} (h : Rak w x fp az fuel rest depth) : ∀ b ∈ fp, b < w.heap.size := by
  obtain ⟨fs, ⟨_, _, _, _, _, h1, _⟩, _⟩ := h
  exact h1
theorem Rak.mem {w : World} {x : Nat} {fp : List Nat} {az : List AF} {fuel rest depth : Nat} (h : Rak w x fp az fuel rest depth) : x ∈ fp := by
  obtain ⟨fs, ⟨_, _, _, h1, _⟩, _⟩ := h
  exact h1
theorem Rak.form {w : World} {x : Nat} {fp : List Nat} {az : List AF} {fuel rest depth : Nat} (h : Rak w x fp az fuel rest depth) : ∃ la lc, w.heap[x]? = some (.cells #[.slice la az.length lc, .int .i64 (fuel : Int), .int .i64 (depth : Int), .int .i64 (rest : Int)] 56 (0, 0)) := by
  obtain ⟨fs, h1, rfl, _⟩ := h
  rw [List.length_map]
  exact h1.form
theorem Rak.dropped {w : World} {x : Nat} {fp : List Nat} {az : List AF} {fuel rest depth : Nat} (h : Rak w x fp az fuel rest depth) : Rak (w.setCell ⟨x, 0, none⟩ (.slice none 0 0)) x fp [] fuel rest depth := by
  obtain ⟨fs, ⟨lv, h1, h2, h3, h4, h5, h6⟩, _, _, _, h7⟩ := h
  have hs := heap_set_at (i := 0) (.slice none 0 0) h1
  have hf := (Frm.refl fp w).setCell (p := ⟨x, 0, none⟩) (.inl h3) (.slice none 0 0)
  exact ⟨[], ⟨.slice none 0 0, hs, ⟨rfl, .inl ⟨rfl, rfl⟩⟩, h3, by simp [Value.ownBlock], fun b hb => Nat.lt_of_lt_of_le (h5 b hb) hf.size, by simp⟩, rfl, by simp [ASett], by simp, h7⟩
theorem Rak.refuelled {w : World} {x : Nat} {fp : List Nat} {az : List AF} {fuel rest depth : Nat} (h : Rak w x fp az fuel rest depth) : Rak (w.setCell ⟨x, 3, none⟩ (.int .i64 (fuel : Int))) x fp az fuel fuel depth := by
  obtain ⟨fs, h1, h2, h3, h4, h5, h6, h7⟩ := h
  exact ⟨fs, h1.rested fuel, h2, h3, h4, h5, Nat.le_refl _, h7⟩
theorem rakNew (w : World) (a d : Int) (ha0 : -9223372036854775808 ≤ a) (ha : a ≤ 9223372036854775807) (hd0 : -9223372036854775808 ≤ d) (hd : d ≤ 1000000) :
    Calls Tryd.prog 34 #[.int .i64 a, .int .i64 d] w fun e w' => ∃ x fp, e = .returned (.pointer (some ⟨x, 0, none⟩)) ∧ Rak w' x fp [] a.toNat a.toNat d.toNat ∧ Frm [] w w' ∧ ∀ b ∈ fp, w.heap.size ≤ b := by
  refine (refNewStack w a d ha0 ha hd0 (by omega)).mono ?_
  rintro e w' ⟨x, fp, rfl, hm, hf, hb⟩
  exact ⟨x, fp, rfl, ⟨[], hm, rfl, by simp [ASett], by simp, by omega, Nat.le_refl _, by omega⟩, hf, hb⟩
theorem rakPush (w : World) (x : Nat) (fp : List Nat) (az : List AF) (fuel rest depth : Nat) (h : Rak w x fp az fuel rest depth) (v : Value) (K : List UInt8) (n : Int) (hn : n ≤ 9223372036854775807) (hl : K.length ≤ 1000000) (hv : RdB w v K) :
    Calls Tryd.prog 35 #[.pointer (some ⟨x, 0, none⟩), v, .int .i64 n] w fun e w' => e = .returned (.bool (pushOk depth az K n)) ∧ ∃ fp', Rak w' x fp' (pushed depth az K n) fuel rest depth ∧ Frm fp w w' ∧ ∀ b ∈ fp', b ∈ fp ∨ w.heap.size ≤ b := by
  by_cases h0 : n < 1 ∨ K = []
  · refine (refPush_none w x v K n hv h0).mono ?_
    rintro e w' ⟨rfl, rfl⟩
    have e1 : pushOk depth az K n = true := decide_eq_true (h0.imp id .inl)
    have e2 : pushed depth az K n = az := if_pos h0
    rw [e1, e2]
    exact ⟨rfl, fp, h, Frm.refl _ _, fun b hb => .inl hb⟩
  · have hn1 : ¬ n < 1 := fun e => h0 (.inl e)
    have hK1 : K ≠ [] := fun e => h0 (.inr e)
    obtain ⟨m, rfl⟩ := Int.eq_ofNat_of_zero_le (a := n) (by omega)
    obtain ⟨fs, h1, h2, h3, h4, h5, h6⟩ := h
    have hlen : fs.length = az.length := by rw [← h2, List.length_map]
    by_cases hd : depth ≤ az.length
    · refine (refPush_full w x fp fs fuel depth rest h1 v K m (by omega) hK1 hv (by omega)).mono ?_
      rintro e w' ⟨rfl, hf⟩
      have e1 : pushOk depth az K (m : Int) = false := decide_eq_false (fun hh => by rcases hh with h | h | h; exact hn1 h; exact hK1 h; omega)
      have e2 : pushed depth az K (m : Int) = az := by unfold pushed; rw [if_neg h0, if_pos hd]
      rw [e1, e2]
      exact ⟨rfl, fp, ⟨fs, h1.frm hf (by simp), h2, h3, h4, h5, h6⟩, hf.mono (by simp), fun b hb => .inl hb⟩
    · refine (refPush w x fp fs fuel depth rest h1 v K m (by omega) (by omega) hK1 hl hv (by omega) h5).mono ?_
      rintro e w' ⟨rfl, u, fp', hm, hf, hb⟩
      have e1 : pushOk depth az K (m : Int) = true := decide_eq_true (.inr (.inr (by omega)))
      have e2 : pushed depth az K (m : Int) = az ++ [(K, m, 0)] := by unfold pushed; rw [if_neg h0, if_neg hd]; rfl
      have hg := pushed_good (depth := depth) (K := K) (n := (m : Int)) h3 hl hn
      have hll := pushed_length (K := K) (n := (m : Int)) h4
      rw [e2] at hg hll
      rw [e1, e2]
      exact ⟨rfl, fp', ⟨_, hm, by simp [h2], hg, hll, h5, h6⟩, hf, hb⟩
theorem rakNext (w : World) (x : Nat) (fp : List Nat) (az : List AF) (fuel rest depth : Nat) (h : Rak w x fp az fuel rest depth) :
    Calls Tryd.prog 38 #[.pointer (some ⟨x, 0, none⟩)] w fun e w' => e = .returned (.tuple #[.int .u8 (nextC az rest : Int), .bool (nextOk az rest)]) ∧ Rak w' x fp (nexted az rest) fuel (nextRest az rest) depth ∧ Frm fp w w' := by
  obtain ⟨fs, h1, h2, h3, h4, h5, h6, h7⟩ := h
  have hlen : fs.length = az.length := by rw [← h2, List.length_map]
  subst h2
  by_cases hc : (fs.map (·.2) : List AF) ≠ [] ∧ rest ≠ 0
  · obtain ⟨r, f, rfl⟩ : ∃ r f, fs = r ++ [f] := by
      rcases List.eq_nil_or_concat fs with e | ⟨r, q, e⟩
      · exact absurd (by rw [e]; rfl) hc.1
      · exact ⟨r, q, by simpa using e⟩
    obtain ⟨l, rfl⟩ : ∃ l, rest = l + 1 := ⟨rest - 1, by omega⟩
    obtain ⟨kv, K, n, at'⟩ := f
    have hf := h3 (K, n, at') (by simp)
    have hat : at' < K.length := hf.2.2.1
    have hkc : K[at']? = some K[at'] := List.getElem?_eq_getElem hf.2.2.1
    have hln : r.length + 1 ≤ 1000000 := by
      simp at hlen h4
      omega
    refine (refNext_some w x fp r kv K n at' fuel depth l h1 hln (by omega) hf.1 hf.2.1 hat hf.2.2.2 K[at'] hkc).mono ?_
    rintro e w' ⟨rfl, ⟨fs', hm, hfs⟩, hff⟩
    have e1 : nextOk ((r ++ [((kv, K, n, at') : Fr)]).map (·.2)) (l + 1) = true := decide_eq_true hc
    have eL : (((r ++ [((kv, K, n, at') : Fr)]).map (·.2)).getLast?.getD ([], 0, 0)) = (K, n, at') := by simp
    have e2 : nextC ((r ++ [((kv, K, n, at') : Fr)]).map (·.2)) (l + 1) = K[at'].toNat := by unfold nextC; rw [if_pos hc, eL]; simp [keyF, hkc]
    have e3 : nexted ((r ++ [((kv, K, n, at') : Fr)]).map (·.2)) (l + 1) = r.map (·.2) ++ turnF (K, n, at') := by unfold nexted; rw [if_pos hc, eL]; simp
    have e4 : nextRest ((r ++ [((kv, K, n, at') : Fr)]).map (·.2)) (l + 1) = l := by unfold nextRest; rw [if_pos hc]; rfl
    have hg := nexted_good (rest := l + 1) h3
    have hll := nexted_length (az := (r ++ [((kv, K, n, at') : Fr)]).map (·.2)) (rest := l + 1)
    rw [e3] at hg hll
    rw [e1, e2, e3, e4]
    exact ⟨rfl, ⟨fs', hm, hfs, hg, by omega, h5, by omega, h7⟩, hff⟩
  · refine (refNext_none w x fp fs fuel depth rest h1 ?_).mono ?_
    · by_cases he : fs = []
      · exact .inl he
      · exact .inr (Classical.byContradiction fun hl => hc ⟨by simpa using he, hl⟩)
    rintro e w' ⟨rfl, hm, hff⟩
    have e1 : nextOk (fs.map (·.2)) rest = false := decide_eq_false hc
    have e2 : nextC (fs.map (·.2)) rest = 0 := if_neg hc
    have e3 : nexted (fs.map (·.2)) rest = fs.map (·.2) := if_neg hc
    have e4 : nextRest (fs.map (·.2)) rest = rest := if_neg hc
    rw [e1, e2, e3, e4]
    exact ⟨rfl, ⟨fs, hm, rfl, h3, h4, h5, h6, h7⟩, hff.mono (by simp)⟩

/-! ### Both stacks, as a law holds them -/
def SameB (B : List Nat) (X Y : World) : Prop := ∀ b ∈ B, Y.heap[b]? = X.heap[b]?
theorem SameB.refl (B : List Nat) (X : World) : SameB B X X := fun _ _ => rfl
theorem SameB.trans {B : List Nat} {X Y Z : World} (h : SameB B X Y) (k : SameB B Y Z) : SameB B X Z := fun b hb => (k b hb).trans (h b hb)
def Two (w : World) (B : List Nat) (x y : Nat) (a1 : List AF) (r1 : Nat) (a2 : List AF) (r2 : Nat) (F D : Nat) (wr : World) : Prop :=
  ∃ fp fq, Mak wr x fp a1 F r1 D ∧ Rak wr y fq a2 F r2 D ∧ (∀ b ∈ fp, b ∉ fq ∧ w.heap.size ≤ b) ∧ (∀ b ∈ fq, w.heap.size ≤ b) ∧ (∀ b ∈ B, b ∉ fp ∧ b ∉ fq ∧ b < wr.heap.size) ∧ Frm [] w wr
section
variable {w wr : World} {B : List Nat} {x y : Nat} {a1 a2 : List AF} {r1 r2 F D : Nat}
theorem Two.fin (h : Two w B x y a1 r1 a2 r2 F D wr) : Frm [] w wr := by
  obtain ⟨_, _, _, _, _, _, _, h⟩ := h
  exact h
theorem Two.few (h : Two w B x y a1 r1 a2 r2 F D wr) : a1.length ≤ D ∧ r1 ≤ F ∧ a2.length ≤ D ∧ r2 ≤ F := by
  obtain ⟨_, _, h1, ⟨_, _, _, _, h2, _, h3, _⟩, _⟩ := h
  have := h1.few
  exact ⟨this.2.1, this.2.2.2.1, h2, h3⟩
theorem Two.alloc (h : Two w [] x y a1 r1 a2 r2 F D wr) (o : Obj) : Two w [wr.heap.size] x y a1 r1 a2 r2 F D (wr.alloc o) := by
  obtain ⟨fp, fq, h1, h2, h3, h4, _, h6⟩ := h
  refine ⟨fp, fq, h1.frm (S := []) ((Frm.refl _ _).alloc o) (by simp), h2.frm (S := []) ((Frm.refl _ _).alloc o) (by simp), h3, h4, fun b hb => ?_, h6.alloc o⟩
  obtain rfl : b = wr.heap.size := by simpa using hb
  exact ⟨fun hm => by have := h1.lt _ hm; omega, fun hm => by have := h2.lt _ hm; omega, by simp⟩
theorem Two.frm {w' : World} (h : Two w B x y a1 r1 a2 r2 F D wr) (hf : Frm [] wr w') : Two w B x y a1 r1 a2 r2 F D w' := by
  obtain ⟨fp, fq, h1, h2, h3, h4, h5, h6⟩ := h
  exact ⟨fp, fq, h1.frm hf (by simp), h2.frm hf (by simp), h3, h4, fun b hb => ⟨(h5 b hb).1, (h5 b hb).2.1, Nat.lt_of_lt_of_le (h5 b hb).2.2 hf.size⟩, h6.trans hf (by simp)⟩
theorem Two.free (h : Two w B x y a1 r1 a2 r2 F D wr) : Two w [] x y a1 r1 a2 r2 F D wr := by
  obtain ⟨fp, fq, h1, h2, h3, h4, _, h6⟩ := h
  exact ⟨fp, fq, h1, h2, h3, h4, by simp, h6⟩
theorem sameB_frm {S : List Nat} {X Y : World} (hf : Frm S X Y) (h : ∀ b ∈ B, b ∉ S ∧ b < X.heap.size) : SameB B X Y := fun b hb => hf.same b (h b hb).2 (h b hb).1
theorem tPushS (h : Two w B x y a1 r1 a2 r2 F D wr) (v : Value) (K : List UInt8) (n : Int) (hn : n ≤ 9223372036854775807) (hl : K.length ≤ 1000000) (hv : RdB w v K) :
    Calls Tryd.prog 23 #[.pointer (some ⟨x, 0, none⟩), v, .int .i64 n] wr fun e w' => e = .returned (.bool (pushOk D a1 K n)) ∧ Two w B x y (pushed D a1 K n) r1 a2 r2 F D w' ∧ SameB B wr w' := by
  obtain ⟨fp, fq, h1, h2, h3, h4, h5, h6⟩ := h
  refine (makPush wr x fp a1 F r1 D h1 v K n hn hl (hv.frm h6) (fun hK b hb e => by
    have q1 := hv.lt hK b e
    have q2 := (h3 b hb).2
    omega)).mono ?_
  rintro e w' ⟨rfl, fp', hm, hf, hb⟩
  refine ⟨rfl, ⟨fp', fq, hm, h2.frm hf (fun b hb' hm => (h3 b hm).1 hb'), fun b hb' => ?_, h4, fun b hb' => ?_, h6.trans hf (fun b hb' => .inr (h3 b hb').2)⟩, sameB_frm hf (fun b hb' => ⟨(h5 b hb').1, (h5 b hb').2.2⟩)⟩
  · rcases hb b hb' with q | q
    · exact h3 b q
    · exact ⟨fun hm' => by have := h2.lt b hm'; omega, Nat.le_trans h6.size q⟩
  · refine ⟨fun hm' => ?_, (h5 b hb').2.1, Nat.lt_of_lt_of_le (h5 b hb').2.2 hf.size⟩
    rcases hb b hm' with q | q
    · exact (h5 b hb').1 q
    · have := (h5 b hb').2.2
      omega
theorem tPushW (h : Two w B x y a1 r1 a2 r2 F D wr) (v : Value) (K : List UInt8) (n : Int) (hn : n ≤ 9223372036854775807) (hl : K.length ≤ 1000000) (hv : RdB w v K) :
    Calls Tryd.prog 35 #[.pointer (some ⟨y, 0, none⟩), v, .int .i64 n] wr fun e w' => e = .returned (.bool (pushOk D a2 K n)) ∧ Two w B x y a1 r1 (pushed D a2 K n) r2 F D w' ∧ SameB B wr w' := by
  obtain ⟨fp, fq, h1, h2, h3, h4, h5, h6⟩ := h
  refine (rakPush wr y fq a2 F r2 D h2 v K n hn hl (hv.frm h6)).mono ?_
  rintro e w' ⟨rfl, fq', hm, hf, hb⟩
  refine ⟨rfl, ⟨fp, fq', h1.frm hf (fun b hb' hm => (h3 b hb').1 hm), hm, fun b hb' => ⟨fun hm' => ?_, (h3 b hb').2⟩, fun b hb' => ?_, fun b hb' => ?_, h6.trans hf (fun b hb' => .inr (h4 b hb'))⟩, sameB_frm hf (fun b hb' => ⟨(h5 b hb').2.1, (h5 b hb').2.2⟩)⟩
  · rcases hb b hm' with q | q
    · exact (h3 b hb').1 q
    · have := h1.lt b hb'
      omega
  · rcases hb b hb' with q | q
    · exact h4 b q
    · exact Nat.le_trans h6.size q
  · refine ⟨(h5 b hb').1, fun hm' => ?_, Nat.lt_of_lt_of_le (h5 b hb').2.2 hf.size⟩
    rcases hb b hm' with q | q
    · exact (h5 b hb').2.1 q
    · have := (h5 b hb').2.2
      omega
theorem tNextS (h : Two w B x y a1 r1 a2 r2 F D wr) :
    Calls Tryd.prog 24 #[.pointer (some ⟨x, 0, none⟩)] wr fun e w' => e = .returned (.tuple #[.int .u8 (nextC a1 r1 : Int), .bool (nextOk a1 r1)]) ∧ Two w B x y (nexted a1 r1) (nextRest a1 r1) a2 r2 F D w' ∧ SameB B wr w' := by
  obtain ⟨fp, fq, h1, h2, h3, h4, h5, h6⟩ := h
  refine (makNext wr x fp a1 F r1 D h1).mono ?_
  rintro e w' ⟨rfl, hm, hf⟩
  exact ⟨rfl, ⟨fp, fq, hm, h2.frm hf (fun b hb' hm => (h3 b hm).1 hb'), h3, h4, fun b hb' => ⟨(h5 b hb').1, (h5 b hb').2.1, Nat.lt_of_lt_of_le (h5 b hb').2.2 hf.size⟩, h6.trans hf (fun b hb' => .inr (h3 b hb').2)⟩, sameB_frm hf (fun b hb' => ⟨(h5 b hb').1, (h5 b hb').2.2⟩)⟩
theorem tNextW (h : Two w B x y a1 r1 a2 r2 F D wr) :
    Calls Tryd.prog 38 #[.pointer (some ⟨y, 0, none⟩)] wr fun e w' => e = .returned (.tuple #[.int .u8 (nextC a2 r2 : Int), .bool (nextOk a2 r2)]) ∧ Two w B x y a1 r1 (nexted a2 r2) (nextRest a2 r2) F D w' ∧ SameB B wr w' := by
  obtain ⟨fp, fq, h1, h2, h3, h4, h5, h6⟩ := h
  refine (rakNext wr y fq a2 F r2 D h2).mono ?_
  rintro e w' ⟨rfl, hm, hf⟩
  exact ⟨rfl, ⟨fp, fq, h1.frm hf (fun b hb' hm => (h3 b hb').1 hm), hm, h3, h4, fun b hb' => ⟨(h5 b hb').1, (h5 b hb').2.1, Nat.lt_of_lt_of_le (h5 b hb').2.2 hf.size⟩, h6.trans hf (fun b hb' => .inr (h4 b hb'))⟩, sameB_frm hf (fun b hb' => ⟨(h5 b hb').2.1, (h5 b hb').2.2⟩)⟩
theorem tDropS (h : Two w B x y a1 r1 a2 r2 F D wr) :
    Calls Tryd.prog 36 #[.pointer (some ⟨x, 0, none⟩)] wr fun e w' => e = .returned (.tuple #[]) ∧ Two w B x y [] r1 a2 r2 F D w' ∧ SameB B wr w' := by
  obtain ⟨fp, fq, h1, h2, h3, h4, h5, h6⟩ := h
  refine (makDrop wr x fp a1 F r1 D h1).mono ?_
  rintro e w' ⟨rfl, hm, hf⟩
  exact ⟨rfl, ⟨fp, fq, hm, h2.frm hf (fun b hb' hm => (h3 b hm).1 hb'), h3, h4, fun b hb' => ⟨(h5 b hb').1, (h5 b hb').2.1, Nat.lt_of_lt_of_le (h5 b hb').2.2 hf.size⟩, h6.trans hf (fun b hb' => .inr (h3 b hb').2)⟩, sameB_frm hf (fun b hb' => ⟨(h5 b hb').1, (h5 b hb').2.2⟩)⟩
theorem tRefuelS (h : Two w B x y a1 r1 a2 r2 F D wr) :
    Calls Tryd.prog 37 #[.pointer (some ⟨x, 0, none⟩)] wr fun e w' => e = .returned (.tuple #[]) ∧ Two w B x y a1 F a2 r2 F D w' ∧ SameB B wr w' := by
  obtain ⟨fp, fq, h1, h2, h3, h4, h5, h6⟩ := h
  refine (makRefuel wr x fp a1 F r1 D h1).mono ?_
  rintro e w' ⟨rfl, hm, hf⟩
  exact ⟨rfl, ⟨fp, fq, hm, h2.frm hf (fun b hb' hm => (h3 b hm).1 hb'), h3, h4, fun b hb' => ⟨(h5 b hb').1, (h5 b hb').2.1, Nat.lt_of_lt_of_le (h5 b hb').2.2 hf.size⟩, h6.trans hf (fun b hb' => .inr (h3 b hb').2)⟩, sameB_frm hf (fun b hb' => ⟨(h5 b hb').1, (h5 b hb').2.2⟩)⟩
theorem tDropW (h : Two w B x y a1 r1 a2 r2 F D wr) : Two w B x y a1 r1 [] r2 F D (wr.setCell ⟨y, 0, none⟩ (.slice none 0 0)) := by
  obtain ⟨fp, fq, h1, h2, h3, h4, h5, h6⟩ := h
  have hf := (Frm.refl [y] wr).setCell (p := ⟨y, 0, none⟩) (.inl (by simp)) (.slice none 0 0)
  exact ⟨fp, fq, h1.frm hf (fun b hb' hm => (h3 b hb').1 (by simp at hm; subst hm; exact h2.mem)), h2.dropped, h3, h4, fun b hb' => ⟨(h5 b hb').1, (h5 b hb').2.1, Nat.lt_of_lt_of_le (h5 b hb').2.2 hf.size⟩, h6.trans hf (fun b hb' => .inr (h4 b (by simp at hb'; subst hb'; exact h2.mem)))⟩
theorem tRefuelW (h : Two w B x y a1 r1 a2 r2 F D wr) : Two w B x y a1 r1 a2 F F D (wr.setCell ⟨y, 3, none⟩ (.int .i64 (F : Int))) := by
  obtain ⟨fp, fq, h1, h2, h3, h4, h5, h6⟩ := h
  have hf := (Frm.refl [y] wr).setCell (p := ⟨y, 3, none⟩) (.inl (by simp)) (.int .i64 (F : Int))
  exact ⟨fp, fq, h1.frm hf (fun b hb' hm => (h3 b hb').1 (by simp at hm; subst hm; exact h2.mem)), h2.refuelled, h3, h4, fun b hb' => ⟨(h5 b hb').1, (h5 b hb').2.1, Nat.lt_of_lt_of_le (h5 b hb').2.2 hf.size⟩, h6.trans hf (fun b hb' => .inr (h4 b (by simp at hb'; subst hb'; exact h2.mem)))⟩
theorem Two.ref (h : Two w B x y a1 r1 a2 r2 F D wr) : ∃ la lc, wr.heap[y]? = some (.cells #[.slice la a2.length lc, .int .i64 (F : Int), .int .i64 (D : Int), .int .i64 (r2 : Int)] 56 (0, 0)) := by
  obtain ⟨fp, fq, h1, h2, _⟩ := h
  exact h2.form
theorem Two.mac (h : Two w B x y a1 r1 a2 r2 F D wr) : ∃ fp, Mak wr x fp a1 F r1 D := by
  obtain ⟨fp, fq, h1, _⟩ := h
  exact ⟨fp, h1⟩
end

end Go.Proofs.YtaobohlcpgnebaaDoor
