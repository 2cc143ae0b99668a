/-
  CONTRACTS OF vec.Vec[piece.piece]: a pointer to a struct that holds a slice of elements. Conditions: fewer than 2^40 elements.
-/
import Derived.Test.YtnajkjgjeiodmaaGreatDoorSdP
namespace Go.Proofs.YtnajkjgjeiodmaaGreatDoor.Pp
open Go.RowKit
open Go.Proofs (Tryz.prog)

def encP (x : Bool × Int × Int) : List Value := [.bool x.1, .int .i64 x.2.1, .int .i64 x.2.2]

theorem encP_len (xs : List (Bool × Int × Int)) : (xs.flatMap encP).length = xs.length * 3 := by
  induction xs with
  | nil => rfl
  | cons x xs ih => rw [List.flatMap_cons, List.length_append, ih, List.length_cons]; simp [encP]; omega
theorem encP_take (xs : List (Bool × Int × Int)) (i : Nat) : (xs.take i).flatMap encP = (xs.flatMap encP).take (i * 3) := by
  induction xs generalizing i with
  | nil => simp
  | cons x xs ih =>
    cases i with
    | zero => simp
    | succ i =>
      rw [List.take_succ_cons, List.flatMap_cons, ih, List.flatMap_cons]
      have e : (i + 1) * 3 = (encP x).length + i * 3 := by simp [encP]; omega
      rw [e, List.take_length_add_append]
theorem encP_drop (xs : List (Bool × Int × Int)) (i : Nat) : (xs.drop i).flatMap encP = (xs.flatMap encP).drop (i * 3) := by
  induction xs generalizing i with
  | nil => simp
  | cons x xs ih =>
    cases i with
    | zero => simp
    | succ i =>
      rw [List.drop_succ_cons, ih, List.flatMap_cons]
      have e : (i + 1) * 3 = (encP x).length + i * 3 := by simp [encP]; omega
      rw [e, List.drop_length_add_append]
theorem encP_one (xs : List (Bool × Int × Int)) : ∀ u ∈ xs.flatMap encP, u.oneCell' = true := by
  intro u hu
  obtain ⟨x, _, hx⟩ := List.mem_flatMap.1 hu
  simp only [encP, List.mem_cons, List.not_mem_nil, or_false] at hx
  rcases hx with rfl | rfl | rfl <;> rfl

/-- At p lies a Vec[piece.piece] of the elements xs; fp: the blocks that it owns. -/
def VecP (w : World) (p : Nat) (fp : List Nat) (xs : List (Bool × Int × Int)) : Prop :=
  ∃ v, w.heap[p]? = some (.cells #[v] 111 (0, 0)) ∧ w.ownsRow 0 87 3 v xs.length (xs.flatMap encP) ∧ fp = p :: v.ownBlock.toList

theorem ownsRow_heap {w w' : World} {base e size : Nat} {v : Value} {n : Nat} {cs : List Value} (h : w.ownsRow base e size v n cs) (hs : ∀ b o, v.ownBlock = some b → w.heap[b]? = some o → w'.heap[b]? = some o) : w'.ownsRow base e size v n cs := by
  refine ⟨h.1, ?_⟩
  rcases h.2 with h0 | ⟨g, cap, cur, rfl, hb, hg, h1, h2, h3, h4⟩
  · exact .inl h0
  · exact .inr ⟨g, cap, cur, rfl, hb, hs _ _ (by simp [Value.ownBlock]) hg, h1, h2, h3, h4⟩
theorem ownsRow_form {w : World} {base e size : Nat} {v : Value} {n : Nat} {cs : List Value} (h : w.ownsRow base e size v n cs) : ∃ a c, v = .slice a n c ∧ n ≤ c ∧ c ≤ maxLen := by
  rcases h.2 with ⟨rfl, rfl⟩ | ⟨g, cap, cur, rfl, hb, hg, h1, h2, h3, h4⟩
  · exact ⟨_, _, rfl, Nat.le_refl _, by unfold maxLen; omega⟩
  · exact ⟨_, _, rfl, h1, h2⟩
theorem ownsRow_type {w : World} {base e size : Nat} {v : Value} {n : Nat} {cs : List Value} (h : w.ownsRow base e size v n cs) {p t : Nat} {c : Array Value} {fz : Nat × Nat} (hp : w.heap[p]? = some (.cells c t fz)) (ht : t ≠ e) : v.ownBlock ≠ some p := by
  rcases h.2 with ⟨rfl, _⟩ | ⟨g, cap, cur, rfl, hb, hg, _⟩
  · simp [Value.ownBlock]
  · intro he
    simp [Value.ownBlock] at he
    subst he
    rw [hg] at hp
    simp at hp
    exact ht hp.2.1.symm

theorem VecP.kept {w w' : World} {p : Nat} {fp : List Nat} {xs : List (Bool × Int × Int)} (h : VecP w p fp xs) (hs : ∀ b o, b ∈ fp → w.heap[b]? = some o → w'.heap[b]? = some o) : VecP w' p fp xs := by
  obtain ⟨v, hp, hr, rfl⟩ := h
  exact ⟨v, hs _ _ (by simp) hp, ownsRow_heap hr (fun b o hb ho => hs b o (by simp [hb]) ho), rfl⟩
theorem VecP.frm {w w' : World} {p : Nat} {fp S : List Nat} {xs : List (Bool × Int × Int)} (h : VecP w p fp xs) (hf : Frm S w w') (hd : ∀ b ∈ fp, b ∉ S) : VecP w' p fp xs := h.kept (fun b _ hb ho => hf.heap ho (hd b hb))
theorem VecP.ext {w w' : World} {p base : Nat} {fp : List Nat} {xs : List (Bool × Int × Int)} (h : VecP w p fp xs) (hf : Ext base w w') : VecP w' p fp xs := by
  obtain ⟨v, hp, hr, rfl⟩ := h
  refine ⟨v, hf.cells hp, ⟨hr.1, ?_⟩, rfl⟩
  rcases hr.2 with h0 | ⟨g, cap, cur, rfl, hb, hg, h1, h2, h3, h4⟩
  · exact .inl h0
  · exact .inr ⟨g, cap, cur, rfl, hb, hf.cells hg, h1, h2, h3, h4⟩
theorem VecP.lt {w : World} {p : Nat} {fp : List Nat} {xs : List (Bool × Int × Int)} (h : VecP w p fp xs) : ∀ b ∈ fp, b < w.heap.size := by
  obtain ⟨v, hp, hr, rfl⟩ := h
  intro b hb
  rcases List.mem_cons.1 hb with rfl | hb
  · exact lt_of_heap hp
  · exact (hr.lt b (by simpa using hb)).2
theorem VecP.mem {w : World} {p : Nat} {fp : List Nat} {xs : List (Bool × Int × Int)} (h : VecP w p fp xs) : p ∈ fp := by
  obtain ⟨v, hp, hr, rfl⟩ := h
  simp
theorem VecP.len {w : World} {p : Nat} {fp : List Nat} {xs : List (Bool × Int × Int)} (h : VecP w p fp xs) : ∃ a c, w.cell? ⟨p, 0, none⟩ = some (.slice a xs.length c) ∧ xs.length ≤ c ∧ c ≤ maxLen := by
  obtain ⟨v, hp, hr, rfl⟩ := h
  obtain ⟨a, c, rfl, h1, h2⟩ := ownsRow_form hr
  exact ⟨a, c, cell_of_heap hp (by simp), h1, h2⟩

/-! ### Len, has -/
set_option maxHeartbeats 400000 in
theorem vecLenP (w : World) (p : Nat) (fp : List Nat) (xs : List (Bool × Int × Int)) (h : VecP w p fp xs) :
    Calls Tryz.prog 64 #[.pointer (some ⟨p, 0, none⟩)] w fun e w' => e = .returned (.int .i64 xs.length) ∧ w = w' := by
  obtain ⟨a, c, hc, _, _⟩ := h.len
  clear h
  generalize xs.length = n at hc
  go_enter Tryz.func64, Tryz.ntmps64
  go_wp2
  go_ret
  exact ⟨rfl, rfl⟩

set_option maxHeartbeats 400000 in
theorem vecHasP_yes (w : World) (p : Nat) (i : Int) (a : Option Addr) (n c : Nat) (hp : w.cell? ⟨p, 0, none⟩ = some (.slice a n c)) (h0 : 0 ≤ i) (h1 : i < n) :
    Calls Tryz.prog 93 #[.pointer (some ⟨p, 0, none⟩), .int .i64 i] w fun e w' => e = .returned (.bool true) ∧ w = w' := by
  go_enter Tryz.func93, Tryz.ntmps93
  go_wp2
  go_ret
  exact ⟨by simp [h1], rfl⟩

set_option maxHeartbeats 400000 in
theorem vecHasP_no (w : World) (p : Nat) (i : Int) (a : Option Addr) (n c : Nat) (hp : w.cell? ⟨p, 0, none⟩ = some (.slice a n c)) (h : ¬ (0 ≤ i ∧ i < n)) :
    Calls Tryz.prog 93 #[.pointer (some ⟨p, 0, none⟩), .int .i64 i] w fun e w' => e = .returned (.bool false) ∧ w = w' := by
  by_cases h0 : 0 ≤ i
  · have h1 : ¬ i < n := fun h1 => h ⟨h0, h1⟩
    clear h
    go_enter Tryz.func93, Tryz.ntmps93
    go_wp2
    go_ret
    exact ⟨by simp [h1], rfl⟩
  · clear h
    go_enter Tryz.func93, Tryz.ntmps93
    go_wp2
    go_ret
    exact ⟨rfl, rfl⟩

/-! ### New -/
set_option maxHeartbeats 400000 in
theorem vecNewP_nil (w : World) : Calls Tryz.prog 48 #[.slice none 0 0] w fun e w' => ∃ p fp, e = .returned (.pointer (some ⟨p, 0, none⟩)) ∧ VecP w' p fp [] ∧ Frm [] w w' ∧ ∀ b ∈ fp, w.heap.size ≤ b := by
  go_enter Tryz.func48, Tryz.ntmps48
  go_wp2_with (go_at_call 69; refine (cloneP_nil _).mono ?_; rintro e w' ⟨rfl, rfl⟩)
  go_ret
  refine ⟨w.heap.size, [w.heap.size], by simp, ⟨_, heap_alloc_at w _, World.ownsRow_nil _ _ _ _, by simp [Value.ownBlock]⟩, (Frm.refl _ w).alloc _, by simp⟩

set_option maxHeartbeats 400000 in
theorem vecNewP (w : World) (a : Addr) (n c : Nat) (xs : List (Bool × Int × Int)) (hx : xs.length = n) (hv : ∀ j u, (xs.flatMap encP)[j]? = some u → w.cell? (a.add j) = some u) (hn : n ≤ 1099511627776) :
    Calls Tryz.prog 48 #[.slice (some a) n c] w fun e w' => ∃ p fp, e = .returned (.pointer (some ⟨p, 0, none⟩)) ∧ VecP w' p fp xs ∧ Frm [] w w' ∧ ∀ b ∈ fp, w.heap.size ≤ b := by
  have hc := cloneP w a n c (xs.flatMap encP) (by rw [encP_len, hx]) hv (encP_one xs) hn
  have HX := Lib.hid hx
  clear hx hv
  go_enter Tryz.func48, Tryz.ntmps48
  go_wp2_with fail
  refine hc.mono ?_
  rintro e w1 ⟨g, c', rfl, hr, hf⟩
  have HR := Lib.hid hr
  have HF := Lib.hid hf
  clear hr hf hc
  go_wp2
  go_ret
  have hgb := HR.out.lt g rfl
  refine ⟨w1.heap.size, [w1.heap.size, g], by simp, ⟨_, heap_alloc_at w1 _, ?_, by simp [Value.ownBlock]⟩, HF.out.alloc _, ?_⟩
  · rw [HX.out]
    have := HR.out.alloc (.cells #[.slice (some ⟨g, 0, none⟩) n c'] 111)
    refine ⟨this.1, ?_⟩
    rcases this.2 with h | ⟨g, cap, cur, h1, _, h2⟩
    · exact .inl h
    · exact .inr ⟨g, cap, cur, h1, Nat.zero_le _, h2⟩
  · intro b hb
    have := HF.out.size
    simp at hb
    omega

/-! ### Insert -/
set_option maxHeartbeats 800000 in
theorem vecInsertP (w : World) (p : Nat) (fp : List Nat) (xs ys : List (Bool × Int × Int)) (i : Nat) (vl : Value) (h : VecP w p fp xs) (hv : w.ownsRow 0 87 3 vl ys.length (ys.flatMap encP)) (hd : ∀ k, vl.ownBlock = some k → k ∉ fp) (hi : i ≤ xs.length) (hn : xs.length + ys.length ≤ 1099511627776) :
    Calls Tryz.prog 49 #[.pointer (some ⟨p, 0, none⟩), .int .i64 i, vl] w fun e w' => e = .returned (.bool true) ∧ ∃ fp', VecP w' p fp' (xs.take i ++ ys ++ xs.drop i) ∧ Frm fp w w' ∧ ∀ b ∈ fp', b ∈ fp ∨ w.heap.size ≤ b := by
  obtain ⟨v, hp, hr, rfl⟩ := h
  have hpl := lt_of_heap hp
  have hvb := ownsRow_type hr hp (by decide)
  have hc := insertP w v vl xs.length ys.length i _ _ hr hv (by
    cases hb : v.ownBlock with
    | none => exact .inl rfl
    | some k => exact .inr (fun e => hd k e.symm (by simp [hb]))) hi (encP_one _) (encP_one _) hn
  rw [← encP_take, ← encP_drop, ← List.flatMap_append, ← List.flatMap_append] at hc
  obtain ⟨a, c, rfl, hac, hcm⟩ := ownsRow_form hr
  obtain ⟨a2, c2, rfl, _, _⟩ := ownsRow_form hv
  unfold maxLen at hcm
  have hcell : w.cell? ⟨p, 0, none⟩ = some (.slice a xs.length c) := cell_of_heap hp (by simp)
  have hfz : w.frozen? ⟨p, 0, none⟩ = false := frozen_of_heap 0 hp
  have hlen : (xs.take i ++ ys ++ xs.drop i).length = xs.length + ys.length := by simp; omega
  have HP := Lib.hid hp
  have HL := Lib.hid hlen
  clear hp hr hv hd hlen hac
  generalize hxs : xs.take i ++ ys ++ xs.drop i = zs at *
  have HZ := Lib.hid hxs
  clear hxs
  generalize hn1 : xs.length = n at *
  generalize hn2 : ys.length = m at *
  clear hn1 hn2
  go_enter Tryz.func49, Tryz.ntmps49
  go_wp2_with fail
  refine hc.mono ?_
  rintro e w1 ⟨v', rfl, hr1, hf1, hb1⟩
  obtain ⟨a', c', rfl, _, _⟩ := ownsRow_form hr1
  have hpS : p ∉ (Value.slice a n c).ownBlock.toList := by simpa using hvb
  have hc1 := hf1.cell hcell hpS
  have hz1 := (hf1.frozen (p := ⟨p, 0, none⟩) hpl hpS).trans hfz
  have hp1 := hf1.heap HP.out hpS
  have HR := Lib.hid hr1
  have HF := Lib.hid hf1
  have HB := Lib.hid hb1
  have HP1 := Lib.hid hp1
  clear hr1 hf1 hb1 hc hp1 hcell hfz
  go_wp2
  go_ret
  have hnb : (Value.slice a' (n + m) c').ownBlock ≠ some p := by
    intro e
    rcases HB.out p e with h | h
    · exact hvb h.symm
    · omega
  refine ⟨rfl, p :: (Value.slice a' (n + m) c').ownBlock.toList, ⟨_, heap_set_at (i := 0) _ HP1.out, ?_, by simp⟩, ?_, ?_⟩
  · rw [HL.out]
    exact ownsRow_heap HR.out (fun b o hb ho => by rw [heap_set_other _ (fun e => hnb (by rw [hb]; exact congrArg some e))]; exact ho)
  · exact (HF.out.mono (S' := p :: (Value.slice a n c).ownBlock.toList) (fun x hx => .inl (by simp [List.mem_cons]; exact .inr (by simpa using hx)))).setCell (.inl (by simp)) _
  · intro b hb
    rcases List.mem_cons.1 hb with rfl | hb
    · exact .inl (by simp)
    · rcases HB.out b (by simpa using hb) with h | h
      · exact .inl (by simp [← h])
      · exact .inr (by omega)

end Go.Proofs.YtnajkjgjeiodmaaGreatDoor.Pp
