/-
  GENERAL LEMMAS: what a call may change in memory (Frm), what an iterator over a function promises (IterOver), and the law of the statement 'for .. := range f' over such an iterator. Conditions: none of a program.
-/
import Derived.WalkKit
import Derived.WalkSpells
import Derived.WalkLawsBesides
import Derived.RangeFuncNested
import Derived.RangeFuncBound
import Derived.RangeFuncCalls
import Derived.RangeFuncLeaves
import Derived.Shelf.Abstract
import Derived.Shelf.RegionOpen
import Derived.OwnWalkIn
import Derived.TacticsInMore
import Derived.LoopNIn
import Derived.LoopIn
import Derived.Lib.Hide
import Derived.Laws.CopyRow
import Derived.StillTailTactics
import Derived.BigQuiet
import Derived.Deep.QuietTactic
import Derived.Deep.RegionLaw
import Derived.Lib.SliceRun
import Derived.Lib.Overlaps
import Derived.Lib.AppendZerosOnto
import Derived.Outline
namespace Go.Proofs.YtnajkjgjeiodmaaGreatDoor
open Go.RowKit

/-! ### Blocks of the heap -/
theorem heap_alloc_at (w : World) (o : Obj) : (w.alloc o).heap[w.heap.size]? = some o := World.alloc_heap_new w o
theorem heap_alloc_below {w : World} {b : Nat} (o : Obj) (h : b < w.heap.size) : (w.alloc o).heap[b]? = w.heap[b]? := Below.heap_alloc w o b h
theorem heap_set_other {w : World} {a : Addr} {b : Nat} (v : Value) (h : b ≠ a.block) : (w.setCell a v).heap[b]? = w.heap[b]? := Below.heap_setCell w a v b h
theorem heap_set_at {w : World} {g i : Nat} {c : Array Value} {t : TypeId} {fz : Nat × Nat} (v : Value) (h : w.heap[g]? = some (.cells c t fz)) :
    (w.setCell ⟨g, i, none⟩ v).heap[g]? = some (.cells (c.setIfInBounds i v) t fz) := by
  obtain ⟨hlt, hk⟩ := Array.getElem?_eq_some_iff.1 h
  show (w.heap.modify g _)[g]? = _
  rw [Array.getElem?_eq_getElem (by rw [Array.size_modify]; exact hlt), Array.getElem_modify_self, hk]
  rfl
theorem lt_of_heap {w : World} {b : Nat} {o : Obj} (h : w.heap[b]? = some o) : b < w.heap.size := (Array.getElem?_eq_some_iff.1 h).1
theorem cell_of_heap {w : World} {g i : Nat} {c : Array Value} {t : TypeId} {fz : Nat × Nat} {v : Value} (h : w.heap[g]? = some (.cells c t fz)) (hv : c[i]? = some v) : w.cell? ⟨g, i, none⟩ = some v := by
  simp [World.cell?, h, hv]
theorem frozen_of_heap {w : World} {g : Nat} {c : Array Value} {t : TypeId} (i : Nat) (h : w.heap[g]? = some (.cells c t (0, 0))) : w.frozen? ⟨g, i, none⟩ = false := by
  simp [World.frozen?, h]

/-! ### What a call may change: the blocks of the list S, and new ones -/
structure Frm (S : List Nat) (w w' : World) : Prop where
  os : w'.os = w.os
  tape : w'.tape = w.tape
  output : w'.output = w.output
  size : w.heap.size ≤ w'.heap.size
  same : ∀ b, b < w.heap.size → b ∉ S → w'.heap[b]? = w.heap[b]?

theorem Frm.refl (S : List Nat) (w : World) : Frm S w w := ⟨rfl, rfl, rfl, Nat.le_refl _, fun _ _ _ => rfl⟩
theorem Frm.trans {S S' : List Nat} {a b c : World} (h : Frm S a b) (k : Frm S' b c) (hs : ∀ x ∈ S', x ∈ S ∨ a.heap.size ≤ x) : Frm S a c :=
  ⟨k.os.trans h.os, k.tape.trans h.tape, k.output.trans h.output, Nat.le_trans h.size k.size, fun x hx hn =>
    (k.same x (Nat.lt_of_lt_of_le hx h.size) (fun hm => by rcases hs x hm with h1 | h1; exact hn h1; omega)).trans (h.same x hx hn)⟩
theorem Frm.mono {S S' : List Nat} {a b : World} (h : Frm S a b) (hs : ∀ x ∈ S, x ∈ S' ∨ a.heap.size ≤ x) : Frm S' a b :=
  ⟨h.os, h.tape, h.output, h.size, fun x hx hn => h.same x hx (fun hm => by rcases hs x hm with h1 | h1; exact hn h1; omega)⟩
theorem Frm.alloc {S : List Nat} {a b : World} (h : Frm S a b) (o : Obj) : Frm S a (b.alloc o) :=
  ⟨h.os, h.tape, h.output, Nat.le_trans h.size (by simp), fun x hx hn => (heap_alloc_below o (Nat.lt_of_lt_of_le hx h.size)).trans (h.same x hx hn)⟩
theorem Frm.drew {S : List Nat} {a b : World} (h : Frm S a b) : Frm S a b.drew := ⟨h.os, h.tape, h.output, h.size, h.same⟩
theorem Frm.drewN {S : List Nat} {a b : World} (h : Frm S a b) (n : Nat) : Frm S a (b.drewN n) := ⟨h.os, h.tape, h.output, h.size, h.same⟩
theorem Frm.setCell {S : List Nat} {a b : World} (h : Frm S a b) {p : Addr} (hp : p.block ∈ S ∨ a.heap.size ≤ p.block) (v : Value) : Frm S a (b.setCell p v) :=
  ⟨h.os, h.tape, h.output, by simpa using h.size, fun x hx hn => (heap_set_other v (fun e => by subst e; rcases hp with h1 | h1; exact hn h1; omega)).trans (h.same x hx hn)⟩
theorem Frm.grown {S : List Nat} {a b c : World} {row : Option Nat} (h : Frm S a b) (hg : b.grownBy c row) (hr : ∀ k, row = some k → k ∈ S ∨ a.heap.size ≤ k) : Frm S a c :=
  ⟨hg.os.trans h.os, hg.tape.trans h.tape, hg.output.trans h.output, Nat.le_trans h.size hg.size, fun x hx hn =>
    (hg.block x (Nat.lt_of_lt_of_le hx h.size) (fun e => by rcases hr x e.symm with h1 | h1; exact hn h1; omega)).trans (h.same x hx hn)⟩
theorem Frm.putObj {S : List Nat} {a b : World} (h : Frm S a b) {p : Nat} (hp : p ∈ S ∨ a.heap.size ≤ p) (o : Obj) : Frm S a (b.putObj p o) :=
  ⟨h.os, h.tape, h.output, by simpa using h.size, fun x hx hn => (World.putObj_heap_other (fun e => by subst e; rcases hp with h1 | h1; exact hn h1; omega)).trans (h.same x hx hn)⟩
theorem Frm.below {a b : World} (h : Frm [] a b) : Below a.heap.size a b := ⟨h.os, h.tape, h.output, h.size, fun x hx => h.same x hx (by simp)⟩
theorem Frm.ofBelow {a b : World} (h : Below a.heap.size a b) : Frm [] a b := ⟨h.os, h.tape, h.output, h.size, fun x hx _ => h.block x hx⟩
theorem Frm.heap {S : List Nat} {a b : World} (h : Frm S a b) {x : Nat} {o : Obj} (hx : a.heap[x]? = some o) (hn : x ∉ S) : b.heap[x]? = some o := (h.same x (lt_of_heap hx) hn).trans hx
theorem Frm.cell {S : List Nat} {a b : World} (h : Frm S a b) {p : Addr} {v : Value} (hc : a.cell? p = some v) (hn : p.block ∉ S) : b.cell? p = some v :=
  (World.cell?_of_block (h.same p.block (World.block_lt_of_cell? a p hc) hn)).trans hc
theorem Frm.frozen {S : List Nat} {a b : World} (h : Frm S a b) {p : Addr} (hlt : p.block < a.heap.size) (hn : p.block ∉ S) : b.frozen? p = a.frozen? p :=
  World.frozen?_of_block (h.same p.block hlt hn)

/-! ### Y is X but for blocks that hold no cells and lie from base on, and for new blocks -/
structure Ext (base : Nat) (X Y : World) : Prop where
  os : Y.os = X.os
  tape : Y.tape = X.tape
  output : Y.output = X.output
  size : X.heap.size ≤ Y.heap.size
  same : ∀ b o, X.heap[b]? = some o → (o.isCells = true ∨ b < base) → Y.heap[b]? = some o

theorem Ext.refl (base : Nat) (X : World) : Ext base X X := ⟨rfl, rfl, rfl, Nat.le_refl _, fun _ _ h _ => h⟩
theorem Ext.trans {base : Nat} {X Y Z : World} (h : Ext base X Y) (k : Ext base Y Z) : Ext base X Z :=
  ⟨k.os.trans h.os, k.tape.trans h.tape, k.output.trans h.output, Nat.le_trans h.size k.size, fun b o hb ho => k.same b o (h.same b o hb ho) ho⟩
theorem Ext.mono {base base' : Nat} {X Y : World} (h : Ext base X Y) (hb : base' ≤ base) : Ext base' X Y :=
  ⟨h.os, h.tape, h.output, h.size, fun b o hb' ho => h.same b o hb' (ho.imp id (fun h1 => by omega))⟩
theorem Ext.alloc {base : Nat} {X Y : World} (h : Ext base X Y) (o : Obj) : Ext base X (Y.alloc o) :=
  ⟨h.os, h.tape, h.output, Nat.le_trans h.size (by simp), fun b o' hb ho => by
    have := h.same b o' hb ho
    rw [heap_alloc_below o (lt_of_heap this)]; exact this⟩
theorem Ext.putObj {base : Nat} {X Y : World} (h : Ext base X Y) {l : Nat} {o : Obj} (hl : Y.heap[l]? = some o) (hc : o.isCells = false) (hb : base ≤ l) (o' : Obj) : Ext base X (Y.putObj l o') :=
  ⟨h.os, h.tape, h.output, by simpa using h.size, fun b x hx ho => by
    have h1 := h.same b x hx ho
    have hne : b ≠ l := fun e => by
      subst e
      rw [hl] at h1; cases h1
      rcases ho with h2 | h2
      · rw [hc] at h2; cases h2
      · omega
    rw [World.putObj_heap_other hne]; exact h1⟩
theorem Ext.cell {base : Nat} {X Y : World} (h : Ext base X Y) {p : Addr} {v : Value} (hc : X.cell? p = some v) : Y.cell? p = some v := by
  obtain ⟨o, ho, h1⟩ := cells_of_cell hc
  exact (World.cell?_of_block (show Y.heap[p.block]? = X.heap[p.block]? from (h.same _ _ ho (.inl h1)).trans ho.symm)).trans hc
theorem Ext.cells {base : Nat} {X Y : World} (h : Ext base X Y) {b : Nat} {c : Array Value} {t : TypeId} {fz : Nat × Nat} (hc : X.heap[b]? = some (.cells c t fz)) : Y.heap[b]? = some (.cells c t fz) := h.same _ _ hc (.inl rfl)
/-- A frame from below base is kept by what Ext lets turn. -/
theorem Frm.ext {S : List Nat} {a b c : World} {base : Nat} (h : Frm S a b) (k : Ext base b c) (hb : a.heap.size ≤ base) : Frm S a c :=
  ⟨k.os.trans h.os, k.tape.trans h.tape, k.output.trans h.output, Nat.le_trans h.size k.size, fun x hx hn => by
    obtain ⟨o, ho⟩ : ∃ o, b.heap[x]? = some o := ⟨_, Array.getElem?_eq_getElem (Nat.lt_of_lt_of_le hx h.size)⟩
    rw [k.same x o ho (.inr (by omega)), ← ho]; exact h.same x hx hn⟩

/-! ### Rounds at the wide fence: the number of frames left does not matter -/
theorem roundIn_any {m m' : Nat} {P : Program} {l : Nat} {f : FuncId} {tmps : Array Value} {assign body : Code} {w : World} {R : Ending → World → Prop}
    (h : RoundIn Fence.wide m P l f tmps assign body w R) : RoundIn Fence.wide m' P l f tmps assign body w R :=
  ⟨h.1, fun c cs _ => h.2 c cs (fun d hd => by cases hd)⟩
theorem yieldAt_any {m m' : Nat} {P : Program} {l : Nat} {args : Array Value} {W : World} {R : Ending → World → Prop} (h : YieldAt Fence.wide m P l args W R) : YieldAt Fence.wide m' P l args W R := by
  obtain ⟨fn, tmps, assign, body, hy, hR⟩ := h
  exact ⟨fn, tmps, assign, body, hy, roundIn_any hR⟩

/-- THE ITERATOR g (having captured lb) HANDS OVER JUST THE ELEMENTS OF xs, IN ORDER, for every loop body that keeps Kp; it stops where a round has said 'no more'. -/
def IterOver (P : Program) (g : Nat) (lb : Array Value) (xs : List (Array Value)) (Kp : World → World → Prop) (w : World) : Prop :=
  ∀ (l : Nat) (J Jx : Nat → World → Prop) (W : World), Ext w.heap.size w W →
    (∀ k X Y, J k X → Ext W.heap.size X Y → J k Y) → (∀ k X Y, Jx k X → Ext W.heap.size X Y → Jx k Y) →
    (∀ k x W1, xs[k]? = some x → J k W1 → YieldAt Fence.wide 0 P l x W1 fun e W' =>
      (e = .returned (.bool true) ∧ J (k + 1) W' ∧ Kp W1 W' ∧ KeepsFrom W.heap.size W1 W') ∨ (e = .returned (.bool false) ∧ Jx k W' ∧ KeepsFrom W.heap.size W1 W')) →
    J 0 W →
    Calls P g (#[.func (.yield l) #[] #[]] ++ lb) W fun e W' => (∃ v, e = .returned v) ∧ (J xs.length W' ∨ ∃ k, k < xs.length ∧ Jx k W')

/-- How the body of a round may be left. -/
def roundEnd (base : Nat) (Kp : World → World → Prop) (I : Nat → World → Prop) (Ix : Code → Nat → World → Prop) (k : Nat) (W : World) : Exit → Act → World → Prop
  | .normal, _, W' => KeepsFrom base W W' ∧ Kp W W' ∧ I (k + 1) W'
  | .ret, _, W' => KeepsFrom base W W' ∧ Ix .ret k W'
  | .exit id, _, W' => KeepsFrom base W W' ∧ Ix (.exit id) k W'
  | .goto t, _, W' => KeepsFrom base W W' ∧ Ix (.goto t) k W'
  | .panic _, _, _ => False
  | .outgrown, _, _ => False

variable {P : Program}

/-- **THE STATEMENT 'for .. := range g { body }' OVER AN ITERATOR WITH ITS CONTRACT.** I: between two rounds; Ix: a round has left by a jump. -/
theorem wp_range {n : Nat} {g : Operand} {ps : Array Tmp} {assign body : Code} {Q : Exit → Act → World → Prop} {a : Act} {w : World}
    {gf : Nat} {lb : Array Value} (hg : a.eval g = .func (.func gf) #[] lb) (eg : ∀ args w, (callFunc gf args).run P w = .ok (.enter gf args) w)
    {xs : List (Array Value)} {Kp : World → World → Prop} (hseq : IterOver P gf lb xs Kp w)
    (hKt : ∀ {A B C : World}, Kp A B → Kp B C → Kp A C) (hKb : ∀ (W : World) (l : Nat) (o o' : Obj), w.heap.size ≤ l → W.heap[l]? = some o → o.isCells = false → Kp W (W.putObj l o')) (hps : ∀ x ∈ xs, x.size = ps.size)
    (I : Nat → World → Prop) (Ix : Code → Nat → World → Prop) (hI : ∀ k X Y, I k X → Ext w.heap.size X Y → I k Y) (hIx : ∀ c k X Y, Ix c k X → Ext w.heap.size X Y → Ix c k Y) (h0 : I 0 w)
    (hround : ∀ (l k : Nat) (x : Array Value) (W : World), w.heap.size ≤ l → xs[k]? = some x → I k W → ∀ K' : Act → World → Prop,
      (∀ a₁ w₁, KeepsFrom w.heap.size W w₁ → Kp W w₁ → (∀ w₂, Ext w.heap.size w₁ w₂ → w₂.heap.size = w₁.heap.size → body.wpIn (Fence.wide.inRound l) n P (roundEnd w.heap.size Kp I Ix k w₂) a₁ w₂) → K' a₁ w₁) →
      assign.wpIn (Fence.wide.inRound l) n P (Exit.then K' (fun _ _ _ => False)) { tmps := (ps.zip x).foldl (fun t (p, v) => t.setIfInBounds p v) a.tmps, defers := [] } W)
    (hdone : ∀ (D : Nat) (W : World), w.heap.size ≤ D → I xs.length W → W.heap[D]? = some (.deferred (some [])) → Q .normal { a with defers := { target := .collected D, args := #[] } :: a.defers } W)
    (hstop : ∀ (D : Nat) (c : Code) (k : Nat) (W : World), w.heap.size ≤ D → k < xs.length → Ix c k W → W.heap[D]? = some (.deferred (some [])) → c.wpIn Fence.wide n P Q { a with defers := { target := .collected D, args := #[] } :: a.defers } W) :
    (Code.rangeFunc g ps assign body).wpIn Fence.wide n P Q a w := by
  refine wpIn_rangeFunc ?_
  intro fn hfn
  obtain ⟨rec, hrec⟩ : ∃ rec : LoopState → Option Code → Loop, rec = fun st pe => { state := st, pending := pe, fn, tmps := a.tmps, params := ps, assign, body, defers := w.heap.size } := ⟨_, rfl⟩
  obtain ⟨W1, hW1⟩ : ∃ W1, (w.alloc (.deferred (some []))).alloc (.loop (rec .ready none)) = W1 := ⟨_, rfl⟩
  have hL1 : W1.heap[w.heap.size + 1]? = some (.loop (rec .ready none)) := by
    rw [← hW1]; have := World.alloc_heap_new (w.alloc (.deferred (some []))) (.loop (rec .ready none)); rwa [World.size_alloc] at this
  have hK1 : W1.heap[w.heap.size]? = some (.deferred (some [])) := by
    rw [← hW1]; exact (Below.heap_alloc _ _ _ (by simp)).trans (World.alloc_heap_new w _)
  have hE1 : Ext w.heap.size w W1 := by rw [← hW1]; exact ((Ext.refl _ w).alloc _).alloc _
  have hs1 : W1.heap.size = w.heap.size + 2 := by rw [← hW1]; simp
  refine ⟨w.heap.size + 1, [{ target := .collected w.heap.size, args := #[] }], W1, { target := .fn (.func gf) lb, args := #[.func (.yield (w.heap.size + 1)) #[] #[]] }, W1, gf,
    #[.func (.yield (w.heap.size + 1)) #[] #[]] ++ lb, W1, ?_, ?_, fun _ _ => trivial, ?_, (fun h => by cases h), ?_⟩
  · rw [← hW1, hrec]; exact run_enterLoop_outer _ _ _ _ _
  · simp only [resolve, hg]
    simp [go_sem]
  · simp [invoke, go_sem, eg]
  · refine callsIn_wide.2 ((hseq (w.heap.size + 1)
      (fun k W => I k W ∧ W.heap[w.heap.size + 1]? = some (.loop (rec .ready none)) ∧ W.heap[w.heap.size]? = some (.deferred (some [])))
      (fun k W => ∃ c, Ix c k W ∧ W.heap[w.heap.size + 1]? = some (.loop (rec .done (some c))) ∧ W.heap[w.heap.size]? = some (.deferred (some [])))
      W1 hE1
      (fun k A B hs hg' => ⟨hI k A B hs.1 (hg'.mono (by omega)), hg'.same _ _ hs.2.1 (.inr (by omega)), hg'.same _ _ hs.2.2 (.inr (by omega))⟩)
      (fun k A B hs hg' => by
        obtain ⟨c, hc, hl, hk⟩ := hs
        exact ⟨c, hIx c k A B hc (hg'.mono (by omega)), hg'.same _ _ hl (.inr (by omega)), hg'.same _ _ hk (.inr (by omega))⟩)
      ?_ ⟨hI 0 w W1 h0 hE1, hL1, hK1⟩).mono ?_)
    · -- one round
      rintro k x W hx ⟨hi, hl, hk⟩
      have hy := run_yield (P := P) (args := x) hl (by rw [hrec]; exact hps x (List.mem_of_getElem? hx))
      rw [hrec] at hy
      refine ⟨fn, _, assign, body, hy, roundIn_any (m := n) (roundIn_of_wpIn trivial (hround _ k x W (by omega) hx hi _ ?_))⟩
      clear hy
      intro a' Wa hkfa hkpa hbody
      replace hl := hkfa.same _ _ (by omega) hl rfl
      replace hk := hkfa.same _ _ (Nat.le_refl _) hk rfl
      have hlt : w.heap.size + 1 < Wa.heap.size := lt_of_heap hl
      refine ⟨_, run_beginRound hl (by rw [hrec]), ?_⟩
      have hl2 : (Wa.putObj (w.heap.size + 1) (.loop { rec .ready none with state := .busy })).heap[w.heap.size + 1]? = some (.loop { rec .ready none with state := .busy }) := World.putObj_heap_same hlt
      have hk2 : (Wa.putObj (w.heap.size + 1) (.loop { rec .ready none with state := .busy })).heap[w.heap.size]? = some (.deferred (some [])) := (World.putObj_heap_other (by omega)).trans hk
      have hkA : KeepsFrom W1.heap.size W Wa := ⟨hkfa.size, fun i o hB hi ho => hkfa.same i o (by omega) hi ho⟩
      have hkP : ∀ (X : World) (o : Obj), KeepsFrom W1.heap.size X (X.putObj (w.heap.size + 1) o) := fun X o => ⟨by simp, fun i o' hB hi _ => (World.putObj_heap_other (by omega)).trans hi⟩
      have hkM : ∀ {X Y : World}, KeepsFrom w.heap.size X Y → KeepsFrom W1.heap.size X Y := fun h => ⟨h.size, fun i o hB hi ho => h.same i o (by omega) hi ho⟩
      have hw2 : Kp Wa (Wa.putObj (w.heap.size + 1) (.loop { rec .ready none with state := .busy })) := hKb _ _ _ _ (by omega) hl rfl
      refine wpIn_mono (hbody _ ((Ext.refl _ _).putObj hl rfl (by omega) _) (by simp)) ?_
      have fin : ∀ (jump : Option Code) (W3 : World), KeepsFrom w.heap.size (Wa.putObj (w.heap.size + 1) (.loop { rec .ready none with state := .busy })) W3 →
          (Instr.endRound (w.heap.size + 1) jump).run P W3 = .ok (.bool jump.isNone) (W3.putObj (w.heap.size + 1) (.loop (rec (if jump.isNone then .ready else .done) jump))) ∧
          W3.heap[w.heap.size + 1]? = some (.loop { rec .ready none with state := .busy }) ∧
          (W3.putObj (w.heap.size + 1) (.loop (rec (if jump.isNone then .ready else .done) jump))).heap[w.heap.size + 1]? = some (.loop (rec (if jump.isNone then .ready else .done) jump)) ∧
          (W3.putObj (w.heap.size + 1) (.loop (rec (if jump.isNone then .ready else .done) jump))).heap[w.heap.size]? = some (.deferred (some [])) := fun jump W3 hk3 => by
        have hl3 := hk3.same _ _ (by omega) hl2 rfl
        have := run_endRound (P := P) jump hl3
        rw [hrec] at this ⊢
        exact ⟨this, by rw [hrec] at hl3; exact hl3, World.putObj_heap_same (lt_of_heap hl3), (World.putObj_heap_other (by omega)).trans (hk3.same _ _ (Nat.le_refl _) hk2 rfl)⟩
      rintro e a3 W3 hp
      cases e with
      | normal =>
        obtain ⟨hk3, hkp3, hi3⟩ := hp
        obtain ⟨hr, hl3, hl4, hk4⟩ := fin none W3 hk3
        exact ⟨_, _, hr, .inl ⟨rfl, ⟨hI _ _ _ hi3 ((Ext.refl _ _).putObj hl3 rfl (by omega) _), hl4, hk4⟩, hKt hkpa (hKt (hKt hw2 hkp3) (hKb _ _ _ _ (by omega) hl3 rfl)), ((hkA.trans (hkP _ _)).trans (hkM hk3)).trans (hkP _ _)⟩⟩
      | ret =>
        obtain ⟨hk3, hi3⟩ := hp
        obtain ⟨hr, hl3, hl4, hk4⟩ := fin (some .ret) W3 hk3
        exact ⟨_, _, hr, .inr ⟨rfl, ⟨.ret, hIx _ _ _ _ hi3 ((Ext.refl _ _).putObj hl3 rfl (by omega) _), hl4, hk4⟩, ((hkA.trans (hkP _ _)).trans (hkM hk3)).trans (hkP _ _)⟩⟩
      | exit id =>
        obtain ⟨hk3, hi3⟩ := hp
        obtain ⟨hr, hl3, hl4, hk4⟩ := fin (some (.exit id)) W3 hk3
        exact ⟨_, _, hr, .inr ⟨rfl, ⟨.exit id, hIx _ _ _ _ hi3 ((Ext.refl _ _).putObj hl3 rfl (by omega) _), hl4, hk4⟩, ((hkA.trans (hkP _ _)).trans (hkM hk3)).trans (hkP _ _)⟩⟩
      | goto t =>
        obtain ⟨hk3, hi3⟩ := hp
        obtain ⟨hr, hl3, hl4, hk4⟩ := fin (some (.goto t)) W3 hk3
        exact ⟨_, _, hr, .inr ⟨rfl, ⟨.goto t, hIx _ _ _ _ hi3 ((Ext.refl _ _).putObj hl3 rfl (by omega) _), hl4, hk4⟩, ((hkA.trans (hkP _ _)).trans (hkM hk3)).trans (hkP _ _)⟩⟩
      | panic ch => exact hp.elim
      | outgrown => exact hp.elim
    · -- behind the iterator
      rintro e W2 ⟨⟨v, rfl⟩, (⟨hi, hl, hk⟩ | ⟨k, hlt, c, hi, hl, hk⟩)⟩
      · exact ⟨none, _, by have := run_endLoop (P := P) hl (by rw [hrec]; simp); rw [hrec] at this; exact this, hdone _ _ (Nat.le_refl _) (hI _ _ _ hi ((Ext.refl _ _).putObj hl rfl (by omega) _)) ((World.putObj_heap_other (by omega)).trans hk)⟩
      · exact ⟨some c, _, by have := run_endLoop (P := P) hl (by rw [hrec]; simp); rw [hrec] at this; exact this, hstop _ c k _ (Nat.le_refl _) hlt (hIx _ _ _ _ hi ((Ext.refl _ _).putObj hl rfl (by omega) _)) ((World.putObj_heap_other (by omega)).trans hk)⟩

/-- The same where the loop's variables are plain: the assignment code only moves values. -/
theorem wp_range_plain {n : Nat} {g : Operand} {ps : Array Tmp} {assign body : Code} {Q : Exit → Act → World → Prop} {a : Act} {w : World}
    {gf : Nat} {lb : Array Value} (hg : a.eval g = .func (.func gf) #[] lb) (eg : ∀ args w, (callFunc gf args).run P w = .ok (.enter gf args) w)
    {xs : List (Array Value)} {Kp : World → World → Prop} (hseq : IterOver P gf lb xs Kp w)
    (hKt : ∀ {A B C : World}, Kp A B → Kp B C → Kp A C) (hKr : ∀ A, Kp A A) (hKb : ∀ (W : World) (l : Nat) (o o' : Obj), w.heap.size ≤ l → W.heap[l]? = some o → o.isCells = false → Kp W (W.putObj l o')) (hps : ∀ x ∈ xs, x.size = ps.size)
    (I : Nat → World → Prop) (Ix : Code → Nat → World → Prop) (hI : ∀ k X Y, I k X → Ext w.heap.size X Y → I k Y) (hIx : ∀ c k X Y, Ix c k X → Ext w.heap.size X Y → Ix c k Y) (h0 : I 0 w)
    (a₁ : Nat → Array Value → Act)
    (hassign : ∀ (l k : Nat) (x : Array Value) (W : World) (K : Act → World → Prop), xs[k]? = some x → K (a₁ k x) W →
      assign.wpIn (Fence.wide.inRound l) n P (Exit.then K (fun _ _ _ => False)) { tmps := (ps.zip x).foldl (fun t (p, v) => t.setIfInBounds p v) a.tmps, defers := [] } W)
    (hbody : ∀ (l k : Nat) (x : Array Value) (W : World), xs[k]? = some x → I k W → body.wpIn (Fence.wide.inRound l) n P (roundEnd w.heap.size Kp I Ix k W) (a₁ k x) W)
    (hdone : ∀ (D : Nat) (W : World), w.heap.size ≤ D → I xs.length W → W.heap[D]? = some (.deferred (some [])) → Q .normal { a with defers := { target := .collected D, args := #[] } :: a.defers } W)
    (hstop : ∀ (D : Nat) (c : Code) (k : Nat) (W : World), w.heap.size ≤ D → k < xs.length → Ix c k W → W.heap[D]? = some (.deferred (some [])) → c.wpIn Fence.wide n P Q { a with defers := { target := .collected D, args := #[] } :: a.defers } W) :
    (Code.rangeFunc g ps assign body).wpIn Fence.wide n P Q a w :=
  wp_range hg eg hseq hKt hKb hps I Ix hI hIx h0
    (fun l k x W _ hx hi K' hK' => hassign l k x W K' hx (hK' _ _ (KeepsFrom.refl _ _) (hKr _) fun w₂ he _ => hbody l k x w₂ hx (hI k W w₂ hi he)))
    hdone hstop

/-! ### copy, for elements of whatever size -/
/-- cs laid over the cells cur from place o on. -/
def overlay (cur : Array Value) (o : Nat) (cs : List Value) : Array Value := (cur.toList.take o ++ cs ++ cur.toList.drop (o + cs.length)).toArray
theorem overlay_size {cur : Array Value} {o : Nat} {cs : List Value} (h : o + cs.length ≤ cur.size) : (overlay cur o cs).size = cur.size := by
  simp [overlay]; omega
theorem overlay_toList (cur : Array Value) (o : Nat) (cs : List Value) : (overlay cur o cs).toList = cur.toList.take o ++ cs ++ cur.toList.drop (o + cs.length) := rfl
theorem Frm.setRow {S : List Nat} {a b : World} (h : Frm S a b) {g : Nat} (hp : g ∈ S ∨ a.heap.size ≤ g) (cs : Array Value) : Frm S a (b.setRow g cs) :=
  h.grown (row := some g) ⟨rfl, rfl, rfl, by simp [World.setRow], fun k _ hk => setRow_other b g k cs (fun e => hk (by rw [e]))⟩ (by rintro k hk; cases hk; exact hp)
theorem run_copy_gen (w : World) (dT sT ty elem : TypeId) (sz : Nat) (g o dLen dCap : Nat) (a : Addr) (sLen sCap : Nat) (cur : Array Value) (t : TypeId) (cs : List Value)
    (hu : P.underlying dT = some (.slice elem)) (hs : (P.info? elem).map (·.size) = some sz)
    (hg : w.heap[g]? = some (.cells cur t (0, 0))) (hn : cs.length = Nat.min sLen dLen * sz)
    (hsrc : ∀ j v, cs[j]? = some v → w.cell? (a.add j) = some v) (hfit : o + cs.length ≤ cur.size) (h1 : ∀ v ∈ cs, v.oneCell' = true) :
    (Builtin.copy_ #[dT, sT] ty #[.slice (some ⟨g, o, none⟩) dLen dCap, .slice (some a) sLen sCap]).run P w =
      .ok (goInt (Nat.min sLen dLen)) (w.setRow g (overlay cur o cs)) := by
  have hl := run_loadCells_list (P := P) w a cs hsrc
  have hst := run_storeCells_at P g o t cs 0 cur w hg (by simpa using hfit) h1
  cases hq : P.info? elem with
  | none => simp [hq] at hs
  | some i =>
    have hi : i.size = sz := by simpa [hq] using hs
    simp [Builtin.copy_, run_underlying hu, Builtin.lenOf, Builtin.firstCells, sizeOf, typeInfo, hq, hi, ← hn, hl, hst, overlay]
theorem wpList_copy_blk {w : World} {ops : Array Oper} {rest : List Oper} {o : Oper} {a : Act} {Q : Exit → Act → World → Prop} (hgd : o.guard = none) (d s : Operand) (dT sT : TypeId)
    (ho : o.op = .call { callee := .builtin .copy, args := #[d, s], argTypes := #[dT, sT] }) (elem : TypeId) (sz : Nat) (hu : P.underlying dT = some (.slice elem)) (hsz : (P.info? elem).map (·.size) = some sz)
    (g off dLen dCap : Nat) (ad : Addr) (sLen sCap : Nat) (hd : a.eval d = .slice (some ⟨g, off, none⟩) dLen dCap) (hs : a.eval s = .slice (some ad) sLen sCap)
    (cur : Array Value) (t : TypeId) (hg : w.heap[g]? = some (.cells cur t (0, 0))) (cs : List Value) (k : Nat) (hk : k = Nat.min sLen dLen) (hn : cs.length = k * sz)
    (hsrc : ∀ j v, cs[j]? = some v → w.cell? (ad.add j) = some v) (hfit : off + cs.length ≤ cur.size) (h1 : ∀ v ∈ cs, v.oneCell' = true)
    (h : ∀ w', w'.heap[g]? = some (.cells (overlay cur off cs) t (0, 0)) → Frm [g] w w' → wpList P ops Q rest (a.put o.dst (goInt k)) w') : wpList P ops Q (o :: rest) a w := by
  subst hk
  refine wpList_plain hgd fun K hK => ?_
  have hrun := run_copy_gen (P := P) w dT sT o.type elem sz g off dLen dCap ad sLen sCap cur t cs hu hsz hg hn hsrc hfit h1
  unfold Oper.wp
  simp [execOp, ho, resolve, invoke, builtin, hd, hs, hrun, Result.andThen]
  exact hK _ _ (h _ (setRow_heap w g cur _ t _ hg) ((Frm.refl _ w).setRow (by simp) _))
/-- The cells of a list that lie from place o of block g on can be read there. -/
theorem read_block {w : World} {g : Nat} {cur : Array Value} {t : TypeId} {fz : Nat × Nat} (hg : w.heap[g]? = some (.cells cur t fz)) (o : Nat) (cs : List Value) (h : ∀ j v, cs[j]? = some v → cur[o + j]? = some v) :
    ∀ j v, cs[j]? = some v → w.cell? ((⟨g, o, none⟩ : Addr).add j) = some v := by
  intro j v hv
  rw [Addr.add_lit]
  exact cell_of_heap hg (h j v hv)
theorem oneCell_take {cs : List Value} (h : ∀ v ∈ cs, v.oneCell' = true) (n : Nat) : ∀ v ∈ cs.take n, v.oneCell' = true := fun v hv => h v (List.mem_of_mem_take hv)
theorem oneCell_drop {cs : List Value} (h : ∀ v ∈ cs, v.oneCell' = true) (n : Nat) : ∀ v ∈ cs.drop n, v.oneCell' = true := fun v hv => h v (List.mem_of_mem_drop hv)
theorem oneCell_append {cs ds : List Value} (h : ∀ v ∈ cs, v.oneCell' = true) (k : ∀ v ∈ ds, v.oneCell' = true) : ∀ v ∈ cs ++ ds, v.oneCell' = true := fun v hv => (List.mem_append.1 hv).elim (h v) (k v)

/-! ### append to a slice of the call's own, from whatever slice -/
/-- The slice value v of n elements reads as the cells cs. -/
def Rd (w : World) (v : Value) (n : Nat) (cs : List Value) : Prop :=
  (v = .slice none 0 0 ∧ n = 0 ∧ cs = []) ∨ ∃ a c, v = .slice (some a) n c ∧ ∀ j u, cs[j]? = some u → w.cell? (a.add j) = some u
theorem Rd.ofOwn {w : World} {base e size : Nat} {v : Value} {n : Nat} {cs : List Value} (h : w.ownsRow base e size v n cs) : Rd w v n cs := by
  rcases h.2 with ⟨rfl, rfl⟩ | ⟨g, cap, cur, rfl, h2⟩
  · exact .inl ⟨rfl, rfl, List.eq_nil_of_length_eq_zero (by simpa using h.1)⟩
  · exact .inr ⟨_, _, rfl, h.cells rfl⟩
theorem append_block (w : World) (base : Nat) (t ty e : TypeId) (i : TypeInfo) (z : Value) (size bytes : Nat) (ht : P.underlying t = some (.slice e)) (hi : P.info? e = some i) (hz : i.zero = some z)
    (hsize : i.size = size) (hby : i.bytes = bytes) (hsz : 0 < size)
    (v : Value) (n : Nat) (xs : List Value) (hown : w.ownsRow base e size v n xs)
    (a : Addr) (m c : Nat) (news : List Value) (hl : news.length = m * size) (hnews : ∀ j u, news[j]? = some u → w.cell? (a.add j) = some u) (h1 : ∀ u ∈ news, u.oneCell' = true)
    (h63 : n + m ≤ maxLen) (hbytes : (n + m) * bytes ≤ 140737488355328) (v' : Value) (w' : World) (hr : (Builtin.append_ #[t, t] ty #[v, .slice (some a) m c]).run P w = .ok v' w') :
    v'.ownBlock = v.ownBlock ∨ v'.ownBlock = some w.heap.size := by
  subst hsize
  subst hby
  have hsmall : n + m ≤ 9223372036854775807 := by simp only [maxLen] at h63; omega
  rcases hown.2 with ⟨rfl, rfl⟩ | ⟨g, cap, cur, rfl, hbg, hg, hnc, hcm, hcs, htake⟩
  · by_cases hm : m = 0
    · subst hm
      have hn : news = [] := List.eq_nil_of_length_eq_zero (by simpa using hl)
      subst hn
      have : (Builtin.append_ #[t, t] ty #[.slice none 0 0, .slice (some a) 0 c]).run P w = .ok (.slice none 0 0) w := by
        simp [Builtin.append_, run_underlying ht, sizeOf, typeInfo, hi, Builtin.lenOf, Builtin.firstCells, loadCells, loadCellsFrom]
      rw [this] at hr
      cases hr
      exact .inl rfl
    · have hr2 := run_append_nil (P := P) w t ty e i z ht hi hz a m c news hl hnews (by omega) (by omega) (by have hb := hbytes; simp only [Nat.zero_add] at hb; omega)
      rw [hr2] at hr
      cases hr
      exact .inr rfl
  · by_cases hroom : n + m ≤ cap
    · have hfit : n * i.size + news.length ≤ cur.size := by rw [hl, hcs, ← Nat.add_mul]; exact Nat.mul_le_mul_right _ hroom
      have hr2 := run_append_room (P := P) w t ty e i ht hi g n cap cur hg a m c news hl hnews h1 hroom hfit
      rw [hr2] at hr
      cases hr
      exact .inl rfl
    · have holds : ∀ j u, xs[j]? = some u → w.cell? ((⟨g, 0, none⟩ : Addr).add j) = some u := hown.cells (g := g) rfl
      have hr2 := run_append_grow (P := P) w t ty e i z ht hi hz ⟨g, 0, none⟩ n cap xs hown.1 holds a m c news hl hnews (by omega) (by omega) (growslice_fits (by omega) hbytes)
      rw [hr2] at hr
      cases hr
      exact .inr rfl
theorem run_append_row (w : World) (base : Nat) (t ty e : TypeId) (i : TypeInfo) (z : Value) (size bytes : Nat) (ht : P.underlying t = some (.slice e)) (hi : P.info? e = some i) (hz : i.zero = some z)
    (hsize : i.size = size) (hby : i.bytes = bytes) (hzs : z.cells.size = size) (hsz : 0 < size)
    (v : Value) (n : Nat) (xs : List Value) (hown : w.ownsRow base e size v n xs)
    (vx : Value) (m : Nat) (news : List Value) (hrd : Rd w vx m news) (hl : news.length = m * size) (h1 : ∀ u ∈ news, u.oneCell' = true)
    (h63 : n + m ≤ maxLen) (hbytes : (n + m) * bytes ≤ 140737488355328) (hbase : base ≤ w.heap.size) :
    ∃ v' w', (Builtin.append_ #[t, t] ty #[v, vx]).run P w = .ok v' w' ∧ w'.ownsRow base e size v' (n + m) (xs ++ news) ∧ Frm v.ownBlock.toList w w' ∧ (∀ k, v'.ownBlock = some k → some k = v.ownBlock ∨ k = w.heap.size) ∧
      (v' = .slice none 0 0 ↔ v = .slice none 0 0 ∧ m = 0) := by
  rcases hrd with ⟨rfl, rfl, rfl⟩ | ⟨a, c, rfl, hnews⟩
  · have hrun := run_append_owned_none (P := P) (w := w) base t ty e i size ht hi v n xs hown
    exact ⟨v, w, hrun, by simpa using hown, Frm.refl _ _, fun k hk => .inl hk.symm, by simp⟩
  · obtain ⟨v', w', hr, h2, h3, h4⟩ := run_append_own (P := P) w base t ty e i z size bytes ht hi hz hsize hby hzs hsz v n xs hown a m c news hl hnews h1 h63 hbytes hbase
    have hb := append_block (P := P) w base t ty e i z size bytes ht hi hz hsize hby hsz v n xs hown a m c news hl hnews h1 h63 hbytes v' w' hr
    refine ⟨v', w', hr, h2, (Frm.refl _ w).grown h3 (by intro k hk; left; simp [hk]), fun k hk => ?_, h4⟩
    rcases hb with hb | hb
    · left; rw [← hb, hk]
    · right; rw [hk] at hb; exact Option.some.inj hb
theorem wpList_append_row {w : World} {ops : Array Oper} {rest : List Oper} {o : Oper} {a : Act} {Q : Exit → Act → World → Prop} (hgd : o.guard = none) (s x : Operand) (t : TypeId)
    (ho : o.op = .call { callee := .builtin .append, args := #[s, x], argTypes := #[t, t] })
    (base : Nat) (e : TypeId) (i : TypeInfo) (z : Value) (size bytes : Nat) (ht : P.underlying t = some (.slice e)) (hi : P.info? e = some i) (hz : i.zero = some z)
    (hsize : i.size = size) (hby : i.bytes = bytes) (hzs : z.cells.size = size) (hsz : 0 < size)
    (v : Value) (n : Nat) (xs : List Value) (hs : a.eval s = v) (hown : w.ownsRow base e size v n xs)
    (vx : Value) (m : Nat) (news : List Value) (hx : a.eval x = vx) (hrd : Rd w vx m news) (hl : news.length = m * size) (h1 : ∀ u ∈ news, u.oneCell' = true)
    (h63 : n + m ≤ maxLen) (hbytes : (n + m) * bytes ≤ 140737488355328) (hbase : base ≤ w.heap.size)
    (h : ∀ v' w', w'.ownsRow base e size v' (n + m) (xs ++ news) → Frm v.ownBlock.toList w w' → (∀ k, v'.ownBlock = some k → some k = v.ownBlock ∨ k = w.heap.size) → (v' = .slice none 0 0 ↔ v = .slice none 0 0 ∧ m = 0) → wpList P ops Q rest (a.put o.dst v') w') : wpList P ops Q (o :: rest) a w := by
  refine wpList_plain hgd fun K hK => ?_
  obtain ⟨v', w', hrun, r1, r2, r3, r4⟩ := run_append_row (P := P) w base t o.type e i z size bytes ht hi hz hsize hby hzs hsz v n xs hown vx m news hrd hl h1 h63 hbytes hbase
  unfold Oper.wp
  simp [execOp, ho, resolve, invoke, builtin, hs, hx, hrun, Result.andThen]
  exact hK _ _ (h v' w' r1 r2 r3 r4)
theorem wpListIn_append_row {F : Fence} {fr : Nat} {w : World} {ops : Array Oper} {rest : List Oper} {o : Oper} {a : Act} {Q : Exit → Act → World → Prop} (hgd : o.guard = none) (s x : Operand) (t : TypeId)
    (ho : o.op = .call { callee := .builtin .append, args := #[s, x], argTypes := #[t, t] })
    (base : Nat) (e : TypeId) (i : TypeInfo) (z : Value) (size bytes : Nat) (ht : P.underlying t = some (.slice e)) (hi : P.info? e = some i) (hz : i.zero = some z)
    (hsize : i.size = size) (hby : i.bytes = bytes) (hzs : z.cells.size = size) (hsz : 0 < size)
    (v : Value) (n : Nat) (xs : List Value) (hs : a.eval s = v) (hown : w.ownsRow base e size v n xs)
    (vx : Value) (m : Nat) (news : List Value) (hx : a.eval x = vx) (hrd : Rd w vx m news) (hl : news.length = m * size) (h1 : ∀ u ∈ news, u.oneCell' = true)
    (h63 : n + m ≤ maxLen) (hbytes : (n + m) * bytes ≤ 140737488355328) (hbase : base ≤ w.heap.size)
    (h : ∀ v' w', w'.ownsRow base e size v' (n + m) (xs ++ news) → Frm v.ownBlock.toList w w' → (∀ k, v'.ownBlock = some k → some k = v.ownBlock ∨ k = w.heap.size) → (v' = .slice none 0 0 ↔ v = .slice none 0 0 ∧ m = 0) → wpListIn F fr P ops Q rest (a.put o.dst v') w') : wpListIn F fr P ops Q (o :: rest) a w := by
  refine wpListIn_plain hgd fun K hK => ?_
  obtain ⟨v', w', hrun, r1, r2, r3, r4⟩ := run_append_row (P := P) w base t o.type e i z size bytes ht hi hz hsize hby hzs hsz v n xs hown vx m news hrd hl h1 h63 hbytes hbase
  unfold Oper.wpIn
  refine ⟨?_, ?_⟩
  · simp [Oper.about, ho, resolve, Target.leads, Sem.run_pure]
  · rw [Oper.semAt_plain F _ _ (by rw [ho]; intro c hc'; cases hc')]
    simp [execOp, ho, resolve, invoke, builtin, hs, hx, hrun, Result.andThen]
    exact hK _ _ (h v' w' r1 r2 r3 r4)

theorem overlay_two (cur : Array Value) (xs ys : List Value) (ib imb : Nat) (hx : cur.toList.take xs.length = xs) (hib : ib ≤ xs.length) (him : imb = ib + ys.length) (hfit : xs.length + ys.length ≤ cur.size) :
    (overlay (overlay cur imb (xs.drop ib)) ib ys).toList.take (xs.length + ys.length) = xs.take ib ++ ys ++ xs.drop ib := by
  subst him
  have hl : (xs.drop ib).length = xs.length - ib := by simp
  have e1 : xs.take ib = cur.toList.take ib := by rw [← hx, List.take_take]; congr 1; omega
  have e3 : (overlay cur (ib + ys.length) (xs.drop ib)).toList.take ib = xs.take ib := by
    rw [overlay_toList, List.append_assoc, List.take_append_of_le_length (by simp; omega), List.take_take, e1]
    congr 1; omega
  have e4 : (overlay cur (ib + ys.length) (xs.drop ib)).toList.drop (ib + ys.length) = xs.drop ib ++ cur.toList.drop (ib + ys.length + (xs.drop ib).length) := by
    rw [overlay_toList, List.append_assoc, List.drop_append_of_le_length (by simp; omega), List.drop_eq_nil_of_le (by simp; omega)]
    rfl
  rw [overlay_toList, e3, e4, ← List.append_assoc, List.take_append_of_le_length (by simp; omega), List.take_of_length_le (by simp; omega)]

theorem overlay_grow (row : Array Value) (X ys tail : List Value) (ib imb : Nat) (hx : row.toList.take ib = X) (hib : X.length = ib) (him : imb = ib + ys.length) (hfit : imb + tail.length ≤ row.size) :
    (overlay (overlay row ib ys) imb tail).toList.take (imb + tail.length) = X ++ ys ++ tail := by
  subst him
  have e1 : (overlay row ib ys).toList.take (ib + ys.length) = X ++ ys := by
    rw [overlay_toList, hx, List.take_append_of_le_length (by simp; omega), List.take_of_length_le (by simp; omega)]
  rw [overlay_toList, e1, List.take_append_of_le_length (by simp; omega), List.take_of_length_le (by simp; omega)]

/-! ### clear -/
theorem run_clear_gen (w : World) (t e ty : TypeId) (z : Value) (sz : Nat) (ht : P.underlying t = some (.slice e)) (hv : ∀ w, (zeroValue e).run P w = .ok z w) (hz : z.cells.size = sz) (g o n c : Nat) (hn : 0 < n)
    (h1 : ∀ u ∈ (Builtin.zeroCells z.cells n).toList, u.oneCell' = true) (cur : Array Value) (tt : TypeId) (hg : w.heap[g]? = some (.cells cur tt (0, 0))) (hfit : o + n * sz ≤ cur.size) :
    (Builtin.clear_ #[t] ty #[.slice (some ⟨g, o, none⟩) n c]).run P w = .ok (.tuple #[]) (w.setRow g (overlay cur o (Builtin.zeroCells z.cells n).toList)) := by
  have hst := run_storeCells_at P g o tt (Builtin.zeroCells z.cells n).toList 0 cur w hg (by simp [size_zeroCells, hz]; omega) h1
  obtain ⟨k, rfl⟩ : ∃ k, n = k + 1 := ⟨n - 1, by omega⟩
  simp only [Nat.add_zero] at hst
  simp [Builtin.clear_, run_underlying ht, hv, hst, overlay]
theorem wpList_clear {w : World} {ops : Array Oper} {rest : List Oper} {o : Oper} {a : Act} {Q : Exit → Act → World → Prop} (hgd : o.guard = none) (s : Operand) (t : TypeId)
    (ho : o.op = .call { callee := .builtin .clear, args := #[s], argTypes := #[t] }) (e : TypeId) (z : Value) (sz : Nat) (ht : P.underlying t = some (.slice e)) (hv : ∀ w, (zeroValue e).run P w = .ok z w) (hz : z.cells.size = sz) (g off n c : Nat) (hn : 0 < n)
    (zs : List Value) (hzs : zs = (Builtin.zeroCells z.cells n).toList) (h1 : ∀ u ∈ zs, u.oneCell' = true) (cur : Array Value) (tt : TypeId) (hg : w.heap[g]? = some (.cells cur tt (0, 0))) (hfit : off + n * sz ≤ cur.size) (hs : a.eval s = .slice (some ⟨g, off, none⟩) n c)
    (h : ∀ w', w'.heap[g]? = some (.cells (overlay cur off zs) tt (0, 0)) → Frm [g] w w' → wpList P ops Q rest (a.put o.dst (.tuple #[])) w') : wpList P ops Q (o :: rest) a w := by
  subst hzs
  refine wpList_plain hgd fun K hK => ?_
  have hrun := run_clear_gen (P := P) w t e o.type z sz ht hv hz g off n c hn h1 cur tt hg hfit
  unfold Oper.wp
  simp [execOp, ho, resolve, invoke, builtin, hs, hrun, Result.andThen]
  exact hK _ _ (h _ (setRow_heap w g cur _ tt _ hg) ((Frm.refl _ w).setRow (by simp) _))

theorem wpList_append_in {w : World} {ops : Array Oper} {rest : List Oper} {o : Oper} {a : Act} {Q : Exit → Act → World → Prop} (hgd : o.guard = none) (s x : Operand) (t : TypeId)
    (ho : o.op = .call { callee := .builtin .append, args := #[s, x], argTypes := #[t, t] }) (e : TypeId) (i : TypeInfo) (size : Nat) (ht : P.underlying t = some (.slice e)) (hi : P.info? e = some i) (hsize : i.size = size)
    (g sLen sCap : Nat) (hs : a.eval s = .slice (some ⟨g, 0, none⟩) sLen sCap) (cur : Array Value) (hg : w.heap[g]? = some (.cells cur e (0, 0)))
    (ad : Addr) (m c : Nat) (hx : a.eval x = .slice (some ad) m c) (news : List Value) (hl : news.length = m * size) (hnews : ∀ j u, news[j]? = some u → w.cell? (ad.add j) = some u) (h1 : ∀ u ∈ news, u.oneCell' = true)
    (hroom : sLen + m ≤ sCap) (off : Nat) (hoff : off = sLen * size) (hfit : off + news.length ≤ cur.size)
    (h : ∀ w', w'.heap[g]? = some (.cells (overlay cur off news) e (0, 0)) → Frm [g] w w' → wpList P ops Q rest (a.put o.dst (.slice (some ⟨g, 0, none⟩) (sLen + m) sCap)) w') : wpList P ops Q (o :: rest) a w := by
  subst hsize
  subst hoff
  refine wpList_plain hgd fun K hK => ?_
  have hrun : (Builtin.append_ #[t, t] o.type #[.slice (some ⟨g, 0, none⟩) sLen sCap, .slice (some ad) m c]).run P w = .ok (.slice (some ⟨g, 0, none⟩) (sLen + m) sCap) (w.setRow g (overlay cur (sLen * i.size) news)) :=
    run_append_room (P := P) w t o.type e i ht hi g sLen sCap cur hg ad m c news hl hnews h1 hroom hfit
  unfold Oper.wp
  simp [execOp, ho, resolve, invoke, builtin, hs, hx, hrun, Result.andThen]
  exact hK _ _ (h (w.setRow g (overlay cur (sLen * i.size) news)) (setRow_heap w g cur _ e _ hg) ((Frm.refl _ w).setRow (by simp) _))
theorem overlay_cut (cur : Array Value) (xs zs : List Value) (ib jb : Nat) (hx : cur.toList.take xs.length = xs) (hij : ib ≤ jb) (hj : jb ≤ xs.length) (hlen : xs.length ≤ cur.size) :
    (overlay (overlay cur ib (xs.drop jb)) (ib + (xs.length - jb)) zs).toList.take (ib + (xs.length - jb)) = xs.take ib ++ xs.drop jb := by
  have e1 : xs.take ib = cur.toList.take ib := by rw [← hx, List.take_take]; congr 1; omega
  rw [overlay_toList, List.append_assoc, List.take_append_of_le_length (by simp [overlay_toList]; omega), List.take_take, Nat.min_self, overlay_toList,
    List.take_append_of_le_length (by simp; omega), List.take_of_length_le (by simp; omega), e1]

/-! ### What a loop's body keeps for an iterator: the blocks of a list -/
def Keep (L : List Nat) (X Y : World) : Prop := ∀ b ∈ L, Y.heap[b]? = X.heap[b]?
theorem Keep.refl (L : List Nat) (X : World) : Keep L X X := fun _ _ => rfl
theorem Keep.trans {L : List Nat} {A B C : World} (h : Keep L A B) (k : Keep L B C) : Keep L A C := fun b hb => (k b hb).trans (h b hb)
theorem Keep.putObj {L : List Nat} {n : Nat} (hL : ∀ b ∈ L, b < n) (W : World) (l : Nat) (o o' : Obj) (hl : n ≤ l) (_ : W.heap[l]? = some o) (_ : o.isCells = false) : Keep L W (W.putObj l o') :=
  fun b hb => World.putObj_heap_other (by have := hL b hb; omega)
theorem Keep.frm {L S : List Nat} {X Y : World} (h : Frm S X Y) (hL : ∀ b ∈ L, b < X.heap.size ∧ b ∉ S) : Keep L X Y := fun b hb => h.same b (hL b hb).1 (hL b hb).2
theorem Keep.heap {L : List Nat} {X Y : World} (h : Keep L X Y) {b : Nat} (hb : b ∈ L) {o : Obj} (ho : X.heap[b]? = some o) : Y.heap[b]? = some o := (h b hb).trans ho
/-- What a loop's body keeps: the cells of the blocks of a list, and all cells from base on. -/
def KeepC (N : Nat) (S : List Nat) (X Y : World) : Prop := ∀ q c t fz, (q ∈ S ∨ N ≤ q) → X.heap[q]? = some (.cells c t fz) → Y.heap[q]? = some (.cells c t fz)
theorem KeepC.refl (N : Nat) (S : List Nat) (X : World) : KeepC N S X X := fun _ _ _ _ _ h => h
theorem KeepC.trans {N : Nat} {S : List Nat} {A B C : World} (h : KeepC N S A B) (k : KeepC N S B C) : KeepC N S A C := fun q c t fz hq h1 => k q c t fz hq (h q c t fz hq h1)
theorem KeepC.putObj {N n : Nat} {S : List Nat} (W : World) (l : Nat) (o o' : Obj) (_ : n ≤ l) (ho : W.heap[l]? = some o) (hc : o.isCells = false) : KeepC N S W (W.putObj l o') := fun q c t fz _ h =>
  (World.putObj_heap_other (fun e => by
    subst e
    rw [h] at ho
    cases ho
    cases hc)).trans h
theorem KeepC.frm {N : Nat} {S S' : List Nat} {X Y : World} (h : Frm S' X Y) (hS : ∀ q ∈ S', q ∉ S ∧ q < N) : KeepC N S X Y := fun q c t fz hq h1 => h.heap h1 (fun hm => by
  have := hS q hm
  rcases hq with h2 | h2
  · exact this.1 h2
  · omega)
theorem KeepsFrom.frm {S : List Nat} {base : Nat} {X Y : World} (h : Frm S X Y) (hS : ∀ b ∈ S, b < base ∨ (∃ c t fz, X.heap[b]? = some (.cells c t fz))) : KeepsFrom base X Y :=
  ⟨h.size, fun k o hk ho hc => h.heap ho (fun hm => by
    rcases hS k hm with h1 | ⟨c, t, fz, h1⟩
    · omega
    · rw [h1] at ho; cases ho; cases hc)⟩
theorem IterOver.later {P : Program} {g : Nat} {lb : Array Value} {xs : List (Array Value)} {Kp : World → World → Prop} {w w2 : World} (h : IterOver P g lb xs Kp w) (hE : Ext w.heap.size w w2) : IterOver P g lb xs Kp w2 :=
  fun l J Jx W hW hJ hJx hY h0 => h l J Jx W (hE.trans (hW.mono hE.size)) hJ hJx hY h0
theorem Ext.ofFrm {a b : World} (h : Frm [] a b) : Ext a.heap.size a b := ⟨h.os, h.tape, h.output, h.size, fun k o hk _ => h.heap hk (by simp)⟩

end Go.Proofs.YtnajkjgjeiodmaaGreatDoor
