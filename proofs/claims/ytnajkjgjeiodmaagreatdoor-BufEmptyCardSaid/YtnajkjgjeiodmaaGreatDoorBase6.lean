/-
  GENERAL LEMMAS, MORE: a region that draws its order, with a joint condition on the memory that depends on which operations have run. Conditions: none of a program.
-/
import Derived.Test.YtnajkjgjeiodmaaGreatDoorBase5
namespace Go.Proofs.YtnajkjgjeiodmaaGreatDoor
open Go.RowKit
open Region

section
variable {F : Fence} {m : Nat} {P : Program}

/-- The set of what has run, with one more. -/
def more (L : Nat → Bool) (i : Nat) : Nat → Bool := fun j => if j = i then true else L j
theorem more_same (L : Nat → Bool) (i : Nat) : more L i i = true := by simp [more]
theorem more_other (L : Nat → Bool) {i j : Nat} (h : j ≠ i) : more L i j = L j := by simp [more, h]
theorem listed_more {listed : Array Bool} {i : Nat} (hi : i < listed.size) : (fun j => (listed.setIfInBounds i true).getD j false) = more (fun j => listed.getD j false) i := by
  funext j
  by_cases h : j = i
  · subst h
    simp [more, hi]
  · rw [more_other _ h, getD_set_ne false (fun e => h e.symm)]

theorem wpIn_region_joint (hW : Wide F) {id size : Nat} {Q : Exit → Act → World → Prop} {a0 : Act} {w : World} {l : List Oper} (n : Nat) (R : Nat → Value → World → Prop) (G : World → World → Prop) (Gs : Nat → World → World → Prop) (J : (Nat → Bool) → World → Prop) (hm : P.follows .mixedOrders = true)
    (hs : Region.sinkB .any l.toArray n = true) (hc : Region.chainB .any l.toArray n = true) (hn : n < l.toArray.size) (hq : Region.seqB .any l.toArray (l.toArray.size - n) n (heads l.toArray.size n) = true) (hd : depsB .any l.toArray n = true) (hp : guardsB l.toArray n = true)
    (hds : dstsB l.toArray n size = true) (hsz : a0.tmps.size = size) (hGt : ∀ {A B C : World}, G A B → G B C → G A C) (hG0 : G w.drew w.drew) (hGs : ∀ j A B, j < n → Gs j A B → G A B) (hR : ∀ i j v A B, i < n → j < n → i ≠ j → R i v A → Gs j A B → R i v B) (hJ0 : J (fun _ => false) w.drew)
    (hgd : ∀ i o g b, i < n → l[i]? = some o → o.guard = some (g, b) → ∀ v A, R g v A → v = .bool b)
    (hrun : ∀ i, i < n → ∀ o, l[i]? = some o → ∀ a w' L, G w.drew w' → ToldR l.toArray n R a0 o a w' → L i = false → J L w' → (∃ v w'', (execOp a.eval o).run P w' = .ok (.value v) w'' ∧ R i v w'' ∧ Gs i w' w'' ∧ J (more L i) w'') ∨
      ∃ f args, (execOp a.eval o).run P w' = .ok (.enter f args) w' ∧ Calls P f args w' fun e w'' => ∃ v, e = .returned v ∧ R i v w'' ∧ Gs i w' w'' ∧ J (more L i) w'')
    (htail : ∀ a w' L, a.defers = a0.defers → a.tmps.size = size → G w.drew w' → (∀ i, i < n → L i = true) → J L w' → (∀ i o d, i < n → l[i]? = some o → o.dst = some d → ∃ v, a.tmps[d]? = some v ∧ R i v w') → (∀ d, (∀ j q, j < n → l[j]? = some q → q.dst ≠ some d) → a.tmps[d]? = a0.tmps[d]?) → wpListIn F m P l.toArray Q (l.drop n) a w') : (Code.region id l.toArray true).wpIn F m P Q a0 w := by
  have hnl : n < l.length := by simpa using hn
  have inv0 : HeadInv .any l.toArray n (Array.replicate l.toArray.size false) :=
    ⟨by simp, fun j oj _ hl => (by rw [getD_replicate_false] at hl; cases hl), fun t _ ht => getD_in (by simpa using ht) (getD_replicate_false _ _)⟩
  have hl0 : left n (Array.replicate l.toArray.size false) = n := by
    unfold left
    have : (List.range n).filter (fun i => !(Array.replicate l.toArray.size false).getD i true) = List.range n := by
      apply List.filter_eq_self.2
      intro i hi
      have := List.mem_range.1 hi
      rw [getD_in (by simp; omega) (getD_replicate_false _ _)]
      rfl
    rw [this, List.length_range]
  refine wpIn_region_any hm ?_
  have H := wpAnyIn_of_inv (F := F) (m := m) (P := P) (ops := l.toArray) (md := .any) (n := n) (g := l.toArray.size - n) (Q' := Q) (fun listed a w' => Held l.toArray n size (fun i v w => i < n ∧ R i v w) G a0 w.drew listed a w' ∧ J (fun j => listed.getD j false) w') hs hc hn hd ?_ ?_ n (Array.replicate l.toArray.size false) a0 w.drew hl0 inv0
    ⟨⟨rfl, hsz, hG0, fun i o d _ _ hl => (by rw [getD_replicate_false] at hl; cases hl), fun _ _ => rfl⟩, (by
      have e : (fun j => (Array.replicate l.toArray.size false).getD j false) = fun _ => false := funext fun j => getD_replicate_false _ _
      rw [e]
      exact hJ0)⟩
  · rw [show n + (l.toArray.size - n) = l.toArray.size by omega] at H
    exact H
  · intro i hi listed a w' inv hSJ hr
    obtain ⟨hS, hJ⟩ := hSJ
    obtain ⟨hu, o, ho, hall⟩ := mem_ready.1 hr
    have hlis : i < listed.size := by rw [inv.size]; omega
    have hui : listed.getD i false = false := getD_both hu
    have ho' : l[i]? = some o := by simpa using ho
    have hon : ∀ e ∈ o.after, Region.binds .any e = true → e.on < n := fun e he hb => by
      have hdi := List.all_eq_true.1 hd i (List.mem_range.2 hi)
      simp only [ho, Option.map_some, Option.getD_some] at hdi
      have := Array.all_eq_true_iff_forall_mem.1 hdi e he
      simp only [hb, Bool.not_true, Bool.false_or, decide_eq_true_eq] at this
      omega
    have htold : ToldR l.toArray n R a0 o a w' := ⟨fun e he hb q d hq' hqd => (by
      obtain ⟨v, hv1, hv2⟩ := hS.2.2.2.1 e.on q d (hon e he hb) hq' (hall e he hb) hqd
      exact ⟨v, hv1, hv2.2⟩), hS.2.2.2.2⟩
    have hpi := List.all_eq_true.1 hp i (List.mem_range.2 hi)
    simp only [ho, Option.map_some, Option.getD_some, Bool.and_eq_true] at hpi
    obtain ⟨hg, hdf⟩ := hpi
    have hnd : ∀ c, o.op ≠ .defer c := fun c hc' => by rw [hc'] at hdf; cases hdf
    have hwant : Region.wanted o (yielded l.toArray a.tmps) = true := by
      cases hgo : o.guard with
      | none => simp [Region.wanted, hgo]
      | some x =>
        obtain ⟨g, b⟩ := x
        rw [hgo] at hg
        simp only [Bool.and_eq_true, decide_eq_true_eq] at hg
        obtain ⟨hgn, hgw⟩ := hg
        have hdg := List.all_eq_true.1 hds g (List.mem_range.2 hgn)
        cases hog : l.toArray[g]? with
        | none =>
          have := Array.getElem?_eq_none_iff.1 hog
          omega
        | some q =>
          simp only [hog, Option.map_some, Option.getD_some] at hdg
          cases hqd : q.dst with
          | none => rw [hqd] at hdg; cases hdg
          | some t =>
            obtain ⟨v, hv1, hv2⟩ := htold.dep g t hgw (by rw [hog]; exact hqd)
            have := hgd i o g b hi ho' hgo v w' hv2
            subst this
            simp [Region.wanted, hgo, yielded, hog, hqd, hv1]
    have hstep : ∀ v X, R i v X → Gs i w' X → J (more (fun j => listed.getD j false) i) X → Held l.toArray n size (fun i v w => i < n ∧ R i v w) G a0 w.drew (listed.setIfInBounds i true) (a.put o.dst v) X ∧ J (fun j => (listed.setIfInBounds i true).getD j false) X := fun v X h1 h2 h3 =>
      ⟨hS.step hGt (fun j u hji _ h => ⟨h.1, hR j i u _ _ h.1 hi hji h.2 h2⟩) hds hi ho (hGs i _ _ hi h2) ⟨hi, h1⟩, by rw [listed_more hlis]; exact h3⟩
    unfold wpOpIn
    simp only [ho, hwant, if_true]
    unfold Oper.wpIn
    refine ⟨fun f _ => hW.fn f, ?_⟩
    rw [Oper.semAt_plain F _ _ hnd]
    rcases hrun i hi o ho' a w' _ hS.2.2.1 htold hui hJ with ⟨v, w1, hrn, hv, hgg, hjj⟩ | ⟨f, args, hrn, hC⟩
    · rw [hrn]
      exact hstep v w1 hv hgg hjj
    · rw [hrn]
      refine ⟨fun hx => (by rw [hW.depth] at hx; cases hx), (hW.calls hC).mono fun e w'' ⟨v, he, hv, hgg, hjj⟩ => ?_⟩
      subst he
      exact hstep v w'' hv hgg hjj
  · intro listed a w' hz inv hSJ
    obtain ⟨hS, hJ⟩ := hSJ
    have hall := left_zero hz
    have hallf : ∀ i, i < n → listed.getD i false = true := fun i hi => by
      have h1 := hall i hi
      have hlt : i < listed.size := by rw [inv.size]; omega
      simp [hlt] at h1 ⊢
      exact h1
    have hle : listed = heads l.toArray.size n := by
      apply Array.ext
      · rw [inv.size]; simp [heads]
      · intro i h1 h2
        have hi : i < l.toArray.size := by rw [← inv.size]; exact h1
        by_cases hin : i < n
        · have := hallf i hin
          simp [h1] at this
          simp [heads, this, hin]
        · have := getD_both (inv.tail i (by omega) hi)
          simp [h1] at this
          simp [heads, this, hin]
    have hlen : (l.drop n).length = l.toArray.size - n := by simp
    have := wpAnyIn_of_seq (F := F) (m := m) (P := P) (md := .any) (Q' := Q) (l.drop n) n listed a w' (fun j => by simp [List.getElem?_drop]) (by rw [hlen, hle]; exact hq)
      (htail a w' _ hS.1 hS.2.1 hS.2.2.1 hallf hJ (fun i o d hi ho hod => by
        obtain ⟨v, hv1, hv2⟩ := hS.2.2.2.1 i o d hi (by simpa using ho) (hallf i hi) hod
        exact ⟨v, hv1, hv2.2⟩) fun d hd => hS.2.2.2.2 d fun j q hj hq => hd j q hj (by simpa using hq))
    rwa [hlen] at this
end

/-- A frame whose slots are known one by one. -/
theorem tmps_of {a : Array Value} : ∀ (D : List (Nat × Value)) (T : Array Value), a.size = T.size → (∀ p ∈ D, a[p.1]? = some p.2) → (∀ d, d ∉ D.map (·.1) → a[d]? = T[d]?) → a = D.foldl (fun t p => t.setIfInBounds p.1 p.2) T
  | [], T, _, _, h => Array.ext_getElem? fun d => h d (by simp)
  | p :: D, T, hs, hD, h => by
    refine tmps_of D (T.setIfInBounds p.1 p.2) (by simpa using hs) (fun q hq => hD q (List.mem_cons_of_mem _ hq)) (fun d hd => ?_)
    have hp := hD p (by simp)
    by_cases e : p.1 = d
    · subst e
      have hlt : p.1 < T.size := by
        rw [← hs]
        exact (Array.getElem?_eq_some_iff.1 hp).1
      rw [hp]
      simp [hlt]
    · rw [Array.getElem?_setIfInBounds_ne e]
      exact h d (fun hm => by
        rw [List.map_cons] at hm
        rcases List.mem_cons.1 hm with rfl | hm
        · exact e rfl
        · exact hd hm)
end Go.Proofs.YtnajkjgjeiodmaaGreatDoor
