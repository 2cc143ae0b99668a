/-
  GENERAL LEMMAS, MORE: a region that draws its order, of whose operations one changes the world, while all others ahead of the last ones read the same before and behind it. Conditions: none of a program.
-/
import Derived.Test.YtnajkjgjeiodmaaGreatDoorBase2
namespace Go.Proofs.YtnajkjgjeiodmaaGreatDoor
open Go.RowKit
open Region

/-- Each operation waits only for earlier ones. -/
def depsB (md : Region.Mode) (ops : Array Oper) (n : Nat) : Bool := (List.range n).all fun i => ((ops[i]?).map fun o => o.after.all fun e => !Region.binds md e || decide (e.on < i)).getD true
/-- No two operations write the same slot; each slot lies in the frame. -/
def dstsB (ops : Array Oper) (n size : Nat) : Bool := (List.range n).all fun i => ((ops[i]?).map fun o => match o.dst with
  | none => false
  | some d => decide (d < size) && (List.range n).all fun j => decide (i = j) || ((ops[j]?).map fun q => decide (q.dst ≠ some d)).getD true).getD true

section
variable {F : Fence} {m : Nat} {P : Program} {ops : Array Oper} {md : Region.Mode}

theorem ready_of_unlisted {n : Nat} {listed : Array Bool} (hn : n ≤ ops.size) (hd : depsB md ops n = true) (hs : listed.size = ops.size) :
    ∀ i, i < n → listed.getD i true = false → ∃ j, j ≤ i ∧ j ∈ Region.ready md ops listed := by
  intro i
  induction i using Nat.strongRecOn with
  | _ i ih =>
    intro hi hu
    have hlt : i < ops.size := by omega
    obtain ⟨o, ho⟩ : ∃ o, ops[i]? = some o := ⟨_, Array.getElem?_eq_getElem hlt⟩
    by_cases hall : ∀ e ∈ o.after, Region.binds md e = true → listed.getD e.on false = true
    · exact ⟨i, Nat.le_refl _, mem_ready.2 ⟨hu, o, ho, hall⟩⟩
    · have hdi := List.all_eq_true.1 hd i (List.mem_range.2 hi)
      simp only [ho, Option.map_some, Option.getD_some] at hdi
      simp only [Classical.not_forall] at hall
      obtain ⟨e, he, hb, hne⟩ := hall
      have hon := Array.all_eq_true_iff_forall_mem.1 hdi e he
      simp only [hb, Bool.not_true, Bool.false_or, decide_eq_true_eq] at hon
      have hf : listed.getD e.on false = false := by cases h : listed.getD e.on false <;> simp_all
      obtain ⟨j, hj, hr⟩ := ih e.on hon (by omega) (getD_in (by omega) hf)
      exact ⟨j, by omega, hr⟩

/-- How many operations ahead of the n-th are not listed yet. -/
def left (n : Nat) (listed : Array Bool) : Nat := ((List.range n).filter fun i => !listed.getD i true).length
theorem left_set {n i : Nat} {listed : Array Bool} (hi : i < n) (hlt : i < listed.size) (hu : listed.getD i true = false) : left n (listed.setIfInBounds i true) + 1 = left n listed := by
  unfold left
  induction n with
  | zero => omega
  | succ n ih =>
    rw [List.range_succ, List.filter_append, List.filter_append, List.length_append, List.length_append]
    by_cases hin : i = n
    · subst hin
      have h1 : (List.range i).filter (fun j => !(listed.setIfInBounds i true).getD j true) = (List.range i).filter (fun j => !listed.getD j true) := by
        apply List.filter_congr
        intro j hj
        rw [getD_set_ne true (by have := List.mem_range.1 hj; omega)]
      rw [h1]
      have h2 : (listed.setIfInBounds i true).getD i true = true := by simp [hlt]
      simp only [List.filter_cons, List.filter_nil, h2, hu]
      rfl
    · have := ih (by omega)
      have h2 : (listed.setIfInBounds i true).getD n true = listed.getD n true := getD_set_ne true hin
      simp only [List.filter_cons, List.filter_nil, h2]
      omega
theorem left_zero {n : Nat} {listed : Array Bool} (h : left n listed = 0) : ∀ i, i < n → listed.getD i true = true := fun i hi => by
  have h1 : (List.range n).filter (fun i => !listed.getD i true) = [] := List.eq_nil_of_length_eq_zero h
  have := List.filter_eq_nil_iff.1 h1 i (List.mem_range.2 hi)
  simpa using this
theorem left_pos {n : Nat} {listed : Array Bool} {k : Nat} (h : left n listed = k + 1) : ∃ i, i < n ∧ listed.getD i true = false := by
  have h1 : 0 < ((List.range n).filter fun i => !listed.getD i true).length := by unfold left at h; omega
  obtain ⟨i, hi⟩ := List.exists_mem_of_length_pos h1
  have := List.mem_filter.1 hi
  exact ⟨i, List.mem_range.1 this.1, by simpa using this.2⟩

/-- THE LAW, over an invariant of what is listed, the frame and the world. -/
theorem wpAnyIn_of_inv {n g : Nat} {Q' : Exit → Act → World → Prop} (S : Array Bool → Act → World → Prop) (hs : Region.sinkB md ops n = true) (hc : Region.chainB md ops n = true) (hn : n < ops.size) (hd : depsB md ops n = true)
    (hstep : ∀ i, i < n → ∀ listed a w, HeadInv md ops n listed → S listed a w → i ∈ Region.ready md ops listed → wpOpIn F m P ops Q' i (fun a' w' => S (listed.setIfInBounds i true) a' w') a w)
    (hend : ∀ listed a w, left n listed = 0 → HeadInv md ops n listed → S listed a w → wpAnyIn F m P md ops Q' g listed a w) :
    ∀ (f : Nat) (listed : Array Bool) (a : Act) (w : World), left n listed = f → HeadInv md ops n listed → S listed a w → wpAnyIn F m P md ops Q' (f + g) listed a w
  | 0, listed, a, w, h0, inv, h => by rw [Nat.zero_add]; exact hend _ _ _ h0 inv h
  | f + 1, listed, a, w, h0, inv, h => by
    rw [show f + 1 + g = (f + g) + 1 by omega]
    obtain ⟨i0, hi0, hu0⟩ := left_pos h0
    obtain ⟨j0, _, hj0⟩ := ready_of_unlisted (md := md) (Nat.le_of_lt hn) hd inv.size i0 hi0 hu0
    refine ⟨fun he => (by rw [he] at hj0; cases hj0), fun i hi => ?_⟩
    have hin : i < n := by
      rcases Nat.lt_or_ge i n with h' | h'
      · exact h'
      · exact absurd hi (tail_waits hs hc hn inv _ i0 rfl hi0 hu0 i h')
    obtain ⟨hui, _, _, _⟩ := mem_ready.1 hi
    refine wpOpIn_mono (fun a' w' h' => wpAnyIn_of_inv S hs hc hn hd hstep hend f _ a' w' ?_ (inv.set hi hin) h') (hstep i hin listed a w inv h hi)
    have := left_set (n := n) hin (by rw [inv.size]; omega) hui
    omega

/-- The frame holds the values of what is listed, and else what it held. -/
def Agrees (ops : Array Oper) (n : Nat) (vs : Nat → Value) (a0 : Act) (listed : Array Bool) (a : Act) : Prop :=
  a.defers = a0.defers ∧ a.tmps.size = a0.tmps.size ∧ (∀ i o d, i < n → ops[i]? = some o → listed.getD i false = true → o.dst = some d → a.tmps[d]? = some (vs i)) ∧
    ∀ d, (∀ i o, i < n → ops[i]? = some o → listed.getD i false = true → o.dst ≠ some d) → a.tmps[d]? = a0.tmps[d]?
theorem Agrees.start {n : Nat} {vs : Nat → Value} {a0 : Act} {k : Nat} : Agrees ops n vs a0 (Array.replicate k false) a0 :=
  ⟨rfl, rfl, fun i o d _ _ hl => (by rw [getD_replicate_false] at hl; cases hl), fun _ _ => rfl⟩
theorem Agrees.step {n size i : Nat} {vs : Nat → Value} {a0 a : Act} {listed : Array Bool} {o : Oper} (h : Agrees ops n vs a0 listed a) (hd : dstsB ops n size = true) (hsz : a0.tmps.size = size) (hi : i < n) (ho : ops[i]? = some o) (hl : i < listed.size) :
    Agrees ops n vs a0 (listed.setIfInBounds i true) (a.put o.dst (vs i)) := by
  obtain ⟨h1, h2, h3, h4⟩ := h
  have hdi := List.all_eq_true.1 hd i (List.mem_range.2 hi)
  simp only [ho, Option.map_some, Option.getD_some] at hdi
  cases hdst : o.dst with
  | none => rw [hdst] at hdi; cases hdi
  | some d0 =>
    rw [hdst] at hdi
    simp only [Bool.and_eq_true, decide_eq_true_eq] at hdi
    obtain ⟨hlt, hun⟩ := hdi
    have hne : ∀ j q, j < n → ops[j]? = some q → i ≠ j → q.dst ≠ some d0 := fun j q hj hq hij => by
      have := List.all_eq_true.1 hun j (List.mem_range.2 hj)
      simp only [hq, Option.map_some, Option.getD_some, Bool.or_eq_true, decide_eq_true_eq] at this
      rcases this with h | h
      · exact absurd h hij
      · exact h
    refine ⟨h1, by simp [Act.put, h2], fun j q d hj hq hlj hqd => ?_, fun d hno => ?_⟩
    · by_cases hij : i = j
      · subst hij
        obtain rfl : o = q := Option.some.inj (ho.symm.trans hq)
        obtain rfl : d0 = d := Option.some.inj (hdst.symm.trans hqd)
        simp [Act.put, h2, hsz, hlt]
      · rw [getD_set_ne false hij] at hlj
        have hdd : d0 ≠ d := fun e => hne j q hj hq hij (by rw [hqd, e])
        simp only [Act.put, Array.getElem?_setIfInBounds_ne hdd]
        exact h3 j q d hj hq hlj hqd
    · have hdd : d0 ≠ d := fun e => hno i o hi ho (by simp [hl]) (by rw [hdst, e])
      simp only [Act.put, Array.getElem?_setIfInBounds_ne hdd]
      refine h4 d fun j q hj hq hlj => hno j q hj hq ?_
      exact getD_set_true hlj
theorem Agrees.unique {n : Nat} {vs : Nat → Value} {a0 a b : Act} {listed : Array Bool} (h : Agrees ops n vs a0 listed a) (k : Agrees ops n vs a0 listed b) : a = b := by
  obtain ⟨h1, h2, h3, h4⟩ := h
  obtain ⟨k1, k2, k3, k4⟩ := k
  obtain ⟨ta, da⟩ := a
  obtain ⟨tb, db⟩ := b
  have ht : ta = tb := by
    apply Array.ext_getElem?
    intro d
    by_cases hx : ∃ i o, i < n ∧ ops[i]? = some o ∧ listed.getD i false = true ∧ o.dst = some d
    · obtain ⟨i, o, hi, ho, hl, hd⟩ := hx
      exact (h3 i o d hi ho hl hd).trans (k3 i o d hi ho hl hd).symm
    · have hno : ∀ i o, i < n → ops[i]? = some o → listed.getD i false = true → o.dst ≠ some d := fun i o hi ho hl hd => hx ⟨i, o, hi, ho, hl, hd⟩
      exact (h4 d hno).trans (k4 d hno).symm
  have hde : da = db := h1.trans k1.symm
  rw [ht, hde]
theorem Agrees.congr {n : Nat} {vs : Nat → Value} {a0 a : Act} {listed listed' : Array Bool} (h : Agrees ops n vs a0 listed a) (he : ∀ i, i < n → listed.getD i false = listed'.getD i false) : Agrees ops n vs a0 listed' a :=
  ⟨h.1, h.2.1, fun i o d hi ho hl => h.2.2.1 i o d hi ho (by rw [he i hi]; exact hl), fun d hno => h.2.2.2 d fun i o hi ho hl => hno i o hi ho (by rw [← he i hi]; exact hl)⟩

/-- The values of a stretch of operations, put in the text's order. -/
def putAll (vs : Nat → Value) : List Oper → Nat → Act → Act
  | [], _, a => a
  | o :: r, k, a => putAll vs r (k + 1) (a.put o.dst (vs k))
theorem Agrees.putAll {n size : Nat} {vs : Nat → Value} {a0 : Act} (hd : dstsB ops n size = true) (hsz : a0.tmps.size = size) :
    ∀ (r : List Oper) (k : Nat) (listed : Array Bool) (a : Act), (∀ j, j < r.length → r[j]? = ops[k + j]?) → k + r.length = n → n ≤ listed.size → (∀ i, i < k → listed.getD i false = true) → Agrees ops n vs a0 listed a →
      ∃ listed', (∀ i, i < n → listed'.getD i false = true) ∧ Agrees ops n vs a0 listed' (putAll vs r k a)
  | [], k, listed, a, _, hk, _, hl, h => ⟨listed, fun i hi => hl i (by simp at hk; omega), h⟩
  | o :: r, k, listed, a, hr, hk, hn, hl, h => by
    have h0 : ops[k]? = some o := by simpa using (hr 0 (by simp)).symm
    have hkn : k < n := by simp at hk; omega
    have h' := h.step hd hsz hkn h0 (by omega)
    exact Agrees.putAll hd hsz r (k + 1) _ _ (fun j hj => by have := hr (j + 1) (by simpa using hj); simpa [Nat.add_assoc, Nat.add_comm 1 j] using this) (by simp at hk; omega) (by simpa using hn) (fun i hi => by
      by_cases hik : k = i
      · subst hik
        simp
        omega
      · rw [getD_set_ne false hik]
        exact hl i (by omega)) h'

/-- No operation of the head is guarded, defers or selects. -/
def plainB (ops : Array Oper) (n : Nat) : Bool := (List.range n).all fun i => ((ops[i]?).map fun o => (match o.guard with | none => true | some _ => false) && (match o.op with | .defer _ => false | _ => true)).getD true
def heads (size n : Nat) : Array Bool := ((List.range size).map fun i => decide (i < n)).toArray

/-- What an operation is told of the frame: what it waits for is there; what nobody writes is as it was. -/
def Told (ops : Array Oper) (n : Nat) (vs : Nat → Value) (a0 : Act) (o : Oper) (a : Act) : Prop :=
  (∀ e ∈ o.after, Region.binds .any e = true → ∀ q d, ops[e.on]? = some q → q.dst = some d → a.tmps[d]? = some (vs e.on)) ∧
    ∀ d, (∀ j q, j < n → ops[j]? = some q → q.dst ≠ some d) → a.tmps[d]? = a0.tmps[d]?

theorem wpIn_region_vals (hW : Wide F) {id size mk : Nat} {Q : Exit → Act → World → Prop} {a0 : Act} {w : World} {l : List Oper} (n : Nat) (vs : Nat → Value) (C : World → Prop) (hm : P.follows .mixedOrders = true)
    (hs : Region.sinkB .any l.toArray n = true) (hc : Region.chainB .any l.toArray n = true) (hn : n < l.toArray.size) (hq : Region.seqB .any l.toArray (l.toArray.size - n) n (heads l.toArray.size n) = true) (hd : depsB .any l.toArray n = true) (hp : plainB l.toArray n = true)
    (hds : dstsB l.toArray n size = true) (hsz : a0.tmps.size = size) (hmk : mk < n)
    (hrun : ∀ i, i < n → i ≠ mk → ∀ o, l[i]? = some o → ∀ a w', Told l.toArray n vs a0 o a → (w' = w.drew ∨ C w') → (execOp a.eval o).run P w' = .ok (.value (vs i)) w')
    (hrunk : ∀ o, l[mk]? = some o → ∀ a, Told l.toArray n vs a0 o a → (∃ w1, (execOp a.eval o).run P w.drew = .ok (.value (vs mk)) w1 ∧ C w1) ∨
      ∃ f args, (execOp a.eval o).run P w.drew = .ok (.enter f args) w.drew ∧ Calls P f args w.drew fun e w'' => e = .returned (vs mk) ∧ C w'')
    (htail : ∀ w', C w' → wpListIn F m P l.toArray Q (l.drop n) (putAll vs (l.take n) 0 a0) w') : (Code.region id l.toArray true).wpIn F m P Q a0 w := by
  have hnl : n < l.length := by simpa using hn
  have inv0 : HeadInv .any l.toArray n (Array.replicate l.toArray.size false) :=
    ⟨by simp, fun j oj _ hl => (by rw [getD_replicate_false] at hl; cases hl), fun t _ ht => getD_in (by simpa using ht) (getD_replicate_false _ _)⟩
  let S : Array Bool → Act → World → Prop := fun listed a w' => Agrees l.toArray n vs a0 listed a ∧ (listed.getD mk false = false → w' = w.drew) ∧ (listed.getD mk false = true → C w')
  have hl0 : left n (Array.replicate l.toArray.size false) = n := by
    unfold left
    have : (List.range n).filter (fun i => !(Array.replicate l.toArray.size false).getD i true) = List.range n := by
      apply List.filter_eq_self.2
      intro i hi
      have := List.mem_range.1 hi
      rw [getD_in (by simp; omega) (getD_replicate_false _ _)]
      rfl
    rw [this, List.length_range]
  refine wpIn_region_any hm ?_
  have H := wpAnyIn_of_inv (F := F) (m := m) (P := P) (ops := l.toArray) (md := .any) (n := n) (g := l.toArray.size - n) (Q' := Q) S hs hc hn hd ?_ ?_ n (Array.replicate l.toArray.size false) a0 w.drew hl0 inv0 ⟨Agrees.start, fun _ => rfl, fun hl => (by rw [getD_replicate_false] at hl; cases hl)⟩
  · rw [show n + (l.toArray.size - n) = l.toArray.size by omega] at H
    exact H
  · intro i hi listed a w' inv hS hr
    obtain ⟨hA, hw0, hw1⟩ := hS
    obtain ⟨hu, o, ho, hall⟩ := mem_ready.1 hr
    have ho' : l[i]? = some o := by simpa using ho
    have hli : i < listed.size := by rw [inv.size]; omega
    have htold : Told l.toArray n vs a0 o a := ⟨fun e he hb q d hq' hqd => by
      have hon : e.on < n := by
        have hdi := List.all_eq_true.1 hd i (List.mem_range.2 hi)
        simp only [ho, Option.map_some, Option.getD_some] at hdi
        have := Array.all_eq_true_iff_forall_mem.1 hdi e he
        simp only [hb, Bool.not_true, Bool.false_or, decide_eq_true_eq] at this
        omega
      exact hA.2.2.1 e.on q d hon hq' (hall e he hb) hqd, fun d hno => hA.2.2.2 d fun j q hj hq' _ => hno j q hj hq'⟩
    have hpi := List.all_eq_true.1 hp i (List.mem_range.2 hi)
    simp only [ho, Option.map_some, Option.getD_some, Bool.and_eq_true] at hpi
    obtain ⟨hg, hdf⟩ := hpi
    have hnd : ∀ c, o.op ≠ .defer c := fun c hc' => by rw [hc'] at hdf; cases hdf
    have hwant : Region.wanted o (yielded l.toArray a.tmps) = true := by
      cases hgo : o.guard with
      | none => simp [Region.wanted, hgo]
      | some x => rw [hgo] at hg; cases hg
    have hstepA := hA.step hds hsz hi ho hli
    unfold wpOpIn
    simp only [ho, hwant, if_true]
    unfold Oper.wpIn
    refine ⟨fun f _ => hW.fn f, ?_⟩
    rw [Oper.semAt_plain F _ _ hnd]
    by_cases hik : i = mk
    · subst hik
      have hwe := hw0 (getD_both hu)
      subst hwe
      have hset : (listed.setIfInBounds i true).getD i false = true := by simp [hli]
      rcases hrunk o ho' a htold with ⟨w1, hrn, hC⟩ | ⟨f, args, hrn, hC⟩
      · rw [hrn]
        exact ⟨hstepA, fun h => (by rw [hset] at h; cases h), fun _ => hC⟩
      · rw [hrn]
        refine ⟨fun hx => (by rw [hW.depth] at hx; cases hx), (hW.calls hC).mono fun e w'' ⟨he, hw⟩ => ?_⟩
        subst he
        exact ⟨hstepA, fun h => (by rw [hset] at h; cases h), fun _ => hw⟩
    · have hset : (listed.setIfInBounds i true).getD mk false = listed.getD mk false := getD_set_ne false hik
      have hww : w' = w.drew ∨ C w' := by
        cases h : listed.getD mk false
        · exact .inl (hw0 h)
        · exact .inr (hw1 h)
      rw [hrun i hi hik o ho' a w' htold hww]
      exact ⟨hstepA, fun h => hw0 (by rw [← hset]; exact h), fun h => hw1 (by rw [← hset]; exact h)⟩
  · intro listed a w' hz inv hS
    obtain ⟨hA, hw0, hw1⟩ := hS
    have hall := left_zero hz
    have hallf : ∀ i, i < n → listed.getD i false = true := fun i hi => by
      have h1 := hall i hi
      have hlt : i < listed.size := by rw [inv.size]; omega
      simp [hlt] at h1 ⊢
      exact h1
    have hle : listed = heads l.toArray.size n := by
      apply Array.ext
      · rw [inv.size]; simp [heads]
      · intro i h1 h2
        have hi : i < l.toArray.size := by rw [← inv.size]; exact h1
        by_cases hin : i < n
        · have := hallf i hin
          simp [h1] at this
          simp [heads, this, hin]
        · have := getD_both (inv.tail i (by omega) hi)
          simp [h1] at this
          simp [heads, this, hin]
    obtain ⟨listed2, h2, hA2⟩ := Agrees.putAll hds hsz (l.take n) 0 (Array.replicate l.toArray.size false) a0 (fun j hj => by
      have hj' : j < n := by simp at hj; omega
      simp [hj']) (by simp; omega) (by simp; omega) (fun i hi => by omega) Agrees.start
    have hae : a = putAll vs (l.take n) 0 a0 := hA.unique (hA2.congr fun i hi => by rw [h2 i hi, hallf i hi])
    subst hae
    have hlen : (l.drop n).length = l.toArray.size - n := by simp
    have := wpAnyIn_of_seq (F := F) (m := m) (P := P) (md := .any) (Q' := Q) (l.drop n) n listed _ w' (fun j => by simp [List.getElem?_drop]) (by rw [hlen, hle]; exact hq) (htail w' (hw1 (hallf mk hmk)))
    rwa [hlen] at this
theorem Told.dep {ops : Array Oper} {n : Nat} {vs : Nat → Value} {a0 a : Act} {o : Oper} (h : Told ops n vs a0 o a) (k t : Nat) (hk : (o.after.toList.any fun e => e.on == k && Region.binds .any e) = true) (ht : (ops[k]?).bind (·.dst) = some t) : a.tmps[t]? = some (vs k) := by
  obtain ⟨e, he, hb⟩ := List.any_eq_true.1 hk
  simp only [Bool.and_eq_true, beq_iff_eq] at hb
  obtain ⟨rfl, hb⟩ := hb
  cases ho : ops[e.on]? with
  | none => rw [ho] at ht; cases ht
  | some q => rw [ho] at ht; exact h.1 e (by simpa using he) hb q t ho (by simpa using ht)
def freeB (ops : Array Oper) (n t : Nat) : Bool := (List.range n).all fun j => ((ops[j]?).map fun q => decide (q.dst ≠ some t)).getD true
theorem Told.free {ops : Array Oper} {n : Nat} {vs : Nat → Value} {a0 a : Act} {o : Oper} (h : Told ops n vs a0 o a) (t : Nat) (hf : freeB ops n t = true) : a.tmps[t]? = a0.tmps[t]? :=
  h.2 t fun j q hj hq => by
    have := List.all_eq_true.1 hf j (List.mem_range.2 hj)
    simpa [hq] using this
theorem Agrees.recast {n : Nat} {vs vs' : Nat → Value} {a0 a : Act} {listed : Array Bool} (h : Agrees ops n vs a0 listed a) (he : ∀ i, i < n → listed.getD i false = true → vs i = vs' i) : Agrees ops n vs' a0 listed a :=
  ⟨h.1, h.2.1, fun i o d hi ho hl hd => by rw [← he i hi hl]; exact h.2.2.1 i o d hi ho hl hd, h.2.2.2⟩
/-- Operation i waits for operation mk. -/
def waitsB (ops : Array Oper) (mk i : Nat) : Bool := ((ops[i]?).map fun o => o.after.toList.any fun e => e.on == mk && Region.binds .any e).getD false

/-- The same where the value of the one operation that changes the world is not known ahead. -/
theorem wpIn_region_some {β : Type} (b0 : β) (hW : Wide F) {id size mk : Nat} {Q : Exit → Act → World → Prop} {a0 : Act} {w : World} {l : List Oper} (n : Nat) (vs : β → Nat → Value) (C : β → World → Prop) (hm : P.follows .mixedOrders = true)
    (hs : Region.sinkB .any l.toArray n = true) (hc : Region.chainB .any l.toArray n = true) (hn : n < l.toArray.size) (hq : Region.seqB .any l.toArray (l.toArray.size - n) n (heads l.toArray.size n) = true) (hd : depsB .any l.toArray n = true) (hp : plainB l.toArray n = true)
    (hds : dstsB l.toArray n size = true) (hsz : a0.tmps.size = size) (hmk : mk < n)
    (hdep : ∀ i, i < n → i ≠ mk → waitsB l.toArray mk i = true ∨ ∀ b b', vs b i = vs b' i)
    (hrun : ∀ b i, i < n → i ≠ mk → ∀ o, l[i]? = some o → ∀ a w', Told l.toArray n (vs b) a0 o a → (w' = w.drew ∨ C b w') → (execOp a.eval o).run P w' = .ok (.value (vs b i)) w')
    (hrunk : ∀ o, l[mk]? = some o → ∀ a, Told l.toArray n (vs b0) a0 o a → (∃ b w1, (execOp a.eval o).run P w.drew = .ok (.value (vs b mk)) w1 ∧ C b w1) ∨
      ∃ f args, (execOp a.eval o).run P w.drew = .ok (.enter f args) w.drew ∧ Calls P f args w.drew fun e w'' => ∃ b, e = .returned (vs b mk) ∧ C b w'')
    (htail : ∀ b w', C b w' → wpListIn F m P l.toArray Q (l.drop n) (putAll (vs b) (l.take n) 0 a0) w') : (Code.region id l.toArray true).wpIn F m P Q a0 w := by
  have hnl : n < l.length := by simpa using hn
  have inv0 : HeadInv .any l.toArray n (Array.replicate l.toArray.size false) :=
    ⟨by simp, fun j oj _ hl => (by rw [getD_replicate_false] at hl; cases hl), fun t _ ht => getD_in (by simpa using ht) (getD_replicate_false _ _)⟩
  let S : Array Bool → Act → World → Prop := fun listed a w' => ∃ b, Agrees l.toArray n (vs b) a0 listed a ∧ (listed.getD mk false = false → b = b0 ∧ w' = w.drew) ∧ (listed.getD mk false = true → C b w')
  have hl0 : left n (Array.replicate l.toArray.size false) = n := by
    unfold left
    have : (List.range n).filter (fun i => !(Array.replicate l.toArray.size false).getD i true) = List.range n := by
      apply List.filter_eq_self.2
      intro i hi
      have := List.mem_range.1 hi
      rw [getD_in (by simp; omega) (getD_replicate_false _ _)]
      rfl
    rw [this, List.length_range]
  refine wpIn_region_any hm ?_
  have H := wpAnyIn_of_inv (F := F) (m := m) (P := P) (ops := l.toArray) (md := .any) (n := n) (g := l.toArray.size - n) (Q' := Q) S hs hc hn hd ?_ ?_ n (Array.replicate l.toArray.size false) a0 w.drew hl0 inv0 ⟨b0, Agrees.start, fun _ => ⟨rfl, rfl⟩, fun hl => (by rw [getD_replicate_false] at hl; cases hl)⟩
  · rw [show n + (l.toArray.size - n) = l.toArray.size by omega] at H
    exact H
  · intro i hi listed a w' inv hS hr
    obtain ⟨b, hA, hw0, hw1⟩ := hS
    obtain ⟨hu, o, ho, hall⟩ := mem_ready.1 hr
    have ho' : l[i]? = some o := by simpa using ho
    have hli : i < listed.size := by rw [inv.size]; omega
    have htold : Told l.toArray n (vs b) a0 o a := ⟨fun e he hb q d hq' hqd => by
      have hon : e.on < n := by
        have hdi := List.all_eq_true.1 hd i (List.mem_range.2 hi)
        simp only [ho, Option.map_some, Option.getD_some] at hdi
        have := Array.all_eq_true_iff_forall_mem.1 hdi e he
        simp only [hb, Bool.not_true, Bool.false_or, decide_eq_true_eq] at this
        omega
      exact hA.2.2.1 e.on q d hon hq' (hall e he hb) hqd, fun d hno => hA.2.2.2 d fun j q hj hq' _ => hno j q hj hq'⟩
    have hpi := List.all_eq_true.1 hp i (List.mem_range.2 hi)
    simp only [ho, Option.map_some, Option.getD_some, Bool.and_eq_true] at hpi
    obtain ⟨hg, hdf⟩ := hpi
    have hnd : ∀ c, o.op ≠ .defer c := fun c hc' => by rw [hc'] at hdf; cases hdf
    have hwant : Region.wanted o (yielded l.toArray a.tmps) = true := by
      cases hgo : o.guard with
      | none => simp [Region.wanted, hgo]
      | some x => rw [hgo] at hg; cases hg
    unfold wpOpIn
    simp only [ho, hwant, if_true]
    unfold Oper.wpIn
    refine ⟨fun f _ => hW.fn f, ?_⟩
    rw [Oper.semAt_plain F _ _ hnd]
    by_cases hik : i = mk
    · subst hik
      obtain ⟨rfl, rfl⟩ := hw0 (getD_both hu)
      have hset : (listed.setIfInBounds i true).getD i false = true := by simp [hli]
      have hmove : ∀ b', Agrees l.toArray n (vs b') a0 (listed.setIfInBounds i true) (a.put o.dst (vs b' i)) := fun b' => by
        refine (hA.recast fun j hj hlj => ?_).step hds hsz hi ho hli
        have hji : j ≠ i := fun e => by
          subst e
          rw [getD_both hu] at hlj
          cases hlj
        rcases hdep j hj hji with h | h
        · exfalso
          unfold waitsB at h
          cases hoj : l.toArray[j]? with
          | none => rw [hoj] at h; cases h
          | some oj =>
            rw [hoj] at h
            simp only [Option.map_some, Option.getD_some] at h
            obtain ⟨e, he, hb⟩ := List.any_eq_true.1 h
            simp only [Bool.and_eq_true, beq_iff_eq] at hb
            have := inv.closed j oj hoj hlj e (by simpa using he) hb.2
            rw [hb.1, getD_both hu] at this
            cases this
        · exact h _ _
      rcases hrunk o ho' a htold with ⟨b', w1, hrn, hC⟩ | ⟨f, args, hrn, hC⟩
      · rw [hrn]
        exact ⟨b', hmove b', fun h => (by rw [hset] at h; cases h), fun _ => hC⟩
      · rw [hrn]
        refine ⟨fun hx => (by rw [hW.depth] at hx; cases hx), (hW.calls hC).mono fun e w'' ⟨b', he, hw⟩ => ?_⟩
        subst he
        exact ⟨b', hmove b', fun h => (by rw [hset] at h; cases h), fun _ => hw⟩
    · have hset : (listed.setIfInBounds i true).getD mk false = listed.getD mk false := getD_set_ne false hik
      have hstepA := hA.step hds hsz hi ho hli
      have hww : w' = w.drew ∨ C b w' := by
        cases h : listed.getD mk false
        · exact .inl (hw0 h).2
        · exact .inr (hw1 h)
      rw [hrun b i hi hik o ho' a w' htold hww]
      exact ⟨b, hstepA, fun h => hw0 (by rw [← hset]; exact h), fun h => hw1 (by rw [← hset]; exact h)⟩
  · intro listed a w' hz inv hS
    obtain ⟨b, hA, hw0, hw1⟩ := hS
    have hall := left_zero hz
    have hallf : ∀ i, i < n → listed.getD i false = true := fun i hi => by
      have h1 := hall i hi
      have hlt : i < listed.size := by rw [inv.size]; omega
      simp [hlt] at h1 ⊢
      exact h1
    have hle : listed = heads l.toArray.size n := by
      apply Array.ext
      · rw [inv.size]; simp [heads]
      · intro i h1 h2
        have hi : i < l.toArray.size := by rw [← inv.size]; exact h1
        by_cases hin : i < n
        · have := hallf i hin
          simp [h1] at this
          simp [heads, this, hin]
        · have := getD_both (inv.tail i (by omega) hi)
          simp [h1] at this
          simp [heads, this, hin]
    obtain ⟨listed2, h2, hA2⟩ := Agrees.putAll (vs := vs b) hds hsz (l.take n) 0 (Array.replicate l.toArray.size false) a0 (fun j hj => by
      have hj' : j < n := by simp at hj; omega
      simp [hj']) (by simp; omega) (by simp; omega) (fun i hi => by omega) Agrees.start
    have hae : a = putAll (vs b) (l.take n) 0 a0 := hA.unique (hA2.congr fun i hi => by rw [h2 i hi, hallf i hi])
    subst hae
    have hlen : (l.drop n).length = l.toArray.size - n := by simp
    have := wpAnyIn_of_seq (F := F) (m := m) (P := P) (md := .any) (Q' := Q) (l.drop n) n listed _ w' (fun j => by simp [List.getElem?_drop]) (by rw [hlen, hle]; exact hq) (htail b w' (hw1 (hallf mk hmk)))
    rwa [hlen] at this
end
end Go.Proofs.YtnajkjgjeiodmaaGreatDoor
