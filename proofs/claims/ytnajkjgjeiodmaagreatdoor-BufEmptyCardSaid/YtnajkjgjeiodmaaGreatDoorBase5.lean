/-
  GENERAL LEMMAS, MORE: a region that draws its order, of whose operations many change the world: each operation's value is told by a relation that later worlds keep. Guards are told true. Conditions: none of a program.
-/
import Derived.Test.YtnajkjgjeiodmaaGreatDoorBase3
namespace Go.Proofs.YtnajkjgjeiodmaaGreatDoor
open Go.RowKit
open Region

section
variable {F : Fence} {m : Nat} {P : Program}

/-- Each operation ahead of n is no 'defer'; a guard of it is an earlier operation that it waits for. -/
def guardsB (ops : Array Oper) (n : Nat) : Bool := (List.range n).all fun i => ((ops[i]?).map fun o => (match o.guard with | none => true | some (g, _) => decide (g < n) && (o.after.toList.any fun e => e.on == g && Region.binds .any e)) && (match o.op with | .defer _ => false | _ => true)).getD true

/-- What an operation is told of the frame. -/
def ToldR (ops : Array Oper) (n : Nat) (R : Nat → Value → World → Prop) (a0 : Act) (o : Oper) (a : Act) (w : World) : Prop :=
  (∀ e ∈ o.after, Region.binds .any e = true → ∀ q d, ops[e.on]? = some q → q.dst = some d → ∃ v, a.tmps[d]? = some v ∧ R e.on v w) ∧
    ∀ d, (∀ j q, j < n → ops[j]? = some q → q.dst ≠ some d) → a.tmps[d]? = a0.tmps[d]?
theorem ToldR.dep {ops : Array Oper} {n : Nat} {R : Nat → Value → World → Prop} {a0 a : Act} {o : Oper} {w : World} (h : ToldR ops n R a0 o a w) (k t : Nat) (hk : (o.after.toList.any fun e => e.on == k && Region.binds .any e) = true) (ht : (ops[k]?).bind (·.dst) = some t) : ∃ v, a.tmps[t]? = some v ∧ R k v w := by
  obtain ⟨e, he, hb⟩ := List.any_eq_true.1 hk
  simp only [Bool.and_eq_true, beq_iff_eq] at hb
  obtain ⟨rfl, hb⟩ := hb
  cases ho : ops[e.on]? with
  | none => rw [ho] at ht; cases ht
  | some q => rw [ho] at ht; exact h.1 e (by simpa using he) hb q t ho (by simpa using ht)
theorem ToldR.free {ops : Array Oper} {n : Nat} {R : Nat → Value → World → Prop} {a0 a : Act} {o : Oper} {w : World} (h : ToldR ops n R a0 o a w) (t : Nat) (hf : freeB ops n t = true) : a.tmps[t]? = a0.tmps[t]? :=
  h.2 t fun j q hj hq => by
    have := List.all_eq_true.1 hf j (List.mem_range.2 hj)
    simpa [hq] using this

/-- What holds while the head is carried out. -/
def Held (ops : Array Oper) (n size : Nat) (R : Nat → Value → World → Prop) (G : World → World → Prop) (a0 : Act) (w0 : World) (listed : Array Bool) (a : Act) (w : World) : Prop :=
  a.defers = a0.defers ∧ a.tmps.size = size ∧ G w0 w ∧ (∀ i o d, i < n → ops[i]? = some o → listed.getD i false = true → o.dst = some d → ∃ v, a.tmps[d]? = some v ∧ R i v w) ∧
    ∀ d, (∀ j q, j < n → ops[j]? = some q → q.dst ≠ some d) → a.tmps[d]? = a0.tmps[d]?
theorem Held.step {ops : Array Oper} {n size i : Nat} {R : Nat → Value → World → Prop} {G : World → World → Prop} {a0 a : Act} {w0 w w' : World} {listed : Array Bool} {o : Oper} {v : Value} (h : Held ops n size R G a0 w0 listed a w) (hGt : ∀ {A B C : World}, G A B → G B C → G A C)
    (hR : ∀ j u, j ≠ i → listed.getD j false = true → R j u w → R j u w') (hd : dstsB ops n size = true) (hi : i < n) (ho : ops[i]? = some o) (hg : G w w') (hv : R i v w') : Held ops n size R G a0 w0 (listed.setIfInBounds i true) (a.put o.dst v) w' := by
  obtain ⟨h1, h2, h3, h4, h5⟩ := h
  have hdi := List.all_eq_true.1 hd i (List.mem_range.2 hi)
  simp only [ho, Option.map_some, Option.getD_some] at hdi
  cases hdst : o.dst with
  | none => rw [hdst] at hdi; cases hdi
  | some d0 =>
    rw [hdst] at hdi
    simp only [Bool.and_eq_true, decide_eq_true_eq] at hdi
    obtain ⟨hlt, hun⟩ := hdi
    have hne : ∀ j q, j < n → ops[j]? = some q → i ≠ j → q.dst ≠ some d0 := fun j q hj hq hij => by
      have := List.all_eq_true.1 hun j (List.mem_range.2 hj)
      simp only [hq, Option.map_some, Option.getD_some, Bool.or_eq_true, decide_eq_true_eq] at this
      rcases this with h | h
      · exact absurd h hij
      · exact h
    refine ⟨h1, by simp [Act.put, h2], hGt h3 hg, fun j q d hj hq hlj hqd => ?_, fun d hno => ?_⟩
    · by_cases hij : i = j
      · subst hij
        obtain rfl : o = q := Option.some.inj (ho.symm.trans hq)
        obtain rfl : d0 = d := Option.some.inj (hdst.symm.trans hqd)
        exact ⟨v, by simp [Act.put, h2, hlt], hv⟩
      · rw [getD_set_ne false hij] at hlj
        have hdd : d0 ≠ d := fun e => hne j q hj hq hij (by rw [hqd, e])
        obtain ⟨u, hu1, hu2⟩ := h4 j q d hj hq hlj hqd
        exact ⟨u, by simp only [Act.put, Array.getElem?_setIfInBounds_ne hdd]; exact hu1, hR _ _ (fun e => hij e.symm) hlj hu2⟩
    · have hdd : d0 ≠ d := fun e => hno i o hi ho (by rw [hdst, e])
      simp only [Act.put, Array.getElem?_setIfInBounds_ne hdd]
      exact h5 d hno

theorem wpIn_region_rel (hW : Wide F) {id size : Nat} {Q : Exit → Act → World → Prop} {a0 : Act} {w : World} {l : List Oper} (n : Nat) (R : Nat → Value → World → Prop) (G : World → World → Prop) (hm : P.follows .mixedOrders = true)
    (hs : Region.sinkB .any l.toArray n = true) (hc : Region.chainB .any l.toArray n = true) (hn : n < l.toArray.size) (hq : Region.seqB .any l.toArray (l.toArray.size - n) n (heads l.toArray.size n) = true) (hd : depsB .any l.toArray n = true) (hp : guardsB l.toArray n = true)
    (hds : dstsB l.toArray n size = true) (hsz : a0.tmps.size = size) (hGt : ∀ {A B C : World}, G A B → G B C → G A C) (hG0 : G w.drew w.drew) (hR : ∀ i v A B, R i v A → G A B → R i v B)
    (hgd : ∀ i o g b, i < n → l[i]? = some o → o.guard = some (g, b) → ∀ v A, R g v A → v = .bool b)
    (hrun : ∀ i, i < n → ∀ o, l[i]? = some o → ∀ a w', G w.drew w' → ToldR l.toArray n R a0 o a w' → (∃ v w'', (execOp a.eval o).run P w' = .ok (.value v) w'' ∧ R i v w'' ∧ G w' w'') ∨
      ∃ f args, (execOp a.eval o).run P w' = .ok (.enter f args) w' ∧ Calls P f args w' fun e w'' => ∃ v, e = .returned v ∧ R i v w'' ∧ G w' w'')
    (htail : ∀ a w', a.defers = a0.defers → a.tmps.size = size → G w.drew w' → (∀ i o d, i < n → l[i]? = some o → o.dst = some d → ∃ v, a.tmps[d]? = some v ∧ R i v w') → wpListIn F m P l.toArray Q (l.drop n) a w') : (Code.region id l.toArray true).wpIn F m P Q a0 w := by
  have hnl : n < l.length := by simpa using hn
  have inv0 : HeadInv .any l.toArray n (Array.replicate l.toArray.size false) :=
    ⟨by simp, fun j oj _ hl => (by rw [getD_replicate_false] at hl; cases hl), fun t _ ht => getD_in (by simpa using ht) (getD_replicate_false _ _)⟩
  have hl0 : left n (Array.replicate l.toArray.size false) = n := by
    unfold left
    have : (List.range n).filter (fun i => !(Array.replicate l.toArray.size false).getD i true) = List.range n := by
      apply List.filter_eq_self.2
      intro i hi
      have := List.mem_range.1 hi
      rw [getD_in (by simp; omega) (getD_replicate_false _ _)]
      rfl
    rw [this, List.length_range]
  refine wpIn_region_any hm ?_
  have H := wpAnyIn_of_inv (F := F) (m := m) (P := P) (ops := l.toArray) (md := .any) (n := n) (g := l.toArray.size - n) (Q' := Q) (Held l.toArray n size R G a0 w.drew) hs hc hn hd ?_ ?_ n (Array.replicate l.toArray.size false) a0 w.drew hl0 inv0
    ⟨rfl, hsz, hG0, fun i o d _ _ hl => (by rw [getD_replicate_false] at hl; cases hl), fun _ _ => rfl⟩
  · rw [show n + (l.toArray.size - n) = l.toArray.size by omega] at H
    exact H
  · intro i hi listed a w' inv hS hr
    obtain ⟨hu, o, ho, hall⟩ := mem_ready.1 hr
    have ho' : l[i]? = some o := by simpa using ho
    have hon : ∀ e ∈ o.after, Region.binds .any e = true → e.on < n := fun e he hb => by
      have hdi := List.all_eq_true.1 hd i (List.mem_range.2 hi)
      simp only [ho, Option.map_some, Option.getD_some] at hdi
      have := Array.all_eq_true_iff_forall_mem.1 hdi e he
      simp only [hb, Bool.not_true, Bool.false_or, decide_eq_true_eq] at this
      omega
    have htold : ToldR l.toArray n R a0 o a w' := ⟨fun e he hb q d hq' hqd => hS.2.2.2.1 e.on q d (hon e he hb) hq' (hall e he hb) hqd, hS.2.2.2.2⟩
    have hpi := List.all_eq_true.1 hp i (List.mem_range.2 hi)
    simp only [ho, Option.map_some, Option.getD_some, Bool.and_eq_true] at hpi
    obtain ⟨hg, hdf⟩ := hpi
    have hnd : ∀ c, o.op ≠ .defer c := fun c hc' => by rw [hc'] at hdf; cases hdf
    have hwant : Region.wanted o (yielded l.toArray a.tmps) = true := by
      cases hgo : o.guard with
      | none => simp [Region.wanted, hgo]
      | some x =>
        obtain ⟨g, b⟩ := x
        rw [hgo] at hg
        simp only [Bool.and_eq_true, decide_eq_true_eq] at hg
        obtain ⟨hgn, hgw⟩ := hg
        have hdg := List.all_eq_true.1 hds g (List.mem_range.2 hgn)
        cases hog : l.toArray[g]? with
        | none =>
          have := Array.getElem?_eq_none_iff.1 hog
          omega
        | some q =>
          simp only [hog, Option.map_some, Option.getD_some] at hdg
          cases hqd : q.dst with
          | none => rw [hqd] at hdg; cases hdg
          | some t =>
            obtain ⟨v, hv1, hv2⟩ := htold.dep g t hgw (by rw [hog]; exact hqd)
            have := hgd i o g b hi ho' hgo v w' hv2
            subst this
            simp [Region.wanted, hgo, yielded, hog, hqd, hv1]
    unfold wpOpIn
    simp only [ho, hwant, if_true]
    unfold Oper.wpIn
    refine ⟨fun f _ => hW.fn f, ?_⟩
    rw [Oper.semAt_plain F _ _ hnd]
    rcases hrun i hi o ho' a w' hS.2.2.1 htold with ⟨v, w1, hrn, hv, hgg⟩ | ⟨f, args, hrn, hC⟩
    · rw [hrn]
      exact hS.step hGt (fun j u _ _ h => hR j u _ _ h hgg) hds hi ho hgg hv
    · rw [hrn]
      refine ⟨fun hx => (by rw [hW.depth] at hx; cases hx), (hW.calls hC).mono fun e w'' ⟨v, he, hv, hgg⟩ => ?_⟩
      subst he
      exact hS.step hGt (fun j u _ _ h => hR j u _ _ h hgg) hds hi ho hgg hv
  · intro listed a w' hz inv hS
    have hall := left_zero hz
    have hallf : ∀ i, i < n → listed.getD i false = true := fun i hi => by
      have h1 := hall i hi
      have hlt : i < listed.size := by rw [inv.size]; omega
      simp [hlt] at h1 ⊢
      exact h1
    have hle : listed = heads l.toArray.size n := by
      apply Array.ext
      · rw [inv.size]; simp [heads]
      · intro i h1 h2
        have hi : i < l.toArray.size := by rw [← inv.size]; exact h1
        by_cases hin : i < n
        · have := hallf i hin
          simp [h1] at this
          simp [heads, this, hin]
        · have := getD_both (inv.tail i (by omega) hi)
          simp [h1] at this
          simp [heads, this, hin]
    have hlen : (l.drop n).length = l.toArray.size - n := by simp
    have := wpAnyIn_of_seq (F := F) (m := m) (P := P) (md := .any) (Q' := Q) (l.drop n) n listed a w' (fun j => by simp [List.getElem?_drop]) (by rw [hlen, hle]; exact hq)
      (htail a w' hS.1 hS.2.1 hS.2.2.1 fun i o d hi ho hod => hS.2.2.2.1 i o d hi (by simpa using ho) (hallf i hi) hod)
    rwa [hlen] at this
/-- The same where one operation mk wants of the world what holds only till it has run. -/
theorem wpIn_region_rel2 (hW : Wide F) {id size : Nat} (mk : Nat) (C0 : World → Prop) (G0 : World → World → Prop) {Q : Exit → Act → World → Prop} {a0 : Act} {w : World} {l : List Oper} (n : Nat) (R : Nat → Value → World → Prop) (G : World → World → Prop) (hm : P.follows .mixedOrders = true)
    (hs : Region.sinkB .any l.toArray n = true) (hc : Region.chainB .any l.toArray n = true) (hn : n < l.toArray.size) (hq : Region.seqB .any l.toArray (l.toArray.size - n) n (heads l.toArray.size n) = true) (hd : depsB .any l.toArray n = true) (hp : guardsB l.toArray n = true)
    (hds : dstsB l.toArray n size = true) (hsz : a0.tmps.size = size) (hGt : ∀ {A B C : World}, G A B → G B C → G A C) (hG0 : G w.drew w.drew) (hC0 : C0 w.drew) (hR0 : ∀ i v A B, R i v A → G0 A B → R i v B) (hR1 : ∀ i v A B, i ≠ mk → R i v A → G A B → R i v B) (hCG : ∀ A B, C0 A → G0 A B → C0 B)
    (hgd : ∀ i o g b, i < n → l[i]? = some o → o.guard = some (g, b) → ∀ v A, R g v A → v = .bool b)
    (hrun : ∀ i, i < n → ∀ o, l[i]? = some o → ∀ a w', G w.drew w' → ToldR l.toArray n R a0 o a w' → (i = mk → C0 w') → (∃ v w'', (execOp a.eval o).run P w' = .ok (.value v) w'' ∧ R i v w'' ∧ G w' w'' ∧ (i ≠ mk → G0 w' w'')) ∨
      ∃ f args, (execOp a.eval o).run P w' = .ok (.enter f args) w' ∧ Calls P f args w' fun e w'' => ∃ v, e = .returned v ∧ R i v w'' ∧ G w' w'' ∧ (i ≠ mk → G0 w' w''))
    (htail : ∀ a w', a.defers = a0.defers → a.tmps.size = size → G w.drew w' → (∀ i o d, i < n → l[i]? = some o → o.dst = some d → ∃ v, a.tmps[d]? = some v ∧ R i v w') → wpListIn F m P l.toArray Q (l.drop n) a w') : (Code.region id l.toArray true).wpIn F m P Q a0 w := by
  have hnl : n < l.length := by simpa using hn
  have inv0 : HeadInv .any l.toArray n (Array.replicate l.toArray.size false) :=
    ⟨by simp, fun j oj _ hl => (by rw [getD_replicate_false] at hl; cases hl), fun t _ ht => getD_in (by simpa using ht) (getD_replicate_false _ _)⟩
  have hl0 : left n (Array.replicate l.toArray.size false) = n := by
    unfold left
    have : (List.range n).filter (fun i => !(Array.replicate l.toArray.size false).getD i true) = List.range n := by
      apply List.filter_eq_self.2
      intro i hi
      have := List.mem_range.1 hi
      rw [getD_in (by simp; omega) (getD_replicate_false _ _)]
      rfl
    rw [this, List.length_range]
  refine wpIn_region_any hm ?_
  have H := wpAnyIn_of_inv (F := F) (m := m) (P := P) (ops := l.toArray) (md := .any) (n := n) (g := l.toArray.size - n) (Q' := Q) (fun listed a w' => Held l.toArray n size R G a0 w.drew listed a w' ∧ (listed.getD mk false = false → C0 w')) hs hc hn hd ?_ ?_ n (Array.replicate l.toArray.size false) a0 w.drew hl0 inv0
    ⟨⟨rfl, hsz, hG0, fun i o d _ _ hl => (by rw [getD_replicate_false] at hl; cases hl), fun _ _ => rfl⟩, fun _ => hC0⟩
  · rw [show n + (l.toArray.size - n) = l.toArray.size by omega] at H
    exact H
  · intro i hi listed a w' inv hSC hr
    obtain ⟨hS, hC⟩ := hSC
    obtain ⟨hu, o, ho, hall⟩ := mem_ready.1 hr
    have hCi : i = mk → C0 w' := fun e => hC (by rw [← e]; exact getD_both hu)
    have hstay : ∀ X, (i ≠ mk → G0 w' X) → (listed.setIfInBounds i true).getD mk false = false → C0 X := fun X h1 h2 => by
      have hne : i ≠ mk := fun e => by
        subst e
        have hli : i < listed.size := by rw [inv.size]; omega
        simp [hli] at h2
      exact hCG _ _ (hC (by rw [← getD_set_ne false hne]; exact h2)) (h1 hne)
    have hmono : ∀ X, G w' X → (i ≠ mk → G0 w' X) → ∀ j u, j ≠ i → listed.getD j false = true → R j u w' → R j u X := fun X h1 h2 j u hji hlj hju => by
      by_cases him : i = mk
      · exact hR1 j u _ _ (fun e => hji (e.trans him.symm)) hju h1
      · exact hR0 j u _ _ hju (h2 him)
    have ho' : l[i]? = some o := by simpa using ho
    have hon : ∀ e ∈ o.after, Region.binds .any e = true → e.on < n := fun e he hb => by
      have hdi := List.all_eq_true.1 hd i (List.mem_range.2 hi)
      simp only [ho, Option.map_some, Option.getD_some] at hdi
      have := Array.all_eq_true_iff_forall_mem.1 hdi e he
      simp only [hb, Bool.not_true, Bool.false_or, decide_eq_true_eq] at this
      omega
    have htold : ToldR l.toArray n R a0 o a w' := ⟨fun e he hb q d hq' hqd => hS.2.2.2.1 e.on q d (hon e he hb) hq' (hall e he hb) hqd, hS.2.2.2.2⟩
    have hpi := List.all_eq_true.1 hp i (List.mem_range.2 hi)
    simp only [ho, Option.map_some, Option.getD_some, Bool.and_eq_true] at hpi
    obtain ⟨hg, hdf⟩ := hpi
    have hnd : ∀ c, o.op ≠ .defer c := fun c hc' => by rw [hc'] at hdf; cases hdf
    have hwant : Region.wanted o (yielded l.toArray a.tmps) = true := by
      cases hgo : o.guard with
      | none => simp [Region.wanted, hgo]
      | some x =>
        obtain ⟨g, b⟩ := x
        rw [hgo] at hg
        simp only [Bool.and_eq_true, decide_eq_true_eq] at hg
        obtain ⟨hgn, hgw⟩ := hg
        have hdg := List.all_eq_true.1 hds g (List.mem_range.2 hgn)
        cases hog : l.toArray[g]? with
        | none =>
          have := Array.getElem?_eq_none_iff.1 hog
          omega
        | some q =>
          simp only [hog, Option.map_some, Option.getD_some] at hdg
          cases hqd : q.dst with
          | none => rw [hqd] at hdg; cases hdg
          | some t =>
            obtain ⟨v, hv1, hv2⟩ := htold.dep g t hgw (by rw [hog]; exact hqd)
            have := hgd i o g b hi ho' hgo v w' hv2
            subst this
            simp [Region.wanted, hgo, yielded, hog, hqd, hv1]
    unfold wpOpIn
    simp only [ho, hwant, if_true]
    unfold Oper.wpIn
    refine ⟨fun f _ => hW.fn f, ?_⟩
    rw [Oper.semAt_plain F _ _ hnd]
    rcases hrun i hi o ho' a w' hS.2.2.1 htold hCi with ⟨v, w1, hrn, hv, hgg, hcc⟩ | ⟨f, args, hrn, hCC⟩
    · rw [hrn]
      exact ⟨hS.step hGt (hmono _ hgg hcc) hds hi ho hgg hv, hstay _ hcc⟩
    · rw [hrn]
      refine ⟨fun hx => (by rw [hW.depth] at hx; cases hx), (hW.calls hCC).mono fun e w'' ⟨v, he, hv, hgg, hcc⟩ => ?_⟩
      subst he
      exact ⟨hS.step hGt (hmono _ hgg hcc) hds hi ho hgg hv, hstay _ hcc⟩
  · intro listed a w' hz inv hSC
    obtain ⟨hS, -⟩ := hSC
    have hall := left_zero hz
    have hallf : ∀ i, i < n → listed.getD i false = true := fun i hi => by
      have h1 := hall i hi
      have hlt : i < listed.size := by rw [inv.size]; omega
      simp [hlt] at h1 ⊢
      exact h1
    have hle : listed = heads l.toArray.size n := by
      apply Array.ext
      · rw [inv.size]; simp [heads]
      · intro i h1 h2
        have hi : i < l.toArray.size := by rw [← inv.size]; exact h1
        by_cases hin : i < n
        · have := hallf i hin
          simp [h1] at this
          simp [heads, this, hin]
        · have := getD_both (inv.tail i (by omega) hi)
          simp [h1] at this
          simp [heads, this, hin]
    have hlen : (l.drop n).length = l.toArray.size - n := by simp
    have := wpAnyIn_of_seq (F := F) (m := m) (P := P) (md := .any) (Q' := Q) (l.drop n) n listed a w' (fun j => by simp [List.getElem?_drop]) (by rw [hlen, hle]; exact hq)
      (htail a w' hS.1 hS.2.1 hS.2.2.1 fun i o d hi ho hod => hS.2.2.2.1 i o d hi (by simpa using ho) (hallf i hi) hod)
    rwa [hlen] at this
end
end Go.Proofs.YtnajkjgjeiodmaaGreatDoor
