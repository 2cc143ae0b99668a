/-
  CONTRACT OF piece.Table.All: the iterator that it hands back tells what each piece tells, in order. Conditions: texts of fewer than 2^30 bytes.
-/
import Derived.Test.YtnajkjgjeiodmaaSlc
namespace Go.Proofs.Ytnajkjgjeiodmaa
open Go.RowKit
open Go.Proofs (Try.prog)

attribute [local go_sem] Oper.semAt_some

/-- The strings that the pieces tell. -/
def strs (f a : List UInt8) (ps : List Pc) : List (Array Value) := ps.map fun p => #[.string ⟨(txt f a p).toArray⟩]
theorem strs_get {f a : List UInt8} {ps : List Pc} {k : Nat} {p : Pc} (h : ps[k]? = some p) : (strs f a ps)[k]? = some #[.string ⟨(txt f a p).toArray⟩] := by simp [strs, h]
theorem strs_length (f a : List UInt8) (ps : List Pc) : (strs f a ps).length = ps.length := by simp [strs]
theorem strs_inv {f a : List UInt8} {ps : List Pc} {k : Nat} {x : Array Value} (h : (strs f a ps)[k]? = some x) : ∃ p, ps[k]? = some p ∧ x = #[.string ⟨(txt f a p).toArray⟩] := by
  rw [strs, List.getElem?_map] at h
  cases hz : ps[k]? with
  | none => simp [hz] at h
  | some z => exact ⟨z, rfl, by simpa [hz] using h.symm⟩
theorem RoundIn.inRound {F : Fence} {n : Nat} {P : Program} {l : Nat} {f : FuncId} {tmps : Array Value} {assign body : Code} {w : World} {R : Ending → World → Prop} (l' : Nat) (h : RoundIn F n P l f tmps assign body w R) : RoundIn (F.inRound l') n P l f tmps assign body w R := h
theorem Raw.keepC {w w' : World} {x N : Nat} {fp S : List Nat} {f : ByteArray} {a : List UInt8} {ps : List Pc} {size most edits : Int} (h : Raw w x fp f a ps size most edits) (hk : KeepC N S w w') (hS : ∀ b ∈ fp, b ∈ S) : Raw w' x fp f a ps size most edits := by
  obtain ⟨av, p, fv, hx, hr, hv, rfl⟩ := h
  have hrow : ∀ {e size n : Nat} {v : Value} {cs : List Value}, w.ownsRow 0 e size v n cs → (∀ b ∈ v.ownBlock.toList, b ∈ S) → w'.ownsRow 0 e size v n cs := fun h hs => by
    refine ⟨h.1, ?_⟩
    rcases h.2 with h0 | ⟨g, cap, cur, rfl, hb, hg, h1, h2, h3, h4⟩
    · exact .inl h0
    · exact .inr ⟨g, cap, cur, rfl, hb, hk _ _ _ _ (.inl (hs g (by simp [Value.ownBlock]))) hg, h1, h2, h3, h4⟩
  obtain ⟨v, hp, hr2, rfl⟩ := hv
  exact ⟨av, p, _, hk _ _ _ _ (.inl (hS _ (by simp))) hx, hrow hr (fun b hb => hS b (by simp [hb])), ⟨v, hk _ _ _ _ (.inl (hS _ (by simp))) hp, hrow hr2 (fun b hb => hS b (by simp [hb])), rfl⟩, rfl⟩

set_option maxHeartbeats 400000 in
theorem tblAll (w : World) (x : Nat) : Calls Try.prog 30 #[.pointer (some ⟨x, 0, none⟩)] w fun e w' => e = .returned (.func (.func 49) #[] #[.pointer (some ⟨w.heap.size, 0, none⟩)]) ∧ w.alloc (.cells #[.pointer (some ⟨x, 0, none⟩)] 39) = w' := by
  go_enter Try.func30, Try.ntmps30
  go_wp2
  go_ret
  exact ⟨rfl, rfl⟩

set_option maxRecDepth 100000 in
set_option maxHeartbeats 4000000 in
theorem tblAllIter (w : World) (b x : Nat) (fp : List Nat) (f : ByteArray) (a : List UInt8) (ps : List Pc) (size : Nat) (most edits : Int) (hb : w.heap[b]? = some (.cells #[.pointer (some ⟨x, 0, none⟩)] 39 (0, 0))) (h : Raw w x fp f a ps size most edits) (hok : ∀ p ∈ ps, Okp f.data.toList a p)
    (hf : f.size ≤ 1073741824) (ha : a.length ≤ 1073741824) (hn : ps.length ≤ 1073741824) :
    IterOver Try.prog 49 #[.pointer (some ⟨b, 0, none⟩)] (strs f.data.toList a ps) (KeepC w.heap.size (b :: fp)) w := by
  intro l J Jx W hW hJ hJx hY h0
  rw [strs_length]
  have hbW := hW.cells hb
  have hRW := h.ext hW
  have hsW := hW.size
  obtain ⟨W0, hW0⟩ : ∃ W0, W0 = W.alloc (.cells #[.func (.yield l) #[] #[]] 35) := ⟨_, rfl⟩
  have hF0 : Frm [] W W0 := by rw [hW0]; exact (Frm.refl _ W).alloc _
  have hbox : W0.heap[W.heap.size]? = some (.cells #[.func (.yield l) #[] #[]] 35 (0, 0)) := by rw [hW0]; exact heap_alloc_at W _
  have hb0 := hF0.heap hbW (by simp)
  have hR0 := hRW.frm hF0 (by simp)
  have hxl := hR0.lt x hR0.mem
  have H0 := Lib.hid hR0
  obtain ⟨av, p, fv, hx0, -, hv0, -⟩ := hR0
  have hall := vecAllP W0 p fv ps hv0 (by omega)
  have hcell0 := cell_of_heap (i := 2) hx0 rfl
  have hcellb := cell_of_heap (i := 0) hb0 rfl
  subst hW0
  have HALL := Lib.hid hall
  have HBOX := Lib.hid hbox
  have HB0 := Lib.hid hb0
  have HF0 := Lib.hid hF0
  have HOK := Lib.hid hok
  have HJ := Lib.hid hJ
  have HJX := Lib.hid hJx
  have HY := Lib.hid hY
  have H00 := Lib.hid h0
  have HW := Lib.hid hW
  clear hall hbox hb0 hF0 hok hJ hJx hY h0 hW hx0 hv0 hb h hRW
  refine callsIn_wide.1 (callsIn_of_wp_marks (n := 3) Try.func49 rfl trivial ?_ rfl)
  simp only [Try.ntmps49, List.size_toArray, List.length_cons, List.length_nil, Nat.reduceAdd, Nat.reduceSub, Array.replicate_succ, Array.replicate_zero, List.push_toArray, List.append_toArray, List.nil_append, List.cons_append]
  gi_wp2_with fail
  refine ⟨trivial, (callsIn_wide.2 HALL.out).mono ?_⟩
  rintro e w1 ⟨Bs, L, rfl, hit, hf1, hL, hLc⟩
  have hF1 := HF0.out.trans hf1 (by simp)
  have hE1 : Ext W.heap.size W w1 := Ext.ofFrm hF1
  have hbox1 := hf1.heap HBOX.out (by simp)
  have hb1 := hf1.heap HB0.out (by simp)
  have hR1 := H0.out.frm hf1 (by simp)
  have hsz1 := hF1.size
  have hszT := hf1.size
  simp only [World.size_alloc] at hszT hL
  have HL := Lib.hid hL
  have HLC := Lib.hid hLc
  have HIT := Lib.hid hit
  have HE1 := Lib.hid hE1
  clear hf1 hcell0 hcellb hL hit hLc hE1
  gi_wp2_with fail
  refine wp_range (gf := 69) (lb := #[.pointer (some ⟨Bs, 0, none⟩)]) rfl (enters_of Try.func69 (by kernel_rfl) rfl) HIT.out Keep.trans (Keep.putObj (fun b hb => (HL.out b hb).2)) ?hps
    (fun k X => J k X ∧ Raw X x fp f a ps size most edits ∧ X.heap[b]? = some (.cells #[.pointer (some ⟨x, 0, none⟩)] 39 (0, 0)) ∧ X.heap[W.heap.size]? = some (.cells #[.func (.yield l) #[] #[]] 35 (0, 0)) ∧ Keep L w1 X ∧ w1.heap.size ≤ X.heap.size)
    (fun c k X => c = .ret ∧ Jx k X ∧ w1.heap.size ≤ X.heap.size)
    ?hI ?hIx ?h0 ?hround ?hdone ?hstop
  case hps =>
    intro z hz
    obtain ⟨k, hk⟩ := List.mem_iff_getElem?.1 hz
    obtain ⟨s, _, rfl⟩ := elemsP_inv hk
    rfl
  case hI =>
    rintro k X Y ⟨i1, i2, i3, i4, i5, i6⟩ hE
    refine ⟨HJ.out k X Y i1 (hE.mono hsz1), i2.ext hE, hE.cells i3, hE.cells i4, fun q hq => ?_, Nat.le_trans i6 hE.size⟩
    obtain ⟨c, t, fz, h1⟩ := HLC.out q hq
    rw [h1]
    exact hE.cells ((i5 q hq).trans h1)
  case hIx =>
    rintro c k X Y ⟨hc, i1, i2⟩ hE
    exact ⟨hc, HJX.out k X Y i1 (hE.mono hsz1), Nat.le_trans i2 hE.size⟩
  case h0 => exact ⟨HJ.out 0 W w1 H00.out HE1.out, hR1, hb1, hbox1, Keep.refl _ _, Nat.le_refl _⟩
  case hround =>
    rintro l' k z X hl hz ⟨i1, i2, i3, i4, i5, i6⟩ K' hK'
    obtain ⟨⟨pb, o, m⟩, hp, rfl⟩ := elemsP_inv hz
    clear hz
    gi_wp2_with fail
    refine hK' _ _ (KeepsFrom.frm ((Frm.refl [] X).alloc _) (by simp)) (Keep.frm ((Frm.refl [] X).alloc _) (fun b hb => ⟨by have := (HL.out b hb).2; omega, by simp⟩)) ?_
    intro w2 hE2 hs2
    have hE : Ext w1.heap.size X w2 := ((Ext.refl _ X).alloc _).trans hE2
    have hq : w2.heap[X.heap.size]? = some (.cells #[.bool pb, .int .i64 o, .int .i64 m] 79 (0, 0)) := hE2.cells (heap_alloc_at X _)
    have j1 := HJ.out k X w2 i1 (hE.mono hsz1)
    have j2 := i2.ext hE
    have j3 := hE.cells i3
    have j4 := hE.cells i4
    have j6 := Nat.le_trans i6 hE.size
    have j5 : Keep L w1 w2 := fun q hq => by
      obtain ⟨c, t, fz, h1⟩ := HLC.out q hq
      rw [h1]
      exact hE.cells ((i5 q hq).trans h1)
    have hpo := HOK.out _ (List.mem_of_getElem? hp)
    have hc3 := cell_of_heap (i := 0) j3 rfl
    have hc4 := cell_of_heap (i := 0) j4 rfl
    have q0 := cell_of_heap (i := 0) hq rfl
    have q1 := cell_of_heap (i := 1) hq rfl
    have q2 := cell_of_heap (i := 2) hq rfl
    have HPO := Lib.hid hpo
    have HP := Lib.hid hp
    have HJ1 := Lib.hid j1
    have HJ2 := Lib.hid j2
    have HJ3 := Lib.hid j3
    have HJ4 := Lib.hid j4
    have HJ5 := Lib.hid j5
    have hxl2 := j2.lt x j2.mem
    clear i1 i2 i3 i4 i5 hE hE2 hs2 hK' j1 j2 j3 j4 j5 hq hp hpo
    have mixed : Try.prog.follows .mixedOrders = true := by kernel_rfl
    gi_wp2_with fail
    refine wpIn_region_vals (size := 18) (mk := 3) (wide_round l') 4 (fun i => [Value.func (.yield l) #[] #[], Value.pointer (some ⟨x, 0, none⟩), .agg #[.bool pb, .int .i64 o, .int .i64 m], .string ⟨(txt f.data.toList a (pb, o, m)).toArray⟩].getD i undef)
      (fun w' => Frm [] w2 w') mixed (by kernel_rfl) (by kernel_rfl) (by decide) (by kernel_rfl) (by kernel_rfl) (by kernel_rfl) (by kernel_rfl) rfl (by decide) ?hrun ?hrunk ?htail
    case hrun =>
      intro ix hi hne op hop a' w' ht hw'
      have hF : Frm [] w2 w' := by
        rcases hw' with rfl | hC
        · exact (Frm.refl _ _).drew
        · exact hC
      have k3 := hF.cell hc3 (by simp)
      have k4 := hF.cell hc4 (by simp)
      have kq0 := hF.cell q0 (by simp)
      have kq1 := hF.cell q1 (by simp)
      have kq2 := hF.cell q2 (by simp)
      rcases (by omega : ix = 0 ∨ ix = 1 ∨ ix = 2) with rfl | rfl | rfl
      all_goals obtain rfl := Option.some.inj hop
      · have h1 := ht.free 2 (by kernel_rfl)
        simp [execOp, go_sem, Act.eval, h1, k4]
      · have h1 := ht.free 1 (by kernel_rfl)
        simp [execOp, go_sem, Act.eval, h1, k3]
      · have h1 := ht.free 4 (by kernel_rfl)
        simp [execOp, go_sem, Act.eval, h1, kq0, kq1, kq2]
    case hrunk =>
      intro op hop a' ht
      obtain rfl := Option.some.inj hop
      have h1 := ht.dep 1 13 (by kernel_rfl) rfl
      have h2 := ht.dep 2 14 (by kernel_rfl) rfl
      right
      refine ⟨48, #[.pointer (some ⟨x, 0, none⟩), .agg #[.bool pb, .int .i64 o, .int .i64 m]], ?_, ?_⟩
      · simp [execOp, go_sem, Act.eval, h1, h2]
      · refine (tblText w2.drew x fp f a ps size most edits (HJ2.out.frm (Frm.refl [] w2).drew (by simp)) (pb, o, m) HPO.out (by omega) (by omega)).mono ?_
        rintro e w3 ⟨rfl, hf3⟩
        exact ⟨rfl, hf3.ofDrew⟩
    case htail =>
      intro w3 hF3
      have hE3 : Ext W.heap.size w2 w3 := (Ext.ofFrm hF3).mono (by omega)
      obtain ⟨fn, tmps, assign, body, hy, hR⟩ := HY.out k _ w3 (strs_get HP.out) (HJ.out k _ _ HJ1.out hE3)
      have HR := Lib.hid hR
      have HF3 := Lib.hid hF3
      clear hR hF3 hE3
      simp only [List.take_succ_cons, List.take_zero, List.drop_succ_cons, List.drop_zero, putAll, Act.put, Nat.reduceAdd, List.getD_cons_succ, List.getD_cons_zero]
      gi_wp2_with fail
      refine (RoundIn.inRound l' (roundIn_any HR.out)).mono ?_
      have hkeep : ∀ W3, KeepsFrom W.heap.size w3 W3 → KeepsFrom w1.heap.size w2 W3 := fun W3 h =>
        (KeepsFrom.frm HF3.out (by simp)).trans ⟨h.size, fun i o hB hi ho => h.same i o (by omega) hi ho⟩
      rintro e W3 (⟨rfl, hJ3, hk3, hf3⟩ | ⟨rfl, hJx3, hf3⟩)
      · have hkp := hkeep W3 hf3
        have HJ3' := Lib.hid hJ3
        have HK3 := Lib.hid hk3
        have HKP := Lib.hid hkp
        clear hJ3 hk3 hf3 hkp hkeep hc3 hc4 q0 q1 q2
        gi_wp2_with fail
        have hl5 : ∀ q ∈ L, W3.heap[q]? = w1.heap[q]? := fun q hq => by
          obtain ⟨c, t, fz, h1⟩ := HLC.out q hq
          have hq1 := HL.out q hq
          rw [h1]
          exact HK3.out q c t fz (.inr (by omega)) (HF3.out.heap ((HJ5.out q hq).trans h1) (by simp))
        refine ⟨HKP.out, fun q hq => (hl5 q hq).trans (HJ5.out q hq).symm, HJ3'.out, (HJ2.out.frm HF3.out (by simp)).keepC HK3.out (fun q hq => List.mem_cons_of_mem _ hq),
          HK3.out _ _ _ _ (.inl (by simp)) (HF3.out.heap HJ3.out (by simp)), HK3.out _ _ _ _ (.inr hsW) (HF3.out.heap HJ4.out (by simp)), hl5, Nat.le_trans j6 HKP.out.size⟩
      · have hkp := hkeep W3 hf3
        have HJX3 := Lib.hid hJx3
        have HKP := Lib.hid hkp
        clear hJx3 hf3 hkp hkeep hc3 hc4 q0 q1 q2
        gi_wp2_with fail
        exact ⟨HKP.out, rfl, HJX3.out, Nat.le_trans j6 HKP.out.size⟩
  case hdone =>
    rintro D X hD ⟨i1, i2, i3, i4, i5, i6⟩ hK
    rw [elemsP_length] at i1
    have HI1 := Lib.hid i1
    have HK := Lib.hid hK
    clear i1 i2 i3 i4 i5 hK
    gi_wp2_with fail
    refine ⟨by simp, .inl ⟨_, _, rfl, run_takeDeferred HK.out, ?_⟩⟩
    exact ⟨_, results_none rfl _ _ _, ⟨_, rfl⟩, .inl (HJ.out _ _ _ HI1.out ((Ext.refl W.heap.size _).putObj HK.out rfl (by omega) _))⟩
  case hstop =>
    rintro D c k X hD hk ⟨rfl, i1, i2⟩ hK
    rw [elemsP_length] at hk
    have HI1 := Lib.hid i1
    have HK := Lib.hid hK
    clear i1 hK
    gi_wp2_with fail
    refine ⟨by simp, .inl ⟨_, _, rfl, run_takeDeferred HK.out, ?_⟩⟩
    exact ⟨_, results_none rfl _ _ _, ⟨_, rfl⟩, .inr ⟨k, hk, HJX.out _ _ _ HI1.out ((Ext.refl W.heap.size _).putObj HK.out rfl (by omega) _)⟩⟩

end Go.Proofs.Ytnajkjgjeiodmaa
