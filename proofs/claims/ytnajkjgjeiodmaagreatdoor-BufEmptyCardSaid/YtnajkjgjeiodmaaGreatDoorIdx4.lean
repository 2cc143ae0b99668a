/-
  CONTRACTS OF lineidx.Index: move, Insert, Delete, New. Conditions: the text has fewer than 2^30 bytes.
-/
import Derived.Test.YtnajkjgjeiodmaaGreatDoorIdx2
namespace Go.Proofs.YtnajkjgjeiodmaaGreatDoor
open Go.RowKit
open Go.Proofs (Tryz.prog)

attribute [local go_sem] Oper.semAt_some

theorem set_take_drop {α : Type} (m xs : List α) (k : Nat) (v : α) (hl : m.length = xs.length) (hv : m[k]? = some v) : (m.take k ++ xs.drop k).set k v = m.take (k + 1) ++ xs.drop (k + 1) := by
  have hk : k < m.length := (List.getElem?_eq_some_iff.1 hv).1
  have e1 : m.take (k + 1) = m.take k ++ [v] := by rw [List.take_add_one, hv]; rfl
  have e2 : xs.drop k = xs[k] :: xs.drop (k + 1) := List.drop_eq_getElem_cons (by omega)
  have e3 : k - (m.take k).length = 0 := by simp; omega
  rw [e1, List.set_append_right _ _ (by simp; omega), e3, e2, List.set_cons_zero, List.append_assoc]
  rfl
theorem same_take_drop {α : Type} (m xs : List α) (k : Nat) (v : α) (hl : m.length = xs.length) (hv : m[k]? = some v) (hx : xs[k]? = some v) : m.take k ++ xs.drop k = m.take (k + 1) ++ xs.drop (k + 1) := by
  have hk : k < m.length := (List.getElem?_eq_some_iff.1 hv).1
  have e1 : m.take (k + 1) = m.take k ++ [v] := by rw [List.take_add_one, hv]; rfl
  have e2 : xs.drop k = v :: xs.drop (k + 1) := by
    rw [List.drop_eq_getElem_cons (by omega)]
    congr 1
    rw [List.getElem?_eq_getElem (by omega)] at hx
    exact Option.some.inj hx
  rw [e1, e2, List.append_assoc]; rfl

/-- The starts behind a line, moved. -/
def mvd (line by_ : Int) (xs : List Int) : List Int := xs.mapIdx fun i s => if line < (i : Int) then s + by_ else s
theorem mvd_length (line by_ : Int) (xs : List Int) : (mvd line by_ xs).length = xs.length := by simp [mvd]
theorem mvd_get {line by_ : Int} {xs : List Int} {k : Nat} {s : Int} (h : xs[k]? = some s) : (mvd line by_ xs)[k]? = some (if line < (k : Int) then s + by_ else s) := by simp [mvd, h]

set_option maxRecDepth 100000 in
set_option maxHeartbeats 2000000 in
theorem idxMove (w : World) (x p : Nat) (fv : List Nat) (xs : List Int) (line by_ : Int) (c : Array Value) (hx : w.heap[x]? = some (.cells c 94 (0, 0))) (hc : c[0]? = some (.pointer (some ⟨p, 0, none⟩)))
    (hv : VecI w p fv xs) (hn : xs.length ≤ 1099511627776) (hb : ∀ s ∈ xs, -1099511627776 ≤ s ∧ s ≤ 1099511627776) (hb1 : -1099511627776 ≤ by_) (hb2 : by_ ≤ 1099511627776) :
    Calls Tryz.prog 73 #[.pointer (some ⟨x, 0, none⟩), .int .i64 line, .int .i64 by_] w fun e w' => (∃ v, e = .returned v) ∧ VecI w' p fv (mvd line by_ xs) ∧ Frm fv w w' := by
  have hxl := lt_of_heap hx
  have hxv : x ∉ fv := hv.not_mem hx (by decide) (by decide)
  have hcell := cell_of_heap hx hc
  obtain ⟨W0, hW0⟩ : ∃ W0, W0 = ((w.alloc (.cells #[.pointer (some ⟨x, 0, none⟩)] 57)).alloc (.cells #[.int .i64 line] 3)).alloc (.cells #[.int .i64 by_] 3) := ⟨_, rfl⟩
  have hF0 : Frm [] w W0 := by rw [hW0]; exact (((Frm.refl _ w).alloc _).alloc _).alloc _
  have hs0 : W0.heap.size = w.heap.size + 3 := by rw [hW0]; simp
  have hb3 : W0.heap[w.heap.size]? = some (.cells #[.pointer (some ⟨x, 0, none⟩)] 57 (0, 0)) := by
    rw [hW0, heap_alloc_below _ (by simp; omega), heap_alloc_below _ (by simp)]; exact heap_alloc_at w _
  have hb4 : W0.heap[w.heap.size + 1]? = some (.cells #[.int .i64 line] 3 (0, 0)) := by
    rw [hW0, heap_alloc_below _ (by simp)]
    have := heap_alloc_at (w.alloc (.cells #[.pointer (some ⟨x, 0, none⟩)] 57)) (.cells #[.int .i64 line] 3)
    rwa [World.size_alloc] at this
  have hb5 : W0.heap[w.heap.size + 2]? = some (.cells #[.int .i64 by_] 3 (0, 0)) := by
    rw [hW0]
    have := heap_alloc_at ((w.alloc (.cells #[.pointer (some ⟨x, 0, none⟩)] 57)).alloc (.cells #[.int .i64 line] 3)) (.cells #[.int .i64 by_] 3)
    rwa [World.size_alloc, World.size_alloc] at this
  have hx0 := hF0.heap hx (by simp)
  have hv0 := hv.frm hF0 (by simp)
  have hall := vecAllI W0 p fv xs hv0 hn
  have hcell0 := cell_of_heap hx0 hc
  have hcell3 := cell_of_heap (i := 0) hb3 rfl
  subst hW0
  have HALL := Lib.hid hall
  have HX := Lib.hid hx
  have HV := Lib.hid hv
  have HC := Lib.hid hc
  have HB := Lib.hid hb
  have HXV := Lib.hid hxv
  have HB3 := Lib.hid hb3
  have HB4 := Lib.hid hb4
  have HB5 := Lib.hid hb5
  have HF0 := Lib.hid hF0
  clear hall hx hv hb hxv hb3 hb4 hb5 hF0 hs0 hx0 hv0 hcell3 hc
  refine callsIn_wide.1 (callsIn_of_wp_marks (n := 3) Tryz.func73 rfl trivial ?_ rfl)
  simp only [Tryz.ntmps73, List.size_toArray, List.length_cons, List.length_nil, Nat.reduceAdd, Nat.reduceSub, Array.replicate_succ, Array.replicate_zero, List.push_toArray, List.append_toArray, List.nil_append, List.cons_append]
  gi_wp2_with fail
  refine ⟨trivial, (callsIn_wide.2 HALL.out).mono ?_⟩
  rintro e w1 ⟨Bs, L, rfl, hit, hf1, hL⟩
  have hB3 := hf1.heap HB3.out (by simp)
  have hB4 := hf1.heap HB4.out (by simp)
  have hB5 := hf1.heap HB5.out (by simp)
  have hF1 : Frm [] w w1 := HF0.out.trans hf1 (by simp)
  have hX := hF1.heap HX.out (by simp)
  have hV := HV.out.frm hF1 (by simp)
  have hLt := HV.out.lt
  have hsz1 := hF1.size
  have hszT := hf1.size
  simp only [World.size_alloc] at hszT hL
  have HL := Lib.hid hL
  have HIT := Lib.hid hit
  clear hf1 hcell0 hL hit
  gi_wp2_with fail
  refine wp_range_plain (gf := 112) (lb := #[.pointer (some ⟨Bs, 0, none⟩)]) rfl (enters_of Tryz.func112 (by kernel_rfl) rfl) HIT.out Keep.trans (Keep.refl L) (Keep.putObj (fun b hb => (HL.out b hb).2)) ?hps
    (fun k W => VecI W p fv ((mvd line by_ xs).take k ++ xs.drop k) ∧ W.heap[x]? = some (.cells c 94 (0, 0)) ∧ W.heap[w.heap.size]? = some (.cells #[.pointer (some ⟨x, 0, none⟩)] 57 (0, 0)) ∧ W.heap[w.heap.size + 1]? = some (.cells #[.int .i64 line] 3 (0, 0)) ∧ W.heap[w.heap.size + 2]? = some (.cells #[.int .i64 by_] 3 (0, 0)) ∧ Frm fv w W ∧ w1.heap.size ≤ W.heap.size)
    (fun _ _ _ => False) ?hI (fun _ _ _ _ h _ => h) ?h0 (fun k z => { tmps := #[.pointer (some ⟨x, 0, none⟩), .int .i64 line, .int .i64 by_, .pointer (some ⟨w.heap.size, 0, none⟩), .pointer (some ⟨w.heap.size + 1, 0, none⟩), .pointer (some ⟨w.heap.size + 1 + 1, 0, none⟩), z[0]?.getD undef, z[1]?.getD undef, .pointer (some ⟨x, 0, none⟩), .pointer (some ⟨x, 0, none⟩), .pointer (some ⟨x, 0, none⟩), .pointer (some ⟨p, 0, none⟩), .func (.func 112) #[] #[.pointer (some ⟨Bs, 0, none⟩)], z[0]?.getD undef, z[1]?.getD undef, undef, undef, undef, undef, undef, undef, undef, undef, undef, undef, undef, undef], defers := [] }) ?assign ?body ?done ?stop
  case hps =>
    intro z hz
    obtain ⟨k, hk⟩ := List.mem_iff_getElem?.1 hz
    obtain ⟨s, _, rfl⟩ := elemsI_inv hk
    rfl
  case hI =>
    rintro k X Y ⟨i1, i2, i3, i4, i5, i6, i7⟩ hE
    exact ⟨i1.ext hE, hE.cells i2, hE.cells i3, hE.cells i4, hE.cells i5, i6.ext hE hsz1, Nat.le_trans i7 hE.size⟩
  case h0 => exact ⟨by simpa using hV, hX, hB3, hB4, hB5, hF1.mono (by simp), Nat.le_refl _⟩
  case assign =>
    intro l k z W K hz hK
    obtain ⟨s, _, rfl⟩ := elemsI_inv hz
    gi_wp2
    exact hK
  case body =>
    rintro l k z W hz ⟨i1, i2, i3, i4, i5, i6, i7⟩
    obtain ⟨s, hs, rfl⟩ := elemsI_inv hz
    have hm := mvd_get (line := line) (by_ := by_) hs
    have hml := mvd_length line by_ xs
    have c0 := cell_of_heap i2 HC.out
    have c3 := cell_of_heap (i := 0) i3 rfl
    have c4 := cell_of_heap (i := 0) i4 rfl
    have c5 : W.cell? ⟨w.heap.size + 1 + 1, 0, none⟩ = some (.int .i64 by_) := cell_of_heap (i := 0) i5 rfl
    by_cases hlt : line < (k : Int)
    · rw [if_pos hlt] at hm
      have hk : k < xs.length := (List.getElem?_eq_some_iff.1 hs).1
      have hset := vecSetI W.drew p fv _ k (s + by_) i1 (by simp [hml]; omega)
      rw [set_take_drop _ _ k _ hml hm] at hset
      have hbs := HB.out s (List.mem_of_getElem? hs)
      have HSET := Lib.hid hset
      clear hset hm hml i1 hs hz
      have mixed : Tryz.prog.follows .mixedOrders = true := by kernel_rfl
      have hw1 : IntKind.i64.wrap (s + by_) = s + by_ := by rw [IntKind.wrap_i64]; omega
      gi_wp2_with fail
      refine wpIn_region_tail (wide_round l) 8 mixed (by kernel_rfl) (by kernel_rfl) ?_
      simp only [List.take_succ_cons, List.take_zero, List.drop_succ_cons, List.drop_zero]
      repeat still_step
      refine wpStill_nil ?_
      gi_wp2_with fail
      refine ⟨trivial, (CallsIn.inRound l (callsIn_wide.2 HSET.out)).mono ?_⟩
      rintro e W1 ⟨rfl, hv1, hf1⟩
      have HV1 := Lib.hid hv1
      have HF1 := Lib.hid hf1
      clear hv1 hf1
      gi_wp2_with fail
      have hf : Frm fv W W1 := (Frm.refl fv W).drew.trans HF1.out (fun x hx => .inl hx)
      have hfw : ∀ b ∈ fv, b < w.heap.size := hLt
      refine ⟨KeepsFrom.frm hf (fun b hb => .inl (by have := hfw b hb; omega)), Keep.frm hf (fun b hb => ⟨by have := (HL.out b hb).2; omega, fun hm => by have := hfw b hm; have := (HL.out b hb).1; omega⟩), HV1.out, ?_, ?_, ?_, ?_, ?_, ?_⟩
      · exact hf.heap i2 HXV.out
      · exact hf.heap i3 (fun hm => by have := hfw _ hm; omega)
      · exact hf.heap i4 (fun hm => by have := hfw _ hm; omega)
      · exact hf.heap i5 (fun hm => by have := hfw _ hm; omega)
      · exact i6.trans hf (fun x hx => .inl hx)
      · exact Nat.le_trans i7 hf.size
    · rw [if_neg hlt] at hm
      have he := same_take_drop _ _ k _ hml hm hs
      rw [he] at i1
      clear he hm hs hml hz
      gi_wp2
      exact ⟨KeepsFrom.refl _ _, Keep.refl _ _, i1, i2, i3, i4, i5, i6, i7⟩
  case done =>
    rintro D W hD ⟨i1, i2, i3, i4, i5, i6, i7⟩ hK
    gi_wp2
    refine ⟨by simp, .inl ⟨_, _, rfl, run_takeDeferred hK, ?_⟩⟩
    rw [elemsI_length, List.take_of_length_le (by rw [mvd_length]; exact Nat.le_refl _), List.drop_length, List.append_nil] at i1
    exact ⟨_, results_none rfl _ _ _, ⟨_, rfl⟩, i1.ext ((Ext.refl w1.heap.size _).putObj hK rfl hD _), i6.putObj (.inr (by omega)) _⟩
  case stop =>
    rintro D q k W _ _ h _
    exact h.elim

end Go.Proofs.YtnajkjgjeiodmaaGreatDoor
