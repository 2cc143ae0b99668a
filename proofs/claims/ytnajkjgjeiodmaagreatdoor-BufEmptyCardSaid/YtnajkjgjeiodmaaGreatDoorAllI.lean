/-
  vec.Vec[int].All: the iterator that it hands back tells each index and element, in order. Conditions: fewer than 2^40 elements.
-/
import Derived.Test.YtnajkjgjeiodmaaGreatDoorVedI
namespace Go.Proofs.YtnajkjgjeiodmaaGreatDoor
open Go.RowKit
open Go.Proofs (Tryz.prog)

attribute [local go_sem] Oper.semAt_some

def elemsI (zs : List Int) : List (Array Value) := zs.mapIdx fun i x => #[.int .i64 i, .int .i64 x]
theorem elemsI_length (zs : List Int) : (elemsI zs).length = zs.length := by simp [elemsI]
theorem elemsI_get {zs : List Int} {k : Nat} {z : Int} (h : zs[k]? = some z) : (elemsI zs)[k]? = some #[.int .i64 k, .int .i64 z] := by simp [elemsI, h]
theorem elemsI_inv {zs : List Int} {k : Nat} {x : Array Value} (h : (elemsI zs)[k]? = some x) : ∃ z, zs[k]? = some z ∧ x = #[.int .i64 k, .int .i64 z] := by
  rw [elemsI, List.getElem?_mapIdx] at h
  cases hz : zs[k]? with
  | none => simp [hz] at h
  | some z => exact ⟨z, rfl, by simpa [hz] using h.symm⟩

set_option maxRecDepth 100000 in
set_option maxHeartbeats 1000000 in
theorem allIterI (w : World) (Bs : Nat) (sv : Value) (zs : List Int) (hBs : w.heap[Bs]? = some (.cells #[sv] 113 (0, 0))) (hr : w.ownsRow 0 3 1 sv zs.length (zs.flatMap encI)) (hn : zs.length ≤ 1099511627776) :
    IterOver Tryz.prog 112 #[.pointer (some ⟨Bs, 0, none⟩)] (elemsI zs) (Keep (Bs :: sv.ownBlock.toList)) w := by
  intro l J Jx W hW hJ hJx hY h0
  rw [elemsI_length]
  have hBs' := hW.cells hBs
  rcases hr.2 with ⟨rfl, hz0⟩ | ⟨g, c, cur, rfl, _, hg, h1, h2, h3, h4⟩
  · rw [hz0]
    have hc := cell_of_heap (i := 0) hBs' rfl
    refine callsIn_wide.1 (callsIn_of_wp (n := 3) Tryz.func112 rfl trivial ?_ rfl)
    simp only [Tryz.ntmps112, List.size_toArray, List.length_cons, List.length_nil, Nat.reduceAdd, Nat.reduceSub, Array.replicate_succ, Array.replicate_zero, List.push_toArray, List.append_toArray, List.nil_append, List.cons_append]
    clear hY hBs hBs' hr hz0 hW
    gi_wp2
    gi_loopw [7] (fun i wr => i = .int .i64 0 ∧ J 0 wr) (fun _ _ => 0)
    case atStart => exact ⟨rfl, h0⟩
    case round =>
      obtain ⟨rfl, hJs⟩ := hrel
      gi_wp2
      go_end0
      exact ⟨⟨_, rfl⟩, .inl hJs⟩
  · have hg' := hW.cells hg
    have hcs : ∀ k z, zs[k]? = some z → W.cell? ⟨g, k, none⟩ = some (.int .i64 z) := fun k z hz => by
      have hrow : W.ownsRow 0 3 1 (.slice (some ⟨g, 0, none⟩) zs.length c) zs.length (zs.flatMap encI) := ⟨hr.1, .inr ⟨g, c, cur, rfl, Nat.zero_le _, hg', h1, h2, h3, h4⟩⟩
      have e : ∀ ys : List Int, ys.flatMap encI = ys.map (Value.int .i64) := fun ys => by
        induction ys with
        | nil => rfl
        | cons y ys ih => rw [List.flatMap_cons, ih]; rfl
      have := hrow.cells (g := g) rfl k (.int .i64 z) (by rw [e, List.getElem?_map, hz]; rfl)
      rw [Addr.add_lit] at this
      simpa using this
    have hc := cell_of_heap (i := 0) hBs' rfl
    have hY' := fun k z W1 (hz : zs[k]? = some z) hj => hY k _ W1 (elemsI_get hz) hj
    have hcells := hcs
    have HCS := Lib.hid hcells
    have HY := Lib.hid hY'
    have HJ := Lib.hid hJ
    have HJX := Lib.hid hJx
    clear hr hg h2 h3 h4 hY hY' hcs hcells hW hBs hJ hJx
    have HN := Lib.hid (show ∀ k, k < zs.length → ∃ z, zs[k]? = some z from fun k hk => ⟨_, List.getElem?_eq_getElem hk⟩)
    have HBS := Lib.hid hBs'
    have HG := Lib.hid hg'
    clear hBs' hg'
    generalize zs.length = n at *
    refine callsIn_wide.1 (callsIn_of_wp (n := 3) Tryz.func112 rfl trivial ?_ rfl)
    simp only [Tryz.ntmps112, List.size_toArray, List.length_cons, List.length_nil, Nat.reduceAdd, Nat.reduceSub, Array.replicate_succ, Array.replicate_zero, List.push_toArray, List.append_toArray, List.nil_append, List.cons_append]
    gi_wp2
    gi_loopw [7] (fun i wr => ∃ k : Nat, k ≤ n ∧ i = .int .i64 k ∧ J k wr ∧ Keep [Bs, g] W wr) (fun i _ => n - (intOf i).toNat)
    case atStart => exact ⟨0, Nat.zero_le _, rfl, h0, Keep.refl _ _⟩
    case round =>
      obtain ⟨k, hk, rfl, hJs, hkp⟩ := hrel
      by_cases hlt : k < n
      · obtain ⟨z, hz⟩ := HN.out k hlt
        have hcx : wr.cell? ⟨g, k, none⟩ = some (.int .i64 z) := (World.cell?_of_block (show wr.heap[(⟨g, k, none⟩ : Addr).block]? = W.heap[(⟨g, k, none⟩ : Addr).block]? from hkp g (by simp))).trans (HCS.out k z hz)
        obtain ⟨fn, tmps, assign, body, hy, hR⟩ := HY.out k z wr hz hJs
        have HZ := Lib.hid hz
        have HR := Lib.hid hR
        have HKP := Lib.hid hkp
        have HJS := Lib.hid hJs
        clear hz hR hkp hJs
        gi_wp2
        refine (roundIn_any HR.out).mono ?_
        rintro e W3 (⟨rfl, hJ3, hk3, -⟩ | ⟨rfl, hJx3, -⟩)
        · have HJ3 := Lib.hid hJ3
          have HK3 := Lib.hid hk3
          clear hJ3 hk3
          gi_wp2
          go_roundw
          case rel => exact ⟨k + 1, by omega, by simp, HJ3.out, HKP.out.trans HK3.out⟩
          case measure => simp [intOf]; omega
        · gi_wp2
          refine bodyPost_ret (results_none rfl _ _ _) rfl ?_
          exact ⟨⟨_, rfl⟩, .inr ⟨k, hlt, hJx3⟩⟩
      · obtain rfl : k = n := by omega
        gi_wp2
        go_end0
        exact ⟨⟨_, rfl⟩, .inl hJs⟩

set_option maxHeartbeats 400000 in
theorem slAllI (w : World) (a : Option Addr) (n c : Nat) :
    Calls Tryz.prog 105 #[.slice a n c] w fun e w' => e = .returned (.func (.func 112) #[] #[.pointer (some ⟨w.heap.size, 0, none⟩)]) ∧ w.alloc (.cells #[.slice a n c] 113) = w' := by
  go_enter Tryz.func105, Tryz.ntmps105
  go_wp2
  go_ret
  exact ⟨rfl, rfl⟩

set_option maxHeartbeats 400000 in
theorem vecAllI (w : World) (p : Nat) (fp : List Nat) (xs : List Int) (h : VecI w p fp xs) (hn : xs.length ≤ 1099511627776) :
    Calls Tryz.prog 90 #[.pointer (some ⟨p, 0, none⟩)] w fun e w' => ∃ Bs L, e = .returned (.func (.func 112) #[] #[.pointer (some ⟨Bs, 0, none⟩)]) ∧
      IterOver Tryz.prog 112 #[.pointer (some ⟨Bs, 0, none⟩)] (elemsI xs) (Keep L) w' ∧ Frm [] w w' ∧ ∀ b ∈ L, w.heap.size ≤ b ∧ b < w'.heap.size := by
  obtain ⟨v, hp, hr, rfl⟩ := h
  have hpl := lt_of_heap hp
  have hclone : Calls Tryz.prog 71 #[v] w fun e w' => ∃ v', e = .returned v' ∧ w'.ownsRow w.heap.size 3 1 v' xs.length (xs.flatMap encI) ∧ Frm [] w w' := by
    rcases hr.2 with ⟨rfl, h0⟩ | ⟨g, c, cur, rfl, _, hg, h1, h2, h3, h4⟩
    · refine (cloneI_nil w).mono ?_
      rintro e w' ⟨rfl, rfl⟩
      have : xs = [] := List.eq_nil_of_length_eq_zero h0
      subst this
      exact ⟨_, rfl, World.ownsRow_nil _ _ _ _, Frm.refl _ _⟩
    · refine (cloneI w ⟨g, 0, none⟩ xs.length c _ hr.1 (hr.cells rfl) (encI_one _) hn).mono ?_
      rintro e w' ⟨g', c', rfl, h5, h6⟩
      exact ⟨_, rfl, h5, h6⟩
  obtain ⟨a, c, rfl, _, _⟩ := ownsRow_form hr
  have hcell := cell_of_heap (i := 0) hp rfl
  clear hp hr
  have HN := Lib.hid hn
  clear hn
  generalize hm : xs.length = n at *
  have HM := Lib.hid hm
  clear hm
  go_enter Tryz.func90, Tryz.ntmps90
  go_wp2_with fail
  refine hclone.mono ?_
  rintro e w1 ⟨v1, rfl, hr1, hf1⟩
  obtain ⟨a1, c1, rfl, _, _⟩ := ownsRow_form hr1
  have HR := Lib.hid hr1
  have HF := Lib.hid hf1
  clear hr1 hf1 hclone
  go_wp2_with (go_at_call 105; refine (slAllI _ _ _ _).mono ?_; rintro e w' ⟨rfl, rfl⟩)
  go_ret
  have hal := heap_alloc_at w1 (.cells #[.slice a1 n c1] 113)
  have hsz := HF.out.size
  refine ⟨w1.heap.size, w1.heap.size :: (Value.slice a1 n c1).ownBlock.toList, by simp, allIterI _ _ _ xs hal ?_ (by rw [HM.out]; exact HN.out), HF.out.alloc _, ?_⟩
  · rw [HM.out]
    have := HR.out.alloc (.cells #[.slice a1 n c1] 113)
    refine ⟨this.1, ?_⟩
    rcases this.2 with h | ⟨g, cap, cur, h1, _, h2⟩
    · exact .inl h
    · exact .inr ⟨g, cap, cur, h1, Nat.zero_le _, h2⟩
  · intro b hb
    simp only [World.size_alloc]
    rcases List.mem_cons.1 hb with rfl | hb
    · omega
    · have := HR.out.lt b (by simpa using hb)
      omega

end Go.Proofs.YtnajkjgjeiodmaaGreatDoor
