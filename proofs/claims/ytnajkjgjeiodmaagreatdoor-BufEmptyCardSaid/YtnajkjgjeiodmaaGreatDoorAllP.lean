/-
  vec.Vec[foolscap/piece.piece].All: the iterator that it hands back tells each index and element, in order. Conditions: fewer than 2^40 elements.
-/
import Derived.Test.YtnajkjgjeiodmaaGreatDoorVedP
namespace Go.Proofs.YtnajkjgjeiodmaaGreatDoor.Pp
open Go.RowKit
open Go.Proofs (Tryz.prog)

attribute [local go_sem] Oper.semAt_some

def elemsP (zs : List (Bool × Int × Int)) : List (Array Value) := zs.mapIdx fun i x => #[.int .i64 i, .agg #[.bool x.1, .int .i64 x.2.1, .int .i64 x.2.2]]
theorem elemsP_length (zs : List (Bool × Int × Int)) : (elemsP zs).length = zs.length := by simp [elemsP]
theorem elemsP_get {zs : List (Bool × Int × Int)} {k : Nat} {z : Bool × Int × Int} (h : zs[k]? = some z) : (elemsP zs)[k]? = some #[.int .i64 k, .agg #[.bool z.1, .int .i64 z.2.1, .int .i64 z.2.2]] := by simp [elemsP, h]
theorem elemsP_inv {zs : List (Bool × Int × Int)} {k : Nat} {x : Array Value} (h : (elemsP zs)[k]? = some x) : ∃ z, zs[k]? = some z ∧ x = #[.int .i64 k, .agg #[.bool z.1, .int .i64 z.2.1, .int .i64 z.2.2]] := by
  rw [elemsP, List.getElem?_mapIdx] at h
  cases hz : zs[k]? with
  | none => simp [hz] at h
  | some z => exact ⟨z, rfl, by simpa [hz] using h.symm⟩

set_option maxRecDepth 100000 in
set_option maxHeartbeats 1000000 in
theorem allIterP (w : World) (Bs : Nat) (sv : Value) (zs : List (Bool × Int × Int)) (hBs : w.heap[Bs]? = some (.cells #[sv] 108 (0, 0))) (hr : w.ownsRow 0 87 3 sv zs.length (zs.flatMap encP)) (hn : zs.length ≤ 1099511627776) :
    IterOver Tryz.prog 99 #[.pointer (some ⟨Bs, 0, none⟩)] (elemsP zs) (Keep (Bs :: sv.ownBlock.toList)) w := by
  intro l J Jx W hW hJ hJx hY h0
  rw [elemsP_length]
  have hBs' := hW.cells hBs
  rcases hr.2 with ⟨rfl, hz0⟩ | ⟨g, c, cur, rfl, _, hg, h1, h2, h3, h4⟩
  · rw [hz0]
    have hc := cell_of_heap (i := 0) hBs' rfl
    refine callsIn_wide.1 (callsIn_of_wp (n := 3) Tryz.func99 rfl trivial ?_ rfl)
    simp only [Tryz.ntmps99, List.size_toArray, List.length_cons, List.length_nil, Nat.reduceAdd, Nat.reduceSub, Array.replicate_succ, Array.replicate_zero, List.push_toArray, List.append_toArray, List.nil_append, List.cons_append]
    clear hY hBs hBs' hr hz0 hW
    gi_wp2
    gi_loopw [7] (fun i wr => i = .int .i64 0 ∧ J 0 wr) (fun _ _ => 0)
    case atStart => exact ⟨rfl, h0⟩
    case round =>
      obtain ⟨rfl, hJs⟩ := hrel
      gi_wp2
      go_end0
      exact ⟨⟨_, rfl⟩, .inl hJs⟩
  · have hg' := hW.cells hg
    have hcs : ∀ k z, zs[k]? = some z → W.cell? ⟨g, k * 3, none⟩ = some (.bool z.1) ∧ W.cell? ⟨g, k * 3 + 1, none⟩ = some (.int .i64 z.2.1) ∧ W.cell? ⟨g, k * 3 + 2, none⟩ = some (.int .i64 z.2.2) := fun k z hz => by
      have hrow : W.ownsRow 0 87 3 (.slice (some ⟨g, 0, none⟩) zs.length c) zs.length (zs.flatMap encP) := ⟨hr.1, .inr ⟨g, c, cur, rfl, Nat.zero_le _, hg', h1, h2, h3, h4⟩⟩
      obtain ⟨e0, e1, e2⟩ := flatP_get zs k z hz
      have q0 := hrow.cells (g := g) rfl _ _ e0
      have q1 := hrow.cells (g := g) rfl _ _ e1
      have q2 := hrow.cells (g := g) rfl _ _ e2
      rw [Addr.add_lit] at q0 q1 q2
      exact ⟨by simpa using q0, by simpa using q1, by simpa using q2⟩
    have hc := cell_of_heap (i := 0) hBs' rfl
    have hY' := fun k z W1 (hz : zs[k]? = some z) hj => hY k _ W1 (elemsP_get hz) hj
    have hcells := hcs
    have HCS := Lib.hid hcells
    have HY := Lib.hid hY'
    have HJ := Lib.hid hJ
    have HJX := Lib.hid hJx
    clear hr hg h2 h3 h4 hY hY' hcs hcells hW hBs hJ hJx
    have HN := Lib.hid (show ∀ k, k < zs.length → ∃ z, zs[k]? = some z from fun k hk => ⟨_, List.getElem?_eq_getElem hk⟩)
    have HBS := Lib.hid hBs'
    have HG := Lib.hid hg'
    clear hBs' hg'
    generalize zs.length = n at *
    refine callsIn_wide.1 (callsIn_of_wp (n := 3) Tryz.func99 rfl trivial ?_ rfl)
    simp only [Tryz.ntmps99, List.size_toArray, List.length_cons, List.length_nil, Nat.reduceAdd, Nat.reduceSub, Array.replicate_succ, Array.replicate_zero, List.push_toArray, List.append_toArray, List.nil_append, List.cons_append]
    gi_wp2
    gi_loopw [7] (fun i wr => ∃ k : Nat, k ≤ n ∧ i = .int .i64 k ∧ J k wr ∧ Keep [Bs, g] W wr) (fun i _ => n - (intOf i).toNat)
    case atStart => exact ⟨0, Nat.zero_le _, rfl, h0, Keep.refl _ _⟩
    case round =>
      obtain ⟨k, hk, rfl, hJs, hkp⟩ := hrel
      by_cases hlt : k < n
      · obtain ⟨z, hz⟩ := HN.out k hlt
        obtain ⟨zb, zo, zn⟩ := z
        have hgk : wr.heap[g]? = W.heap[g]? := hkp g (by simp)
        obtain ⟨q0, q1, q2⟩ := HCS.out k _ hz
        have hcx0 : wr.cell? ⟨g, k * 3, none⟩ = some (.bool zb) := (World.cell?_of_block (show wr.heap[(⟨g, k * 3, none⟩ : Addr).block]? = W.heap[(⟨g, k * 3, none⟩ : Addr).block]? from hgk)).trans q0
        have hcx1 : wr.cell? ⟨g, k * 3 + 1, none⟩ = some (.int .i64 zo) := (World.cell?_of_block (show wr.heap[(⟨g, k * 3 + 1, none⟩ : Addr).block]? = W.heap[(⟨g, k * 3 + 1, none⟩ : Addr).block]? from hgk)).trans q1
        have hcx2 : wr.cell? ⟨g, k * 3 + 2, none⟩ = some (.int .i64 zn) := (World.cell?_of_block (show wr.heap[(⟨g, k * 3 + 2, none⟩ : Addr).block]? = W.heap[(⟨g, k * 3 + 2, none⟩ : Addr).block]? from hgk)).trans q2
        have hgl : g < wr.heap.size := World.block_lt_of_cell? wr _ hcx0
        have hbl : Bs < wr.heap.size := by
          have := hkp Bs (by simp)
          rw [HBS.out] at this
          exact lt_of_heap this
        have hext : Ext W.heap.size wr (wr.alloc (.cells #[.bool zb, .int .i64 zo, .int .i64 zn] 87)) := (Ext.refl _ wr).alloc _
        obtain ⟨fn, tmps, assign, body, hy, hR⟩ := HY.out k _ _ hz (HJ.out k _ _ hJs hext)
        have hkp2 : Keep [Bs, g] W (wr.alloc (.cells #[.bool zb, .int .i64 zo, .int .i64 zn] 87)) := hkp.trans (fun b hb => by
          rcases List.mem_cons.1 hb with rfl | hb
          · exact heap_alloc_below _ hbl
          · obtain rfl : b = g := by simpa using hb
            exact heap_alloc_below _ hgl)
        have HZ := Lib.hid hz
        have HR := Lib.hid hR
        have HKP := Lib.hid hkp2
        have HJS := Lib.hid hJs
        clear hz hR hkp hkp2 hJs hgk q0 q1 q2 hext
        gi_wp2
        refine (roundIn_any HR.out).mono ?_
        rintro e W3 (⟨rfl, hJ3, hk3, -⟩ | ⟨rfl, hJx3, -⟩)
        · have HJ3 := Lib.hid hJ3
          have HK3 := Lib.hid hk3
          clear hJ3 hk3
          gi_wp2
          go_roundw
          case rel => exact ⟨k + 1, by omega, by simp, HJ3.out, HKP.out.trans HK3.out⟩
          case measure => simp [intOf]; omega
        · gi_wp2
          refine bodyPost_ret (results_none rfl _ _ _) rfl ?_
          exact ⟨⟨_, rfl⟩, .inr ⟨k, hlt, hJx3⟩⟩
      · obtain rfl : k = n := by omega
        gi_wp2
        go_end0
        exact ⟨⟨_, rfl⟩, .inl hJs⟩

set_option maxHeartbeats 400000 in
theorem slAllP (w : World) (a : Option Addr) (n c : Nat) :
    Calls Tryz.prog 84 #[.slice a n c] w fun e w' => e = .returned (.func (.func 99) #[] #[.pointer (some ⟨w.heap.size, 0, none⟩)]) ∧ w.alloc (.cells #[.slice a n c] 108) = w' := by
  go_enter Tryz.func84, Tryz.ntmps84
  go_wp2
  go_ret
  exact ⟨rfl, rfl⟩

set_option maxHeartbeats 400000 in
theorem vecAllP (w : World) (p : Nat) (fp : List Nat) (xs : List (Bool × Int × Int)) (h : VecP w p fp xs) (hn : xs.length ≤ 1099511627776) :
    Calls Tryz.prog 61 #[.pointer (some ⟨p, 0, none⟩)] w fun e w' => ∃ Bs L, e = .returned (.func (.func 99) #[] #[.pointer (some ⟨Bs, 0, none⟩)]) ∧
      IterOver Tryz.prog 99 #[.pointer (some ⟨Bs, 0, none⟩)] (elemsP xs) (Keep L) w' ∧ Frm [] w w' ∧ (∀ b ∈ L, w.heap.size ≤ b ∧ b < w'.heap.size) ∧ ∀ b ∈ L, ∃ c t fz, w'.heap[b]? = some (.cells c t fz) := by
  obtain ⟨v, hp, hr, rfl⟩ := h
  have hpl := lt_of_heap hp
  have hclone : Calls Tryz.prog 69 #[v] w fun e w' => ∃ v', e = .returned v' ∧ w'.ownsRow w.heap.size 87 3 v' xs.length (xs.flatMap encP) ∧ Frm [] w w' := by
    rcases hr.2 with ⟨rfl, h0⟩ | ⟨g, c, cur, rfl, _, hg, h1, h2, h3, h4⟩
    · refine (cloneP_nil w).mono ?_
      rintro e w' ⟨rfl, rfl⟩
      have : xs = [] := List.eq_nil_of_length_eq_zero h0
      subst this
      exact ⟨_, rfl, World.ownsRow_nil _ _ _ _, Frm.refl _ _⟩
    · refine (cloneP w ⟨g, 0, none⟩ xs.length c _ hr.1 (hr.cells rfl) (encP_one _) hn).mono ?_
      rintro e w' ⟨g', c', rfl, h5, h6⟩
      exact ⟨_, rfl, h5, h6⟩
  obtain ⟨a, c, rfl, _, _⟩ := ownsRow_form hr
  have hcell := cell_of_heap (i := 0) hp rfl
  clear hp hr
  have HN := Lib.hid hn
  clear hn
  generalize hm : xs.length = n at *
  have HM := Lib.hid hm
  clear hm
  go_enter Tryz.func61, Tryz.ntmps61
  go_wp2_with fail
  refine hclone.mono ?_
  rintro e w1 ⟨v1, rfl, hr1, hf1⟩
  obtain ⟨a1, c1, rfl, _, _⟩ := ownsRow_form hr1
  have HR := Lib.hid hr1
  have HF := Lib.hid hf1
  clear hr1 hf1 hclone
  go_wp2_with (go_at_call 84; refine (slAllP _ _ _ _).mono ?_; rintro e w' ⟨rfl, rfl⟩)
  go_ret
  have hal := heap_alloc_at w1 (.cells #[.slice a1 n c1] 108)
  have hsz := HF.out.size
  refine ⟨w1.heap.size, w1.heap.size :: (Value.slice a1 n c1).ownBlock.toList, by simp, allIterP _ _ _ xs hal ?_ (by rw [HM.out]; exact HN.out), HF.out.alloc _, ?_, ?_⟩
  · rw [HM.out]
    have := HR.out.alloc (.cells #[.slice a1 n c1] 108)
    refine ⟨this.1, ?_⟩
    rcases this.2 with h | ⟨g, cap, cur, h1, _, h2⟩
    · exact .inl h
    · exact .inr ⟨g, cap, cur, h1, Nat.zero_le _, h2⟩
  · intro b hb
    simp only [World.size_alloc]
    rcases List.mem_cons.1 hb with rfl | hb
    · omega
    · have := HR.out.lt b (by simpa using hb)
      omega
  · intro b hb
    rcases List.mem_cons.1 hb with rfl | hb
    · exact ⟨_, _, _, hal⟩
    · rcases HR.out.2 with ⟨h, _⟩ | ⟨g, cap, cur, h, _, hg, _⟩
      · rw [h] at hb
        simp [Value.ownBlock] at hb
      · rw [h] at hb
        obtain rfl : b = g := by simpa [Value.ownBlock] using hb
        exact ⟨_, _, _, (heap_alloc_below _ (lt_of_heap hg)).trans hg⟩

end Go.Proofs.YtnajkjgjeiodmaaGreatDoor.Pp
