/-
  CONTRACTS OF slices.Clone, slices.Insert, slices.Delete AT []piece.piece, over the flat list of cells that a slice owns. Conditions: fewer than 2^40 elements; the values that are put in lie in another block.
-/
import Derived.Test.YtnajkjgjeiodmaaGreatDoorBase
import Derived.Test.YtnajkjgjeiodmaaGreatDoorProg
import Derived.StillTailTactics
namespace Go.Proofs.YtnajkjgjeiodmaaGreatDoor.Pp
open Go.RowKit
open Go.Proofs (Tryz.prog)

theorem infoP : (Tryz.prog.info? 87).map (fun i => (i.zero, i.size, i.bytes)) = some (some (Value.agg #[.bool false, .int .i64 0, .int .i64 0]), 3, 24) := by kernel_rfl

set_option maxHeartbeats 400000 in
theorem cloneP_nil (w : World) : Calls Tryz.prog 69 #[.slice none 0 0] w fun e w' => e = .returned (.slice none 0 0) ∧ w = w' := by
  have heq := fun w => Lib.run_eql_slice_nil (P := Tryz.prog) w 108 87 none 0 0 0 0 Tryz.underlying108
  go_enter Tryz.func69, Tryz.ntmps69
  go_wp2
  go_ret
  exact ⟨rfl, rfl⟩

set_option maxHeartbeats 400000 in
theorem cloneP (w : World) (a : Addr) (n c : Nat) (cs : List Value) (hl : cs.length = n * 3) (hrd : ∀ j u, cs[j]? = some u → w.cell? (a.add j) = some u) (h1 : ∀ u ∈ cs, u.oneCell' = true) (hn : n ≤ 1099511627776) :
    Calls Tryz.prog 69 #[.slice (some a) n c] w fun e w' => ∃ g c', e = .returned (.slice (some ⟨g, 0, none⟩) n c') ∧ w'.ownsRow w.heap.size 87 3 (.slice (some ⟨g, 0, none⟩) n c') n cs ∧ Frm [] w w' := by
  have heq := fun w => Lib.run_eql_slice_nil (P := Tryz.prog) w 108 87 (some a) n c 0 0 Tryz.underlying108
  obtain ⟨i0, hi, hz0, hz1, hz2⟩ := info_parts infoP
  have hm : n ≤ maxLen := by unfold maxLen; omega
  have hown : (w.alloc (.cells #[] 87)).ownsRow w.heap.size 87 3 (.slice (some ⟨w.heap.size, 0, none⟩) 0 0) 0 [] := World.ownsRow_made w #[] 0 (Nat.le_refl _) (by unfold maxLen; omega) (by simp)
  have hrd' : ∀ j u, cs[j]? = some u → (w.alloc (.cells #[] 87)).cell? (a.add j) = some u := fun j u hj => by
    have := World.block_lt_of_cell? w _ (hrd j u hj)
    rw [World.cell?_alloc_lt _ _ _ this]; exact hrd j u hj
  go_enter Tryz.func69, Tryz.ntmps69
  go_wp2_with (at_builtin; refine wpList_append_own _ rfl _ _ 108 rfl w.heap.size 87 i0 (Value.agg #[.bool false, .int .i64 0, .int .i64 0]) 3 24 Tryz.underlying108 hi hz0 hz1 hz2 rfl (by decide) _ _ _ rfl hown a n c cs rfl hl hrd' h1 ?_ ?_ ?_ ?_)
  case refine_1 => unfold maxLen; omega
  case refine_2 => omega
  case refine_3 => simp
  intro v' w1 hown1 hg1 hnil
  rcases hown1.2 with ⟨rfl, _⟩ | ⟨g, c', cur, rfl, h2⟩
  · simp at hnil
  go_wp2
  go_ret
  refine ⟨g, c', ?_, ?_, ?_⟩
  · simp
  · simpa using hown1
  · exact ((Frm.refl [] w).alloc _).grown hg1 (by intro k hk; simp [Value.ownBlock] at hk; right; omega)

/-! ### slices.Insert -/
set_option maxHeartbeats 400000 in
theorem insertP_none (w : World) (a : Option Addr) (n c i : Nat) (vv : Value) (hv : ∃ b cc, vv = .slice b 0 cc) (hi : i ≤ n) :
    Calls Tryz.prog 70 #[.slice a n c, .int .i64 i, vv] w fun e w' => e = .returned (.slice a n c) ∧ w = w' := by
  obtain ⟨b, cc, rfl⟩ := hv
  go_enter Tryz.func70, Tryz.ntmps70
  go_wp2
  all_goals
    go_ret
    exact ⟨rfl, rfl⟩

set_option maxRecDepth 100000 in
set_option maxHeartbeats 800000 in
theorem insertP_end (w : World) (a : Option Addr) (n c m : Nat) (vv : Value) (xs ys : List Value) (hs : w.ownsRow 0 87 3 (.slice a n c) n xs) (hv : w.ownsRow 0 87 3 vv m ys) (hm : 0 < m) (h1 : ∀ u ∈ ys, u.oneCell' = true) (hn : n + m ≤ 1099511627776) :
    Calls Tryz.prog 70 #[.slice a n c, .int .i64 n, vv] w fun e w' => ∃ v', e = .returned v' ∧ w'.ownsRow 0 87 3 v' (n + m) (xs ++ ys) ∧ Frm (Value.slice a n c).ownBlock.toList w w' ∧ (∀ k, v'.ownBlock = some k → some k = (Value.slice a n c).ownBlock ∨ k = w.heap.size) := by
  rcases hv.2 with ⟨_, h0⟩ | ⟨h, mc, curv, rfl, _, hh, hmc, _, _, htk⟩
  · omega
  obtain ⟨i0, hi, hz0, hz1, hz2⟩ := info_parts infoP
  have hrd := Rd.ofOwn hv
  have hb : ¬ ((m : Int) = 0) := by omega
  go_enter Tryz.func70, Tryz.ntmps70
  rcases (by omega : n = c ∨ ¬ c = n) with rfl | hcn
  all_goals
    go_wp2_with (at_builtin; refine wpList_append_row rfl (.tmp 23) (.tmp 24) 108 rfl 0 87 i0 (Value.agg #[.bool false, .int .i64 0, .int .i64 0]) 3 24 Tryz.underlying108 hi hz0 hz1 hz2 rfl (by decide) _ n xs rfl hs _ m ys rfl hrd hv.1 h1 (by unfold maxLen; omega) (by omega) (Nat.zero_le _) ?_)
    intro v' w1 hown1 hf1 hb1 hnil
    go_wp2
    go_ret
    exact ⟨v', by simp, hown1, hf1, hb1⟩

theorem mul_le_of {i n s : Nat} (h : i ≤ n) : i * s ≤ n * s := Nat.mul_le_mul_right s h

set_option maxRecDepth 100000 in
set_option maxHeartbeats 1600000 in
theorem insertP_room (w : World) (g h n c m mc i : Nat) (cur curv : Array Value) (xs ys : List Value) (hg : w.heap[g]? = some (.cells cur 87 (0, 0))) (hcs : cur.size = c * 3) (hx : cur.toList.take (n * 3) = xs)
    (hh : w.heap[h]? = some (.cells curv 87 (0, 0))) (hy : curv.toList.take (m * 3) = ys) (hyl : ys.length = m * 3) (hgh : h ≠ g) (hi : i < n) (hm : 0 < m) (hc : n + m ≤ c) (hcm : c ≤ maxLen) (h1x : ∀ u ∈ xs, u.oneCell' = true) (h1 : ∀ u ∈ ys, u.oneCell' = true) (hn : n + m ≤ 1099511627776) :
    Calls Tryz.prog 70 #[.slice (some ⟨g, 0, none⟩) n c, .int .i64 i, .slice (some ⟨h, 0, none⟩) m mc] w fun e w' => e = .returned (.slice (some ⟨g, 0, none⟩) (n + m) c) ∧
      (∃ cur', w'.heap[g]? = some (.cells cur' 87 (0, 0)) ∧ cur'.size = c * 3 ∧ cur'.toList.take ((n + m) * 3) = xs.take (i * 3) ++ ys ++ xs.drop (i * 3)) ∧ Frm [g] w w' := by
  have hxl : xs.length = n * 3 := by rw [← hx]; simp [hcs]; omega
  unfold maxLen at hcm
  have hb : ¬ ((m : Int) = 0) := by omega
  have hb2 : ¬ ((i : Int) = (n : Int)) := by omega
  have hb3 : ¬ (c = 0) := by omega
  have hb4 : ¬ (c = i + m) := by omega
  have hb5 : ¬ (c = i) := by omega
  have hb6 : (0 : Int) ≤ (i : Int) + (m : Int) := by omega
  have hb7 : (i : Int) + (m : Int) ≤ (n : Int) + (m : Int) := by omega
  have hb8 : ((i : Int) + (m : Int)).toNat = i + m := by omega
  have hb9 : ((n : Int) + (m : Int)).toNat = n + m := by omega
  have hb10 : ¬ ((c : Int) < (n : Int) + (m : Int)) := by omega
  have hw1 : IntKind.i64.wrap ((i : Int) + (m : Int)) = (i : Int) + (m : Int) := by rw [IntKind.wrap_i64]; omega
  have hb11 : (i : Int) ≤ (n : Int) + (m : Int) := by omega
  have hsz : (Tryz.prog.info? 87).map (·.size) = some 3 := by
    obtain ⟨i0, hi0, h0, h1, h2⟩ := info_parts infoP
    rw [hi0]; simp [h1]
  have hsr : ∀ w, (Go.sizeOf 87).run Tryz.prog w = .ok 3 w := fun w => by kernel_rfl
  have hov : ∀ lb cb, (callFunc 88 #[.slice (some ⟨h, 0, none⟩) m mc, .slice (some ⟨g, (i + m) * 3, none⟩) lb cb]).run Tryz.prog w = .ok (.value (.bool false)) w := fun lb cb => by
    rw [run_callFunc_extern Tryz.func88 (by kernel_rfl) (by kernel_rfl) (by kernel_rfl) (e := Extern.SlicesOverlaps.overlaps #[108, 108] #[4]) (by kernel_rfl),
      Lib.run_overlaps_apart w 108 4 87 Tryz.underlying108 3 hsr ⟨h, 0, none⟩ ⟨g, (i + m) * 3, none⟩ m mc lb cb hgh 87 87 curv.size cur.size (by simp [World.shape?, hh]) (by simp [World.shape?, hg]) (by omega) (frozen_of_heap 0 hh) (frozen_of_heap _ hh)]
    rfl
  try simp only [Nat.mul_one] at hov
  have mixed : Tryz.prog.follows .mixedOrders = true := by kernel_rfl
  obtain ⟨ib, hib⟩ : ∃ ib, ib = i * 3 := ⟨_, rfl⟩
  obtain ⟨imb, himb⟩ : ∃ imb, imb = (i + m) * 3 := ⟨_, rfl⟩
  obtain ⟨tail, htl⟩ : ∃ tail, tail = xs.drop ib := ⟨_, rfl⟩
  have hibl : ib ≤ xs.length := by omega
  have himl : imb = ib + ys.length := by omega
  have hfit : xs.length + ys.length ≤ cur.size := by omega
  have htll : tail.length = (n - i) * 3 := by rw [htl, List.length_drop]; omega
  have htot : (n + m) * 3 = xs.length + ys.length := by omega
  have hxc : cur.toList.take xs.length = xs := by rw [hxl]; exact hx
  have hcur : ∀ j v, tail[j]? = some v → cur[ib + j]? = some v := fun j v hj => by
    rw [htl, List.getElem?_drop, ← hxc, List.getElem?_take] at hj
    split at hj
    · simpa using hj
    · cases hj
  have h1t : ∀ u ∈ tail, u.oneCell' = true := by rw [htl]; exact oneCell_drop h1x _
  have htr : ∀ w' : World, w'.heap[g]? = some (.cells cur 87 (0, 0)) → ∀ j v, tail[j]? = some v → w'.cell? ((⟨g, ib, none⟩ : Addr).add j) = some v := fun w' hg' => read_block hg' _ _ hcur
  have hyr : ∀ w' : World, w'.heap[h]? = some (.cells curv 87 (0, 0)) → ∀ j v, ys[j]? = some v → w'.cell? ((⟨h, 0, none⟩ : Addr).add j) = some v := fun w' hh' => read_block hh' _ _ (fun j v hj => by
    rw [← hy, List.getElem?_take] at hj
    split at hj
    · simpa using hj
    · cases hj)
  have hf1 : imb + tail.length ≤ cur.size := by omega
  have hs1 : (overlay cur imb tail).size = cur.size := overlay_size hf1
  have hf2 : ib + ys.length ≤ (overlay cur imb tail).size := by omega
  have hfin : (overlay (overlay cur imb tail) ib ys).toList.take ((n + m) * 3) = xs.take (i * 3) ++ ys ++ xs.drop (i * 3) := by
    rw [htot, htl, ← hib]; exact overlay_two cur xs ys ib imb hxc hibl himl hfit
  have hfs : (overlay (overlay cur imb tail) ib ys).size = c * 3 := by rw [overlay_size hf2, hs1, hcs]
  have HG := Lib.hid hg
  have HH := Lib.hid hh
  have HIB := Lib.hid hib
  have HIMB := Lib.hid himb
  have HTLL := Lib.hid htll
  have HYL := Lib.hid hyl
  have HTR := Lib.hid htr
  have HYR := Lib.hid hyr
  have HFIN := Lib.hid hfin
  have HFS := Lib.hid hfs
  clear hg hh hx hy hyl hxl hcs hib himb htl hibl himl hfit htll htot hxc hcur htr hyr hs1 hfin hfs
  go_enter Tryz.func70, Tryz.ntmps70
  go_wp2_with (simp only [hov])
  go_still_tail 8, mixed
  refine wpList_copy_blk rfl (.tmp 73) (.tmp 76) 108 108 rfl 87 3 Tryz.underlying108 hsz g imb (n + m - (i + m)) (c - (i + m)) ⟨g, ib, none⟩ (n + m - i) (c - i) (by simp [Act.eval, Act.put, HIMB.out]) (by simp [Act.eval, Act.put, HIB.out]) cur 87 HG.out tail (n - i) (by simp only [Nat.min_def]; split <;> omega) HTLL.out (HTR.out _ HG.out) hf1 h1t ?_
  intro w1 hg1 hf1
  have hh1 := hf1.heap HH.out (by simp [hgh])
  have HG1 := Lib.hid hg1
  have HF1 := Lib.hid hf1
  have HYR1 := Lib.hid (HYR.out _ hh1)
  clear hg1 hf1 hh1
  go_wp2_with (with_reducible refine wpList_copy_blk (o := ⟨some 82, _, _, _, _, _⟩) rfl (.tmp 80) (.tmp 81) 108 108 rfl 87 3 Tryz.underlying108 hsz g ib (n + m - i) (c - i) ⟨h, 0, none⟩ m mc ?_ ?_ (overlay cur imb tail) 87 HG1.out ys m ?_ HYL.out HYR1.out hf2 h1 ?_)
  · simp [Act.eval, HIB.out]
  · simp [Act.eval]
  · simp only [Nat.min_def]; split <;> omega
  intro w2 hg2 hf2
  have HG2 := Lib.hid hg2
  have HF2 := Lib.hid hf2
  clear hg2 hf2
  go_wp2
  go_ret
  exact ⟨by simp, ⟨_, HG2.out, HFS.out, HFIN.out⟩, ((Frm.refl [g] w).drew.trans HF1.out (by simp)).trans HF2.out (by simp)⟩

set_option maxRecDepth 100000 in
set_option maxHeartbeats 1600000 in
theorem insertP_grow (w : World) (g h n c m mc i : Nat) (cur curv : Array Value) (xs ys : List Value) (hg : w.heap[g]? = some (.cells cur 87 (0, 0))) (hcs : cur.size = c * 3) (hx : cur.toList.take (n * 3) = xs)
    (hh : w.heap[h]? = some (.cells curv 87 (0, 0))) (hy : curv.toList.take (m * 3) = ys) (hyl : ys.length = m * 3) (hi : i < n) (hnc : n ≤ c) (hm : 0 < m) (hc : c < n + m) (h1x : ∀ u ∈ xs, u.oneCell' = true) (h1 : ∀ u ∈ ys, u.oneCell' = true) (hn : n + m ≤ 1099511627776) :
    Calls Tryz.prog 70 #[.slice (some ⟨g, 0, none⟩) n c, .int .i64 i, .slice (some ⟨h, 0, none⟩) m mc] w fun e w' => ∃ G, e = .returned (.slice (some ⟨w.heap.size, 0, none⟩) (n + m) G) ∧
      (∃ cur', w'.heap[w.heap.size]? = some (.cells cur' 87 (0, 0)) ∧ n + m ≤ G ∧ G ≤ maxLen ∧ cur'.size = G * 3 ∧ cur'.toList.take ((n + m) * 3) = xs.take (i * 3) ++ ys ++ xs.drop (i * 3)) ∧ Frm [] w w' := by
  have hxl : xs.length = n * 3 := by rw [← hx]; simp [hcs]; omega
  obtain ⟨i0, hi0, hz0, hzs, hzb⟩ := info_parts infoP
  have hb : ¬ ((m : Int) = 0) := by omega
  have hb2 : ¬ ((i : Int) = (n : Int)) := by omega
  have hb3 : ¬ (c = 0) := by omega
  have hb5 : ¬ (c = i) := by omega
  have hb6 : (0 : Int) ≤ (i : Int) + (m : Int) := by omega
  have hb7 : (i : Int) + (m : Int) ≤ (n : Int) + (m : Int) := by omega
  have hb8 : ((i : Int) + (m : Int)).toNat = i + m := by omega
  have hb10 : (c : Int) < (n : Int) + (m : Int) := by omega
  have hw1 : IntKind.i64.wrap ((i : Int) + (m : Int)) = (i : Int) + (m : Int) := by rw [IntKind.wrap_i64]; omega
  have hb11 : (i : Int) ≤ (n : Int) + (m : Int) := by omega
  have hb12 : (i : Int) ≤ (n : Int) := by omega
  have hkk : (n : Int) + (m : Int) - (i : Int) = ((n + m - i : Nat) : Int) := by omega
  have hik : i + (n + m - i) = n + m := by omega
  have hsz : (Tryz.prog.info? 87).map (·.size) = some 3 := by rw [hi0]; simp [hzs]
  have mixed : Tryz.prog.follows .mixedOrders = true := by kernel_rfl
  obtain ⟨ib, hib⟩ : ∃ ib, ib = i * 3 := ⟨_, rfl⟩
  obtain ⟨imb, himb⟩ : ∃ imb, imb = (i + m) * 3 := ⟨_, rfl⟩
  obtain ⟨tail, htl⟩ : ∃ tail, tail = xs.drop ib := ⟨_, rfl⟩
  obtain ⟨X, hX⟩ : ∃ X, X = xs.take ib := ⟨_, rfl⟩
  have hXl : X.length = ib := by rw [hX, List.length_take]; omega
  have himl : imb = ib + ys.length := by omega
  have htll : tail.length = (n - i) * 3 := by rw [htl, List.length_drop]; omega
  have htot : (n + m) * 3 = imb + tail.length := by omega
  have hxc : cur.toList.take xs.length = xs := by rw [hxl]; exact hx
  have hcx : ∀ j v, xs[j]? = some v → cur[j]? = some v := fun j v hj => by
    rw [← hxc, List.getElem?_take] at hj
    split at hj
    · simpa using hj
    · cases hj
  have h1t : ∀ u ∈ tail, u.oneCell' = true := by rw [htl]; exact oneCell_drop h1x _
  have htr : ∀ w' : World, w'.heap[g]? = some (.cells cur 87 (0, 0)) → ∀ j v, tail[j]? = some v → w'.cell? ((⟨g, ib, none⟩ : Addr).add j) = some v := fun w' hg' => read_block hg' _ _ (fun j v hj => hcx _ _ (by rw [htl, List.getElem?_drop] at hj; exact hj))
  have hyr : ∀ w' : World, w'.heap[h]? = some (.cells curv 87 (0, 0)) → ∀ j v, ys[j]? = some v → w'.cell? ((⟨h, 0, none⟩ : Addr).add j) = some v := fun w' hh' => read_block hh' _ _ (fun j v hj => by
    rw [← hy, List.getElem?_take] at hj
    split at hj
    · simpa using hj
    · cases hj)
  have hold : (Builtin.firstCells i0.size i (.slice (some ⟨g, 0, none⟩) i c)).run Tryz.prog w.drew = .ok X.toArray w.drew := by
    rw [hzs]
    exact run_firstCells_some w.drew 3 i ⟨g, 0, none⟩ i c X (by rw [hXl, hib]) (fun j v hj => read_block (w := w.drew) hg 0 X (fun j v hj => by
      rw [hX, List.getElem?_take] at hj
      split at hj
      · rw [Nat.zero_add]; exact hcx _ _ hj
      · cases hj) j v hj)
  obtain ⟨G, hG⟩ : ∃ G, G = grownCap w (n + m) c 87 := ⟨_, rfl⟩
  obtain ⟨row, hrow⟩ : ∃ row : Array Value, row = X.toArray ++ Builtin.zeroCells (Value.agg #[.bool false, .int .i64 0, .int .i64 0]).cells (n + m - i) ++ Builtin.zeroCells (Value.agg #[.bool false, .int .i64 0, .int .i64 0]).cells (G - (n + m)) := ⟨_, rfl⟩
  have hrz : ∀ ty, (Builtin.append_ #[108, 3] ty #[.slice (some ⟨g, 0, none⟩) i c, .int .i64 ((n : Int) + (m : Int) - (i : Int))]).run Tryz.prog w =
      .ok (.slice (some ⟨w.heap.size, 0, none⟩) (n + m) G) (w.drew.alloc (.cells row 87)) := fun ty => by
    have h := Lib.run_append_grow_zeros w 108 3 ty 87 i0 _ .i64 .i64 Tryz.underlying108 Tryz.underlying3 hi0 hz0 (some ⟨g, 0, none⟩) i c X hold (n + m - i) (by omega) (by omega) (by omega) (by omega) (by rw [hzb]; omega) (by rw [hzb, hik]; exact growslice_fits hc (by omega))
    rw [hik, ← hG, ← hrow] at h
    rw [hkk]
    exact h
  have hGn : n + m ≤ G := by rw [hG]; exact grownCap_ge w _ _ _
  have hGm : G ≤ maxLen := by rw [hG]; exact grownCap_le_maxLen w (n + m) c 87 (by unfold maxLen; omega)
  have hrs : row.size = G * 3 := by
    rw [hrow]
    simp [size_zeroCells, Value.cells, hXl]
    omega
  have hrx : row.toList.take ib = X := by
    rw [hrow]
    simp only [Array.toList_append, List.append_assoc]
    rw [List.take_append_of_le_length (by omega), List.take_of_length_le (by omega)]
  have hf0 : ib + ys.length ≤ row.size := by omega
  have hs1 : (overlay row ib ys).size = row.size := overlay_size hf0
  have hf1 : imb + tail.length ≤ (overlay row ib ys).size := by omega
  have hfin : (overlay (overlay row ib ys) imb tail).toList.take ((n + m) * 3) = xs.take (i * 3) ++ ys ++ xs.drop (i * 3) := by
    rw [htot, overlay_grow row X ys tail ib imb hrx hXl himl (by omega), hX, htl, ← hib]
  have hfs : (overlay (overlay row ib ys) imb tail).size = G * 3 := by rw [overlay_size hf1, hs1, hrs]
  have hgl := lt_of_heap hg
  have hhl := lt_of_heap hh
  unfold maxLen at hGm
  have hb13 : ¬ (G = i) := by omega
  have hb14 : ¬ (G = i + m) := by omega
  obtain ⟨W1, hW1⟩ : ∃ W1, W1 = w.drew.alloc (.cells row 87) := ⟨_, rfl⟩
  rw [← hW1] at hrz
  have hgN : W1.heap[w.heap.size]? = some (.cells row 87 (0, 0)) := by rw [hW1]; exact heap_alloc_at w.drew _
  have hhN : W1.heap[h]? = some (.cells curv 87 (0, 0)) := by rw [hW1]; exact (heap_alloc_below (w := w.drew) _ hhl).trans hh
  have hggN : W1.heap[g]? = some (.cells cur 87 (0, 0)) := by rw [hW1]; exact (heap_alloc_below (w := w.drew) _ hgl).trans hg
  have hFN : Frm [] w W1 := by rw [hW1]; exact ((Frm.refl _ w).drew).alloc _
  have HGN := Lib.hid hgN
  have HGG := Lib.hid hggN
  have HFN := Lib.hid hFN
  have HYR1 := Lib.hid (hyr _ hhN)
  clear hW1 hgN hhN hggN hFN
  have HG := Lib.hid hg
  have HH := Lib.hid hh
  have HIB := Lib.hid hib
  have HIMB := Lib.hid himb
  have HTLL := Lib.hid htll
  have HYL := Lib.hid hyl
  have HTR := Lib.hid htr
  have HYR := Lib.hid hyr
  have HFIN := Lib.hid hfin
  have HFS := Lib.hid hfs
  have HRZ := Lib.hid hrz
  clear hg hh hx hy hyl hxl hcs hib himb htl himl htll htot hxc htr hyr hs1 hfin hfs hrow hG hrs hrx hXl hX hold hkk hik hrz hcx
  go_enter Tryz.func70, Tryz.ntmps70
  go_wp2_with (first | (at_builtin; with_reducible refine Lib.wpList_append_run (o := ⟨some 40, _, _, _, _, _⟩) _ rfl (.tmp 34) (.tmp 39) 108 3 rfl (.slice (some ⟨g, 0, none⟩) i c) (.int .i64 ((n : Int) + (m : Int) - (i : Int))) ?_ ?_ _ _ (HRZ.out _) ?_) | (with_reducible refine wpList_copy_blk (o := ⟨some 45, _, _, _, _, _⟩) rfl (.tmp 43) (.tmp 44) 108 108 rfl 87 3 Tryz.underlying108 hsz w.heap.size ib (n + m - i) (G - i) ⟨h, 0, none⟩ m mc ?_ ?_ row 87 HGN.out ys m ?_ HYL.out HYR1.out hf0 h1 ?_))
  any_goals (first | (simp [Act.eval, HIB.out]; done) | (simp only [Nat.min_def]; split <;> omega))
  intro w2 hg2 hf2
  have hgg2 := hf2.heap HGG.out (by simp; omega)
  have HG2 := Lib.hid hg2
  have HF2 := Lib.hid hf2
  have HTR2 := Lib.hid (HTR.out _ hgg2)
  clear hg2 hf2 hgg2
  go_wp2_with fail
  go_still_tail 8, mixed
  refine wpList_copy_blk rfl (.tmp 50) (.tmp 53) 108 108 rfl 87 3 Tryz.underlying108 hsz w.heap.size imb (n + m - (i + m)) (G - (i + m)) ⟨g, ib, none⟩ (n - i) (c - i) (by simp [Act.eval, Act.put, HIMB.out]) (by simp [Act.eval, Act.put, HIB.out]) (overlay row ib ys) 87 HG2.out tail (n - i) (by simp only [Nat.min_def]; split <;> omega) HTLL.out HTR2.out hf1 h1t ?_
  intro w3 hg3 hf3
  have HG3 := Lib.hid hg3
  have HF3 := Lib.hid hf3
  clear hg3 hf3
  go_wp2
  go_ret
  exact ⟨G, by simp, ⟨_, HG3.out, hGn, by unfold maxLen; omega, HFS.out, HFIN.out⟩, ((HFN.out.trans HF2.out (by simp)).trans ((Frm.refl [w.heap.size] w2).drew.trans HF3.out (by simp)) (by simp))⟩

theorem insertP (w : World) (vs vv : Value) (n m i : Nat) (xs ys : List Value) (hs : w.ownsRow 0 87 3 vs n xs) (hv : w.ownsRow 0 87 3 vv m ys) (hd : vs.ownBlock = none ∨ vs.ownBlock ≠ vv.ownBlock) (hi : i ≤ n)
    (h1x : ∀ u ∈ xs, u.oneCell' = true) (h1 : ∀ u ∈ ys, u.oneCell' = true) (hn : n + m ≤ 1099511627776) :
    Calls Tryz.prog 70 #[vs, .int .i64 i, vv] w fun e w' => ∃ v', e = .returned v' ∧ w'.ownsRow 0 87 3 v' (n + m) (xs.take (i * 3) ++ ys ++ xs.drop (i * 3)) ∧ Frm vs.ownBlock.toList w w' ∧ (∀ k, v'.ownBlock = some k → some k = vs.ownBlock ∨ k = w.heap.size) := by
  have hxl := hs.1
  have hyl := hv.1
  by_cases hm : m = 0
  · subst hm
    have hy0 : ys = [] := List.eq_nil_of_length_eq_zero (by simpa using hyl)
    subst hy0
    have hvv : ∃ b cc, vv = .slice b 0 cc := by
      rcases hv.2 with ⟨rfl, _⟩ | ⟨h, mc, curv, rfl, _⟩
      · exact ⟨_, _, rfl⟩
      · exact ⟨_, _, rfl⟩
    have hsv : ∃ a c, vs = .slice a n c := by
      rcases hs.2 with ⟨rfl, rfl⟩ | ⟨g, c, cur, rfl, _⟩
      · exact ⟨_, _, rfl⟩
      · exact ⟨_, _, rfl⟩
    obtain ⟨a, c, rfl⟩ := hsv
    refine (insertP_none w a n c i vv hvv hi).mono ?_
    rintro e w' ⟨rfl, rfl⟩
    exact ⟨_, rfl, by simpa using hs, Frm.refl _ _, fun k hk => .inl hk.symm⟩
  · by_cases hin : i = n
    · subst hin
      have hsv : ∃ a c, vs = .slice a i c := by
        rcases hs.2 with ⟨rfl, rfl⟩ | ⟨g, c, cur, rfl, _⟩
        · exact ⟨_, _, rfl⟩
        · exact ⟨_, _, rfl⟩
      obtain ⟨a, c, rfl⟩ := hsv
      refine (insertP_end w a i c m vv xs ys hs hv (by omega) h1 hn).mono ?_
      rintro e w' ⟨v', rfl, hr, hf, hb⟩
      refine ⟨v', rfl, ?_, hf, hb⟩
      rw [← hxl, List.take_length, List.drop_length, List.append_nil]
      exact hr
    · rcases hs.2 with ⟨rfl, rfl⟩ | ⟨g, c, cur, rfl, _, hg, hnc, hcm, hcs, hx⟩
      · omega
      rcases hv.2 with ⟨_, h0⟩ | ⟨h, mc, curv, rfl, _, hh, hmc, _, _, hy⟩
      · omega
      have hgh : h ≠ g := by
        intro e
        subst e
        simp [Value.ownBlock] at hd
      have hlen : (xs.take (i * 3) ++ ys ++ xs.drop (i * 3)).length = (n + m) * 3 := by
        have := mul_le_of (s := 3) hi
        simp only [List.length_append, List.length_take, List.length_drop]
        omega
      by_cases hc : n + m ≤ c
      · refine (insertP_room w g h n c m mc i cur curv xs ys hg hcs hx hh hy hyl hgh (by omega) (by omega) hc hcm h1x h1 hn).mono ?_
        rintro e w' ⟨rfl, ⟨cur', h1', h2', h3'⟩, hf⟩
        refine ⟨_, rfl, ⟨hlen, .inr ⟨g, c, cur', rfl, Nat.zero_le _, h1', hc, hcm, h2', h3'⟩⟩, hf, fun k hk => .inl hk.symm⟩
      · refine (insertP_grow w g h n c m mc i cur curv xs ys hg hcs hx hh hy hyl (by omega) hnc (by omega) (by omega) h1x h1 hn).mono ?_
        rintro e w' ⟨G, rfl, ⟨cur', h1', h2', h3', h4', h5'⟩, hf⟩
        refine ⟨_, rfl, ⟨hlen, .inr ⟨_, G, cur', rfl, Nat.zero_le _, h1', h2', h3', h4', h5'⟩⟩, hf.mono (by simp), fun k hk => .inr ?_⟩
        simpa [Value.ownBlock] using hk.symm


end Go.Proofs.YtnajkjgjeiodmaaGreatDoor.Pp
