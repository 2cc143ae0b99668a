/-
  CONTRACT OF slices.Delete AT []piece.piece. Conditions: fewer than 2^40 elements.
-/
import Derived.Test.YtnajkjgjeiodmaaGreatDoorSlP
namespace Go.Proofs.YtnajkjgjeiodmaaGreatDoor.Pp
open Go.RowKit
open Go.Proofs (Tryz.prog)

set_option maxHeartbeats 400000 in
theorem deleteP_none (w : World) (a : Option Addr) (n c i : Nat) (hi : i ≤ n) (hnc : n ≤ c) (hcm : c ≤ 9223372036854775807) :
    Calls Tryz.prog 94 #[.slice a n c, .int .i64 i, .int .i64 i] w fun e w' => e = .returned (.slice a n c) ∧ w = w' := by
  go_enter Tryz.func94, Tryz.ntmps94
  go_wp2
  all_goals
    go_ret
    exact ⟨rfl, rfl⟩

theorem zeroP (w : World) : (zeroValue 87).run Tryz.prog w = .ok (Value.agg #[.bool false, .int .i64 0, .int .i64 0]) w := by kernel_rfl

set_option maxRecDepth 100000 in
set_option maxHeartbeats 1600000 in
theorem deleteP_some (w : World) (g c i j k : Nat) (cur : Array Value) (xs : List Value) (hg : w.heap[g]? = some (.cells cur 87 (0, 0))) (hcs : cur.size = c * 3) (hx : cur.toList.take ((j + k) * 3) = xs)
    (hi : i < j) (hnc : j + k ≤ c) (hcm : c ≤ maxLen) (h1x : ∀ u ∈ xs, u.oneCell' = true) (hn : j + k ≤ 1099511627776) :
    Calls Tryz.prog 94 #[.slice (some ⟨g, 0, none⟩) (j + k) c, .int .i64 i, .int .i64 j] w fun e w' => e = .returned (.slice (some ⟨g, 0, none⟩) (i + k) c) ∧
      (∃ cur', w'.heap[g]? = some (.cells cur' 87 (0, 0)) ∧ cur'.size = c * 3 ∧ cur'.toList.take ((i + k) * 3) = xs.take (i * 3) ++ xs.drop (j * 3)) ∧ Frm [g] w w' := by
  have hxl : xs.length = (j + k) * 3 := by rw [← hx]; simp [hcs]; omega
  obtain ⟨i0, hi0, hz0, hzs, hzb⟩ := info_parts infoP
  unfold maxLen at hcm
  have mixed : Tryz.prog.follows .mixedOrders = true := by kernel_rfl
  have hb1 : ¬ ((i : Int) = (j : Int)) := by omega
  have hb2 : ¬ (c = 0) := by omega
  have hb3 : ¬ (c = i + k) := by omega
  have hb4 : ¬ (j + k = i) := by omega
  have hb5 : (i : Int) ≤ (j : Int) := by omega
  have hb6 : (j : Int) ≤ (j : Int) + (k : Int) := by omega
  have hb7 : (j : Int) + (k : Int) ≤ (c : Int) := by omega
  have hb8 : (i : Int) + (k : Int) ≤ (j : Int) + (k : Int) := by omega
  have hb9 : ((i : Int) + (k : Int)).toNat = i + k := by omega
  have hb10 : ((j : Int) + (k : Int)).toNat = j + k := by omega
  have hb11 : (i : Int) ≤ (c : Int) := by omega
  have hb12 : (0 : Int) ≤ (i : Int) + (k : Int) := by omega
  obtain ⟨ib, hib⟩ : ∃ ib, ib = i * 3 := ⟨_, rfl⟩
  obtain ⟨jb, hjb⟩ : ∃ jb, jb = j * 3 := ⟨_, rfl⟩
  obtain ⟨tail, htl⟩ : ∃ tail, tail = xs.drop jb := ⟨_, rfl⟩
  have htll : tail.length = k * 3 := by rw [htl, List.length_drop]; omega
  have hxc : cur.toList.take xs.length = xs := by rw [hxl]; exact hx
  have hcx : ∀ j v, xs[j]? = some v → cur[j]? = some v := fun j v hj => by
    rw [← hxc, List.getElem?_take] at hj
    split at hj
    · simpa using hj
    · cases hj
  have h1t : ∀ u ∈ tail, u.oneCell' = true := by rw [htl]; exact oneCell_drop h1x _
  obtain ⟨ad, had⟩ : ∃ ad : Addr, ad = if c = j then ⟨g, 0, none⟩ else ⟨g, jb, none⟩ := ⟨_, rfl⟩
  have htr : ∀ w' : World, w'.heap[g]? = some (.cells cur 87 (0, 0)) → ∀ j v, tail[j]? = some v → w'.cell? (ad.add j) = some v := fun w' hg' => by
    rw [had]
    split
    · intro q v hq
      have := (List.getElem?_eq_some_iff.1 hq).1
      omega
    · exact read_block hg' _ _ (fun j v hj => hcx _ _ (by rw [htl, List.getElem?_drop] at hj; exact hj))
  obtain ⟨ikb, hikb⟩ : ∃ ikb, ikb = (i + k) * 3 := ⟨_, rfl⟩
  have hf0 : ib + tail.length ≤ cur.size := by omega
  have hs1 : (overlay cur ib tail).size = cur.size := overlay_size hf0
  obtain ⟨zs, hzs'⟩ : ∃ zs : List Value, zs = (Builtin.zeroCells (Value.agg #[.bool false, .int .i64 0, .int .i64 0]).cells (j - i)).toList := ⟨_, rfl⟩
  have hzl : zs.length = (j - i) * 3 := by rw [hzs']; simp [size_zeroCells, Value.cells]
  have h1z : ∀ u ∈ zs, u.oneCell' = true := by
    rw [hzs']
    intro u hu
    simp only [Builtin.zeroCells, Array.toList_map, List.mem_map, Value.cells] at hu
    obtain ⟨q, _, rfl⟩ := hu
    have h3 : q % 3 < 3 := Nat.mod_lt _ (by omega)
    rcases (show q % 3 = 0 ∨ q % 3 = 1 ∨ q % 3 = 2 by omega) with h | h | h <;> simp [h, Value.oneCell']
  have hf1 : ikb + (j - i) * 3 ≤ (overlay cur ib tail).size := by omega
  have hfin : (overlay (overlay cur ib tail) ikb zs).toList.take ((i + k) * 3) = xs.take (i * 3) ++ xs.drop (j * 3) := by
    have e := overlay_cut cur xs zs ib jb hxc (by omega) (by omega) (by omega)
    have e2 : ib + (xs.length - jb) = ikb := by omega
    rw [e2, ← htl] at e
    rw [← hikb, e, htl, hib, hjb]
  have hfs : (overlay (overlay cur ib tail) ikb zs).size = c * 3 := by rw [overlay_size (by omega), hs1, hcs]
  have hji : 0 < j - i := by omega
  have hji2 : j + k - (i + k) = j - i := by omega
  have HG := Lib.hid hg
  have HIB := Lib.hid hib
  have HJB := Lib.hid hjb
  have HIKB := Lib.hid hikb
  have HAD := Lib.hid had
  have HTLL := Lib.hid htll
  have HFIN := Lib.hid hfin
  have HFS := Lib.hid hfs
  have HTR := Lib.hid (htr w.drew hg)
  have HZS := Lib.hid hzs'
  have HJI := Lib.hid hji2
  clear hg hcs hx hxl hib hjb htl htll hxc hcx htr hs1 hzs' hfin hfs hzl hikb had hji2
  go_enter Tryz.func94, Tryz.ntmps94
  go_wp2_with fail
  go_still_tail 6, mixed
  refine wpList_append_in rfl (.tmp 22) (.tmp 25) 108 rfl 87 i0 3 Tryz.underlying108 hi0 hzs g i c (by simp [Act.eval, Act.put]) cur HG.out ad k (c - j) (by simp [Act.eval, Act.put, HAD.out, HJB.out]; split <;> rfl) tail HTLL.out HTR.out h1t (by omega) ib HIB.out hf0 ?_
  intro w1 hg1 hf1'
  have HG1 := Lib.hid hg1
  have HF1 := Lib.hid hf1'
  clear hg1 hf1'
  generalize (if c = j then some ({ block := g, off := 0 } : Addr) else some { block := g, off := j * 3 }) = q
  go_wp2_with (with_reducible refine wpList_clear (o := ⟨none, _, _, _, _, _⟩) rfl (.tmp 31) 108 rfl 87 (Value.agg #[.bool false, .int .i64 0, .int .i64 0]) 3 Tryz.underlying108 zeroP ?_ g ikb (j - i) (c - (i + k)) hji zs HZS.out h1z (overlay cur ib tail) 87 HG1.out hf1 ?_ ?_)
  case refine_1 => rfl
  case refine_2 => simp [Act.eval, HIKB.out, HJI.out]
  all_goals
    intro w2 hg2 hf2
    have HG2 := Lib.hid hg2
    have HF2 := Lib.hid hf2
    clear hg2 hf2
    go_wp2
    go_ret
    exact ⟨by simp, ⟨_, HG2.out, HFS.out, HFIN.out⟩, (((Frm.refl [g] w).drew).trans HF1.out (by simp)).trans HF2.out (by simp)⟩

theorem deleteP (w : World) (vs : Value) (n i j : Nat) (xs : List Value) (hs : w.ownsRow 0 87 3 vs n xs) (hi : i ≤ j) (hj : j ≤ n) (h1x : ∀ u ∈ xs, u.oneCell' = true) (hn : n ≤ 1099511627776) :
    Calls Tryz.prog 94 #[vs, .int .i64 i, .int .i64 j] w fun e w' => ∃ v', e = .returned v' ∧ w'.ownsRow 0 87 3 v' (n - (j - i)) (xs.take (i * 3) ++ xs.drop (j * 3)) ∧ Frm vs.ownBlock.toList w w' ∧ v'.ownBlock = vs.ownBlock := by
  have hxl := hs.1
  by_cases hij : i = j
  · subst hij
    have hsv : ∃ a c, vs = .slice a n c ∧ n ≤ c ∧ c ≤ maxLen := by
      rcases hs.2 with ⟨rfl, rfl⟩ | ⟨g, c, cur, rfl, _, _, h1, h2, _⟩
      · exact ⟨_, _, rfl, by omega, by unfold maxLen; omega⟩
      · exact ⟨_, _, rfl, h1, h2⟩
    obtain ⟨a, c, rfl, h1, h2⟩ := hsv
    refine (deleteP_none w a n c i hj h1 (by unfold maxLen at h2; omega)).mono ?_
    rintro e w' ⟨rfl, rfl⟩
    exact ⟨_, rfl, by simpa using hs, Frm.refl _ _, rfl⟩
  · rcases hs.2 with ⟨rfl, rfl⟩ | ⟨g, c, cur, rfl, _, hg, hnc, hcm, hcs, hx⟩
    · omega
    obtain ⟨k, rfl⟩ : ∃ k, n = j + k := ⟨n - j, by omega⟩
    refine (deleteP_some w g c i j k cur xs hg hcs hx (by omega) hnc hcm h1x hn).mono ?_
    rintro e w' ⟨rfl, ⟨cur', h1', h2', h3'⟩, hf⟩
    have e1 : j + k - (j - i) = i + k := by omega
    have hlen : (xs.take (i * 3) ++ xs.drop (j * 3)).length = (i + k) * 3 := by
      simp only [List.length_append, List.length_take, List.length_drop]
      omega
    rw [e1]
    exact ⟨_, rfl, ⟨hlen, .inr ⟨g, c, cur', rfl, Nat.zero_le _, h1', by omega, hcm, h2', h3'⟩⟩, hf, rfl⟩

end Go.Proofs.YtnajkjgjeiodmaaGreatDoor.Pp
