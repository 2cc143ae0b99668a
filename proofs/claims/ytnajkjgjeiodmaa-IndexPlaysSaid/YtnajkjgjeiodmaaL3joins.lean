/-
  THE WALK OF foolscaplaw3.IndexJoins: it returns true at every two texts, and changes nothing that lay in memory.
-/
import Derived.Test.YtnajkjgjeiodmaaL3whole
import Derived.Deep.DeepCutAuto
import Derived.Laws.Concat
namespace Go.Proofs.Ytnajkjgjeiodmaa
open Go.RowKit
open Go.Proofs (Try.prog)

theorem bnd_pair (t : List UInt8) (j : Nat) (hj : j < nl t + 1) : ∃ s e' : Int, (bnd t)[j]? = some s ∧ (bnd t)[j + 1]? = some e' ∧ (starts t)[j]? = some s := by
  have h1 : j < (bnd t).length := by rw [bnd_length]; omega
  have h2 : j + 1 < (bnd t).length := by rw [bnd_length]; omega
  exact ⟨_, _, List.getElem?_eq_getElem h1, List.getElem?_eq_getElem h2, by rw [← bnd_start t j hj]; exact List.getElem?_eq_getElem h1⟩
theorem starts_append_left (a b : List UInt8) (j : Nat) (hj : j < nl a + 1) : (starts (a ++ b))[j]? = (starts a)[j]? := by
  rw [starts, brk_append, ← List.cons_append, List.getElem?_append_left (by simpa [brk_length] using hj)]
  rfl
theorem bnd_append_next (a b : List UInt8) (e1 : Int) (h : (bnd b)[1]? = some e1) : (bnd (a ++ b))[nl a + 1]? = some (e1 + a.length) := by
  by_cases hb : nl b = 0
  · have h1 := bnd_last b
    rw [hb, h] at h1
    have h2 := bnd_last (a ++ b)
    rw [nl_append, hb, Nat.add_zero] at h2
    rw [h2, Option.some.inj h1, List.length_append]
    congr 1
    omega
  · rw [bnd_start b 1 (by omega)] at h
    rw [bnd_start (a ++ b) _ (by rw [nl_append]; omega), starts, brk_append, ← List.cons_append, List.getElem?_append_right (by simp [brk_length])]
    have e := brk_shift 0 (a.length : Int) b
    rw [e, List.getElem?_map]
    have h3 : (brk 0 b)[0]? = some e1 := h
    have h4 : nl a + 1 - (0 :: brk 0 a).length = 0 := by simp [brk_length]
    rw [h4, h3]
    rfl

set_option maxRecDepth 100000 in
set_option maxHeartbeats 8000000 in
theorem indexJoins (w : World) (a b : ByteArray) (ha : a.size ≤ 140737488351232) (hb : b.size ≤ 140737488351232) :
    Calls Try.prog 5 #[.string a, .string b] w fun e w' => e = .returned (.bool true) ∧ Frm [] w w' := by
  have hk := known3 w
  by_cases hs : a.size + b.size ≤ 300
  · go_enter Try.func5, Try.ntmps5
    go_wp2_with fail
    refine hk.mono ?_
    rintro e w1 ⟨rfl, hf1⟩
    have hn1 := idxNew w1 a (by omega)
    have HF1 := Lib.hid hf1
    clear hk hf1
    go_wp2_with fail
    refine hn1.mono ?_
    rintro e w2 ⟨x, fx, rfl, hx, hf2, hbx⟩
    have hn2 := idxNew w2 b (by omega)
    have HF2 := Lib.hid (HF1.out.trans hf2 (by simp))
    have HX2 := Lib.hid hx
    clear hn1 hx hf2 hbx
    go_wp2_with fail
    refine hn2.mono ?_
    rintro e w3 ⟨y, fy, rfl, hy, hf3, hby⟩
    have hn3 := idxNew w3 a (by omega)
    have HX3 := Lib.hid (HX2.out.frm hf3 (by simp))
    have HF3 := Lib.hid (HF2.out.trans hf3 (by simp))
    have HY3 := Lib.hid hy
    clear hn2 hy hf3 hby
    go_wp2_with fail
    refine hn3.mono ?_
    rintro e w4 ⟨z, fz, rfl, hz, hf4, hbz⟩
    have HX4 := Lib.hid (HX3.out.frm hf4 (by simp))
    have HY4 := Lib.hid (HY3.out.frm hf4 (by simp))
    have hdx : ∀ q ∈ fx, q ∉ fz := fun q h1 h2 => by
      have := HX3.out.lt q h1
      have := hbz q h2
      omega
    have hdy : ∀ q ∈ fy, q ∉ fz := fun q h1 h2 => by
      have := HY3.out.lt q h1
      have := hbz q h2
      omega
    have hbz1 : ∀ q ∈ fz, w.heap.size ≤ q := fun q h2 => by
      have := HF3.out.size
      have := hbz q h2
      omega
    have hsa : a.data.toList.length = a.size := by simp
    have hsb : b.data.toList.length = b.size := by simp
    have hins := idxInsert w4 z fz _ a.size b hz (by omega) (by omega)
    rw [List.take_of_length_le (by omega), List.drop_of_length_le (by omega), List.append_nil] at hins
    have HF4 := Lib.hid (HF3.out.trans hf4 (by simp))
    have HDX := Lib.hid hdx
    have HDY := Lib.hid hdy
    have HBZ1 := Lib.hid hbz1
    clear hn3 hz hf4 hbz hdx hdy hbz1
    go_wp2_with fail
    refine hins.mono ?_
    rintro e w5 ⟨rfl, fz2, hz5, hf5, hbz5⟩
    have hx5 := HX4.out.frm hf5 HDX.out
    have hy5 := HY4.out.frm hf5 HDY.out
    have HF5 := Lib.hid (HF4.out.trans hf5 (fun q h => .inr (HBZ1.out q h)))
    obtain ⟨sa, ea, a1, a2, a3⟩ := bnd_pair a.data.toList (nl a.data.toList) (by omega)
    obtain ⟨sb, eb, b1, b2, b3⟩ := bnd_pair b.data.toList 0 (by omega)
    have hab : (a.data.toList ++ b.data.toList).length = a.size + b.size := by simp
    have hnab := nl_append a.data.toList b.data.toList
    have hna := nl_le a.data.toList
    have hnb := nl_le b.data.toList
    have z3 := starts_append_left a.data.toList b.data.toList (nl a.data.toList) (by omega)
    rw [a3] at z3
    have z1 : (bnd (a.data.toList ++ b.data.toList))[nl a.data.toList]? = some sa := by rw [bnd_start _ _ (by omega)]; exact z3
    have z2 := bnd_append_next a.data.toList b.data.toList eb b2
    have ha2 : ea = (a.size : Int) + 1 := by
      rw [bnd_last] at a2
      have := Option.some.inj a2
      omega
    have hb0 : sb = 0 := by
      have h : (bnd b.data.toList)[0]? = some 0 := rfl
      rw [b1] at h
      exact Option.some.inj h
    subst ha2 hb0
    have r1 := starts_range _ _ (List.mem_of_getElem? a3)
    have r2 : 1 ≤ eb ∧ eb ≤ (b.size : Int) + 1 := by
      obtain ⟨e', he, he1, he2⟩ := bound_next b.data.toList 0 (Nat.zero_le _)
      have : (bnd b.data.toList)[0 + 1]? = some e' := he
      rw [b2] at this
      have := Option.some.inj this
      omega
    have hzl := idxLines w5 z fz2 _ hz5
    have hxl := idxLines w5 x fx _ hx5
    have hyl := idxLines w5 y fy _ hy5
    have hzn := idxLen w5 z fz2 _ hz5
    have hxn := idxLen w5 x fx _ hx5
    have hyn := idxLen w5 y fy _ hy5
    have hxs := idxSize_yes w5 x fx _ hx5 (by omega) _ _ _ (by omega) a1 a2
    have hys := idxSize_yes w5 y fy _ hy5 (by omega) 0 0 _ (by omega) b1 b2
    have hzs := idxSize_yes w5 z fz2 _ hz5 (by omega) _ _ _ (by omega) z1 z2
    have htk : (a.data.toList ++ b.data.toList).take a.size = a.data.toList := by rw [← hsa, List.take_left]
    have hza := idxAt_yes w5 z fz2 _ hz5 (by omega) a.size (by omega) sa (by rw [htk]; exact z3)
    rw [htk] at hza
    rw [hab] at hzn
    rw [hsa] at hxn hzs hna r1
    rw [hsb] at hyn hnb
    rw [hnab] at hzl
    have HX5 := Lib.hid hx5
    have HZ5 := Lib.hid hz5
    have HAB := Lib.hid hab
    clear hins hz5 hf5 hbz5 hx5 hy5 a1 a2 a3 b1 b2 b3 z1 z2 z3 htk hab hsa hsb hnab
    have hzs2 : (eb + (a.size : Int)) - 1 - sa = ((a.size : Int) + 1 - 1 - sa) + (eb - 1 - 0) := by omega
    have hza2 : (a.size : Int) - sa = (a.size : Int) + 1 - 1 - sa := by omega
    rw [hzs2] at hzs
    rw [hza2] at hza
    have hkx0 : 0 ≤ (a.size : Int) + 1 - 1 - sa ∧ (a.size : Int) + 1 - 1 - sa ≤ 300 := by omega
    have hky0 : 0 ≤ eb - 1 - 0 ∧ eb - 1 - 0 ≤ 300 := by omega
    generalize (a.size : Int) + 1 - 1 - sa = kx at hxs hzs hza hkx0
    generalize eb - 1 - 0 = ky at hys hzs hky0
    have hw1 : IntKind.i64.wrap (kx + ky) = kx + ky := by rw [IntKind.wrap_i64]; omega
    clear hzs2 hza2 r1 r2
    generalize hA : nl a.data.toList = A at *
    have HA := Lib.hid hA
    clear hA
    generalize nl b.data.toList = B at *
    go_wp2_with fail
    refine hzl.mono ?_
    rintro e w' ⟨rfl, rfl⟩
    clear hzl
    go_wp2_with fail
    refine hxl.mono ?_
    rintro e w' ⟨rfl, rfl⟩
    go_wp2_with fail
    refine hyl.mono ?_
    rintro e w' ⟨rfl, rfl⟩
    clear hyl
    go_wp2_with fail
    refine hzn.mono ?_
    rintro e w' ⟨rfl, rfl⟩
    clear hzn
    go_wp2_with fail
    refine hxn.mono ?_
    rintro e w' ⟨rfl, rfl⟩
    clear hxn
    go_wp2_with fail
    refine hyn.mono ?_
    rintro e w' ⟨rfl, rfl⟩
    clear hyn
    go_wp2_with fail
    refine hxl.mono ?_
    rintro e w' ⟨rfl, rfl⟩
    go_wp2_with fail
    refine hxs.mono ?_
    rintro e w' ⟨rfl, rfl⟩
    clear hxs
    go_wp2_with fail
    refine hys.mono ?_
    rintro e w' ⟨rfl, rfl⟩
    clear hys
    go_wp2_with fail
    refine hxl.mono ?_
    rintro e w' ⟨rfl, rfl⟩
    clear hxl
    go_wp2_with fail
    refine hzs.mono ?_
    rintro e w' ⟨rfl, rfl⟩
    clear hzs
    go_wp2_with fail
    refine hza.mono ?_
    rintro e w6 ⟨rfl, hf6⟩
    clear hza
    have HF6 := Lib.hid hf6
    clear hf6
    have hf7 : Frm [] w5 ((w6.alloc (.cells #[.int .i64 (A : Nat), .int .i64 kx] 23)).drew) := (HF6.out.alloc _).drew
    have hxl7 := idxLines _ x fx _ (HX5.out.frm hf7 (by simp))
    have hwh := whole3 _ z fz2 (a ++ b) (by
      have := HZ5.out.frm hf7 (by simp)
      simpa using this) (by simp; omega)
    rw [HA.out] at hxl7
    have hw2 : IntKind.i64.wrap (A : Int) = A := by rw [IntKind.wrap_i64]; omega
    have hw3 : IntKind.i64.wrap ((A : Int) + 1 - 1) = A := by rw [IntKind.wrap_i64]; omega
    have mixed : Try.prog.follows .mixedOrders = true := by kernel_rfl
    have HF7 := Lib.hid hf7
    clear hf7
    go_upto_region 12 with fail
    have hp7 := heap_alloc_at w6 (.cells #[.int .i64 (A : Nat), .int .i64 kx] 23)
    have hc0 : (w6.alloc (.cells #[.int .i64 (A : Nat), .int .i64 kx] 23)).drew.cell? ⟨w6.heap.size, 0, none⟩ = some (.int .i64 (A : Nat)) := cell_of_heap (w := (w6.alloc (.cells #[.int .i64 (A : Nat), .int .i64 kx] 23)).drew) (i := 0) hp7 rfl
    have hc1 : (w6.alloc (.cells #[.int .i64 (A : Nat), .int .i64 kx] 23)).drew.cell? ⟨w6.heap.size, 1, none⟩ = some (.int .i64 kx) := cell_of_heap (w := (w6.alloc (.cells #[.int .i64 (A : Nat), .int .i64 kx] 23)).drew) (i := 1) hp7 rfl
    clear hp7
    generalize w6.alloc (.cells #[.int .i64 (A : Nat), .int .i64 kx] 23) = w7 at *
    generalize w6.heap.size = p7 at *
    refine wp_region_tail 31 mixed (by kernel_rfl) ?_
    simp only [List.take_succ_cons, List.take_zero, List.drop_succ_cons, List.drop_zero]
    repeat still_step
    still_call (hxl7.mono fun e w' h => ⟨h.1, h.2.symm⟩)
    have hadd := run_string_add_sum (P := Try.prog) w7.drew a b (by omega)
    repeat still_step
    clear hadd
    refine wpStill_nil ?_
    go_wp2_with fail
    refine hwh.mono ?_
    rintro e w8 ⟨rfl, hf8⟩
    go_wp2_with fail
    go_ret
    exact ⟨rfl, (HF5.out.trans HF7.out (by simp)).trans hf8 (by simp)⟩
  · have hgt : (300 : Int) < (a.size : Int) + (b.size : Int) := by omega
    go_enter Try.func5, Try.ntmps5
    go_wp2_with fail
    refine hk.mono ?_
    rintro e w1 ⟨rfl, hf1⟩
    clear hk
    go_wp2_with fail
    go_ret
    exact ⟨rfl, hf1⟩

end Go.Proofs.Ytnajkjgjeiodmaa
