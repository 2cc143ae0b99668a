/-
  WALK: BufEmpty. Conditions: as it says.
-/
import Derived.Test.YtnajkjgjeiodmaaGreatDoorBk
import Derived.Test.YtnajkjgjeiodmaaGreatDoorBg
namespace Go.Proofs.YtnajkjgjeiodmaaGreatDoor
open Go.RowKit
open Go.Proofs (Tryz.prog)

def beR (vb vo n vc i k : Nat) (y3 : Value) (N : Nat) (L : List (List UInt8)) : Nat → Value → World → Prop := fun q u w => (([(fun u _ => u = .slice (some ⟨vb, vo, none⟩) n vc),
    (fun u _ => u = .int .i64 (i : Int)),
    (fun u _ => u = .slice (some ⟨vb, vo, none⟩) i vc),
    (fun u X => u = y3 ∧ (y3.ownBlock ≠ none → N < X.heap.size)),
    (fun u _ => u = .slice (some ⟨vb, vo, none⟩) n vc),
    (fun u _ => u = .int .i64 (i : Int)),
    (fun u _ => u = .int .i64 (k : Int)),
    (fun u _ => u = .int .i64 ((i : Int) + (k : Int))),
    (fun u X => RdL X u (L.drop (i + k)) ∧ ∀ q, u.ownBlock = some q → q < N),
    (fun u X => X.ownsRow N 9 1 u (L.take i ++ L.drop (i + k)).length ((L.take i ++ L.drop (i + k)).map strV))] : List (Value → World → Prop)).getD q fun _ _ => False) u w
theorem jStep {D0 D1 w' : World} {u3 : Value} {L : Nat → Bool} {i : Nat} {w2 : World} (h : u3.ownBlock ≠ none → (L 3 = false → w' = D0) ∧ (L 3 = true → L 9 = false → w' = D1)) (h3 : 3 ≠ i) (h9 : 9 ≠ i) (hw : w2 = w') : u3.ownBlock ≠ none → (more L i 3 = false → w2 = D0) ∧ (more L i 3 = true → more L i 9 = false → w2 = D1) := by
  subst hw
  rw [more_other _ h3, more_other _ h9]
  exact h
set_option maxRecDepth 100000 in
theorem slice_hiE (b o n c i : Nat) (hi : i ≤ c) (W : World) : (Instr.slice 22 (.slice (some ⟨b, o, none⟩) n c) none (some (.int .i64 (i : Int))) none).run Tryz.prog W = .ok (.slice (some ⟨b, o, none⟩) i c) W := by
  rw [run_slice_h W 22 _ n c Tryz.underlying22 .i64 (i : Int) (by omega) (by omega)]
  have hs : (sizeOf (Tryz.prog.elem 22)).run Tryz.prog W = .ok 1 W := by kernel_rfl
  rw [hs]
  simp [Result.andThen, sliced, Addr.add]
theorem ownsRow_frm {S : List Nat} {w w' : World} {base e size n : Nat} {v : Value} {cs : List Value} (h : w.ownsRow base e size v n cs) (hf : Frm S w w') (hS : ∀ b ∈ S, v.ownBlock ≠ some b) : w'.ownsRow base e size v n cs := by
  rcases h.2 with ⟨rfl, h0⟩ | ⟨g, c, cur, rfl, h1, hg, h2⟩
  · exact ⟨h.1, .inl ⟨rfl, h0⟩⟩
  · exact ⟨h.1, .inr ⟨g, c, cur, rfl, h1, hf.heap hg (fun hm => hS _ hm rfl), h2⟩⟩
theorem gsU {U : List Nat} {j : Nat} {A B : World} (h : (if j = 9 then Frm U else Frm []) A B) : Frm U A B := by
  split at h
  · exact h
  · exact h.mono (by simp)
theorem gsN {U : List Nat} {j : Nat} {A B : World} (h : (if j = 9 then Frm U else Frm []) A B) (hj : 9 ≠ j) : Frm [] A B := by rwa [if_neg (fun e => hj e.symm)] at h
/-- append(nil, an empty slice) is nil. -/
theorem appNil (w : World) (v2 : Value) (h2 : RdL w v2 []) : ∃ w', (Builtin.append_ #[22, 22] 22 #[.slice none 0 0, v2]).run Tryz.prog w = .ok (.slice none 0 0) w' ∧ Frm [] w w' := by
  obtain ⟨i0, hi, hz0, hz1, hz2⟩ := info_parts (show (Tryz.prog.info? 9).map (fun i => (i.zero, i.size, i.bytes)) = some (some (.string ByteArray.empty), 1, 16) by kernel_rfl)
  obtain ⟨v', w', h1, h3, h4, -, h5⟩ := run_append_row (P := Tryz.prog) w w.heap.size 22 22 9 i0 (.string ByteArray.empty) 1 16 Tryz.underlying22 hi hz0 hz1 hz2 rfl (by decide) (.slice none 0 0) 0 [] ⟨rfl, .inl ⟨rfl, rfl⟩⟩ v2 0 [] h2.rd0 rfl (by simp) (by unfold maxLen; omega) (by omega) (Nat.le_refl _)
  obtain rfl := h5.2 ⟨rfl, rfl⟩
  exact ⟨w', h1, h4⟩


end Go.Proofs.YtnajkjgjeiodmaaGreatDoor

namespace Go.Proofs.YtnajkjgjeiodmaaGreatDoor
open Go.RowKit
open Go.Proofs (Tryz.prog)

theorem cutJ {L : List (List UInt8)} (h : L ≠ []) (hc : Clean L) : cutL (Lib.join L [10]) = L := cutL_join L h hc
set_option maxRecDepth 100000 in
set_option maxHeartbeats 32000000 in
theorem bufEmpty_walk (w : World) (hm : MaxLenIs w) (v : Value) (L : List (List UInt8)) (hv : RdL w v L) (hb : ∀ l ∈ L, l.length ≤ 140737488355328) (hl : L.length ≤ 4611686018427387904) (pa pn : Nat) (hpa : pa < 256) (hpn : pn < 256) :
    Calls Tryz.prog 7 #[v, .int .u8 pa, .int .u8 pn] w fun e w' => e = .returned (.bool true) ∧ Frm [] w w' := by
  have hk := bKnown w hm
  have ht := fun X (hf : Frm [] w X) => hlpText X v L (hv.frm hf) hb hl
  by_cases htx : L ≠ [] ∧ LightL L
  · rw [decide_eq_true htx] at ht
    obtain ⟨hne, h40, hsum, hcl⟩ := htx
    have hsz : sizeL L ≤ 1240 := by rw [sumL_size]; omega
    have hnew := fun X (hf : Frm [] w X) => bNew_some X v L (hv.frm hf) hne hcl (by omega) (by omega)
    obtain ⟨vb, vo, n, vc, rfl, hnL, hnc, hvb⟩ : ∃ vb vo n vc, v = .slice (some ⟨vb, vo, none⟩) n vc ∧ L.length = n ∧ n ≤ vc ∧ vb < w.heap.size := by
      rcases hv with ⟨a, c, rfl, -, rfl⟩ | ⟨vb, vo, vc, rfl, h1, h2, -⟩
      · exact absurd rfl hne
      · exact ⟨vb, vo, _, vc, rfl, rfl, h1, h2⟩
    have hn0 : 0 < n := by
      rw [← hnL]
      exact List.length_pos_iff.2 hne
    rw [hnL] at h40
    have hcj := cutJ hne hcl
    have hrA := fun X b fp np (hB : Buf X b fp (Lib.join L [10]) 0 np 4095) (hmX : MaxLenIs X) => bReplace hB (by decide) hmX (.slice none 0 0) [] (rdL_nil X) 0 n (by rw [hcj]; omega) (by decide) (by decide) (by decide)
    have e1 : some1 (repl (cutL (Lib.join L [10])) 0 n []) = [[]] := by
      rw [repl_all 0 n (by rw [hcj, hnL]) (by rw [hcj]; omega)]
      rfl
    rw [e1] at hrA
    have hrem : ((pa : Int).tmod (n : Int)) = ((pa % n : Nat) : Int) := rfl
    obtain ⟨i, hi⟩ : ∃ i, i = pa % n := ⟨_, rfl⟩
    have hin : i < n := by rw [hi]; exact Nat.mod_lt _ hn0
    rw [← hi] at hrem
    have hrem2 : ((pn : Int).tmod ((n : Int) - (i : Int) + 1)) = ((pn % (n - i + 1) : Nat) : Int) := by
      rw [show (n : Int) - (i : Int) + 1 = ((n - i + 1 : Nat) : Int) by omega]
      rfl
    obtain ⟨k, hkk⟩ : ∃ k, k = pn % (n - i + 1) := ⟨_, rfl⟩
    have hkb : i + k ≤ n := by
      have := Nat.mod_lt pn (show 0 < n - i + 1 by omega)
      omega
    rw [← hkk] at hrem2
    have hrB := fun X b fp np (hB : Buf X b fp (Lib.join L [10]) 0 np 4095) (hmX : MaxLenIs X) => bReplace hB (by decide) hmX (.slice none 0 0) [] (rdL_nil X) i k (by rw [hcj]; omega) (by decide) (by decide) (by decide)
    rw [hcj] at hrB
    obtain ⟨R, hR⟩ : ∃ R, R = L.take i ++ L.drop (i + k) := ⟨_, rfl⟩
    have hRe : repl L i k [] = R := by rw [hR]; simp [repl]
    rw [hRe] at hrB
    have hRs : sizeL (some1 R) ≤ 4096 := by
      unfold some1
      split
      · decide
      · have h1 := congrArg sizeL (cut_parts L i k)
        rw [sizeL_append, sizeL_append] at h1
        rw [hR, sizeL_append]
        omega
    have hRc : Clean (some1 R) := by rw [hR]; exact ((hcl.take i).append (hcl.drop (i + k))).some1
    have hcj2 := cutJ (some1_ne R) hRc
    have hRl : R.length ≤ 40 := by rw [hR, List.length_append, List.length_take, List.length_drop]; omega
    have HT := Lib.hid ht
    have HNEW := Lib.hid hnew
    have HM := Lib.hid hm
    have HV := Lib.hid hv
    have HN := Lib.hid hnL
    have HRA := Lib.hid hrA
    have HRB := Lib.hid hrB
    have HR := Lib.hid hR
    have HRS := Lib.hid hRs
    have HCJ2 := Lib.hid hcj2
    have HI := Lib.hid hi
    have HK := Lib.hid hkk
    clear ht hnew hm hv hb hl hnL hrA hrB hR hRs hcj2 hi hkk hcj hne hcl hsum hsz e1 hRe hRc
    have hz1 : ((n : Int) == 0) = false := by rw [beq_eq_false_iff_ne]; omega
    have hz2 : ((n : Int) - (i : Int) + 1 == 0) = false := by rw [beq_eq_false_iff_ne]; omega
    have mixed : Tryz.prog.follows .mixedOrders = true := by kernel_rfl
    go_enter Tryz.func7, Tryz.ntmps7
    go_wp2_with fail
    refine hk.mono ?_
    rintro e w1 ⟨rfl, hf1⟩
    have HF1 := Lib.hid hf1
    clear hk hf1
    go_wp2_with fail
    refine (HT.out w1 HF1.out).mono ?_
    rintro e wq ⟨rfl, hwq⟩
    obtain rfl := hwq.symm
    clear hwq
    go_wp2_with fail
    refine (HNEW.out w1 HF1.out).mono ?_
    rintro e w2 ⟨b, fp, np, rfl, hb2, hf2, hfp2⟩
    have hF2 := HF1.out.trans hf2 (by simp)
    have hrA2 := HRA.out w2 b fp np hb2 (HM.out.frm hF2)
    have HRA2 := Lib.hid hrA2
    have HF2 := Lib.hid hF2
    have HFP2 := Lib.hid (show ∀ q ∈ fp, w.heap.size ≤ q from fun q hq => Nat.le_trans HF1.out.size (hfp2 q hq))
    clear hb2 hf2 hF2 hrA2 hfp2
    go_wp2_with fail
    refine HRA2.out.mono ?_
    rintro e w3 ⟨-, hok⟩
    obtain ⟨rfl, fp3, ed3, np3, hb3, hf3, -⟩ := hok (by decide)
    rw [show Lib.join [[]] [10] = ([] : List UInt8) from rfl] at hb3
    have hF3 : Frm [] w w3 := Frm.new HF2.out hf3 HFP2.out
    obtain ⟨A3, hA3⟩ : ∃ A3, A3 = w3.alloc (.cells #[.string ⟨#[]⟩] 9 (0, 0)) := ⟨_, rfl⟩
    have hFA3 : Frm [] w3 A3 := by rw [hA3]; exact (Frm.refl [] w3).alloc _
    have hwh := bWhole (hb3.frm0 hFA3) (by decide) (HM.out.frm (hF3.trans hFA3 (by simp))) _ (by rw [hA3]; exact rowOf w3 [[]] _ rfl)
    have HWH := Lib.hid hwh
    have HF3 := Lib.hid (hF3.trans hFA3 (by simp))
    clear hb3 hf3 hF3 hFA3 hwh hok
    go_wp2_with fail
    rw [← hA3]
    clear hA3
    refine HWH.out.mono ?_
    rintro e w4 ⟨rfl, hf4⟩
    have hF4 := HF3.out.trans hf4 (by simp)
    have HF4 := Lib.hid hF4
    clear hf4 hF4
    go_wp2_with fail
    refine (HNEW.out w4 HF4.out).mono ?_
    rintro e w5 ⟨c, fc, npc, rfl, hb5, hf5, hfp5⟩
    have hF5 := HF4.out.trans hf5 (by simp)
    have hrB2 := HRB.out w5 c fc npc hb5 (HM.out.frm hF5)
    have HRB2 := Lib.hid hrB2
    have HF5 := Lib.hid hF5
    have HFP5 := Lib.hid (show ∀ q ∈ fc, w.heap.size ≤ q from fun q hq => Nat.le_trans HF4.out.size (hfp5 q hq))
    clear hb5 hf5 hF5 hrB2 hfp5
    go_wp2_with fail
    refine HRB2.out.mono ?_
    rintro e w6 ⟨-, hok⟩
    obtain ⟨rfl, fp6, ed6, np6, hb6, hf6, -⟩ := hok HRS.out
    have hF6 : Frm [] w w6 := Frm.new HF5.out hf6 HFP5.out
    obtain ⟨D0, hD0⟩ : ∃ D0, D0 = w6.drew := ⟨_, rfl⟩
    have hFD : Frm [] w D0 := by rw [hD0]; exact hF6.drew
    have hr2 : RdL D0 (.slice (some ⟨vb, vo, none⟩) i vc) (L.take i) := (HV.out.frm hFD).take_hi (j := i) (by rw [HN.out]; omega)
    obtain ⟨y3, D1, hrun, hrow1, hfD1⟩ := appS D0 D0.heap.size (.slice none 0 0) [] (World.ownsRow_nil _ _ _ _) _ (L.take i) hr2 (by rw [List.length_take]; simp; omega) (Nat.le_refl _)
    rw [List.nil_append] at hrow1
    have hfD1 : Frm [] D0 D1 := by simpa [Value.ownBlock] using hfD1
    obtain ⟨N, hNN⟩ : ∃ N, N = D0.heap.size := ⟨_, rfl⟩
    rw [← hNN] at hrow1
    have hbig : y3.ownBlock ≠ none → N < D1.heap.size := fun h => by
      obtain ⟨q, hq⟩ := Option.ne_none_iff_exists'.1 h
      have := hrow1.lt q hq
      omega
    have hy3 : ∀ q ∈ y3.ownBlock.toList, N ≤ q := fun q hq => (hrow1.lt q (by simpa using hq)).1
    have hyn : y3.ownBlock = none → y3 = .slice none 0 0 ∧ i = 0 := fun h => by
      rcases hrow1.2 with ⟨h1, h2⟩ | ⟨g, c, cur, h1, _⟩
      · rw [List.length_take, HN.out] at h2
        exact ⟨h1, by omega⟩
      · rw [h1] at h
        simp [Value.ownBlock] at h
    have hrown : y3.ownBlock = none → ∀ X : World, X.ownsRow N 9 1 y3 (L.take i).length ((L.take i).map strV) := fun h X => by
      obtain ⟨h1, h2⟩ := hyn h
      rw [h1, h2]
      exact World.ownsRow_nil _ _ _ _
    have hnil : y3.ownBlock = none → ∀ X : World, ∃ w2, (Builtin.append_ #[22, 22] 22 #[.slice none 0 0, .slice (some ⟨vb, vo, none⟩) i vc]).run Tryz.prog X = .ok y3 w2 ∧ Frm [] X w2 := fun h X => by
      obtain ⟨h1, h2⟩ := hyn h
      rw [h1, h2]
      exact appNil X _ (.inl ⟨_, _, rfl, fun h => (by cases h), rfl⟩)
    have hwN : w.heap.size ≤ N := by rw [hNN]; exact hFD.size
    have hvd : ∀ X, Frm y3.ownBlock.toList w6.drew X → RdL X (.slice (some ⟨vb, vo, none⟩) n vc) L := fun X hf => (HV.out.frm (hF6.drew)).frmS hf (fun _ q hq e => by
      have h1 := hy3 q hq
      obtain rfl : vb = q := by simpa [Value.ownBlock] using e
      omega)
    obtain ⟨rl, hrl⟩ : ∃ rl, R.length = rl := ⟨_, rfl⟩
    have HRL := Lib.hid hrl
    have HVD := Lib.hid hvd
    have HVB := Lib.hid (show ∀ q, (Value.slice (some ⟨vb, vo, none⟩) n vc).ownBlock = some q → q < N from fun q e => by
      obtain rfl : vb = q := by simpa [Value.ownBlock] using e
      omega)
    have HNIL := Lib.hid hnil
    have HROWN := Lib.hid hrown
    have HU3 := Lib.hid hy3
    have HBIG := Lib.hid hbig
    have HRUN := Lib.hid hrun
    have HROW1 := Lib.hid hrow1
    have HFD1 := Lib.hid hfD1
    have HNW := Lib.hid (show N = w6.drew.heap.size by rw [hNN, hD0])
    have HD0 := Lib.hid hNN
    have HD0E := Lib.hid hD0
    have HB6 := Lib.hid hb6
    have HF6 := Lib.hid hF6
    clear hb6 hf6 hF6 hD0 hFD hr2 hrun hrow1 hfD1 hNN hbig hy3 hyn hrown hnil hvd hrl hok
    go_upto_region 13 with fail
    refine (wpIn_wide (n := 3)).1 ?_
    refine wpIn_region_joint (size := 83) wide_wide 10 (beR vb vo n vc i k y3 N L) (Frm y3.ownBlock.toList) (fun j => if j = 9 then Frm y3.ownBlock.toList else Frm []) (fun L' W => y3.ownBlock ≠ none → (L' 3 = false → W = D0) ∧ (L' 3 = true → L' 9 = false → W = D1)) mixed (by kernel_rfl) (by kernel_rfl) (by decide) (by kernel_rfl) (by kernel_rfl) (by kernel_rfl) (by kernel_rfl) rfl (fun h k => h.trans k (fun q hq => .inl hq)) (Frm.refl _ _) (fun _ _ _ _ h => gsU h) ?hR (fun _ => ⟨fun _ => HD0E.out.symm, fun h => by cases h⟩) ?hgd ?hrun ?htail
    case hR =>
      intro qi qj qv A B hi hj hij h hf
      rcases (by omega : qi = 0 ∨ qi = 1 ∨ qi = 2 ∨ qi = 3 ∨ qi = 4 ∨ qi = 5 ∨ qi = 6 ∨ qi = 7 ∨ qi = 8 ∨ qi = 9) with rfl | rfl | rfl | rfl | rfl | rfl | rfl | rfl | rfl | rfl
      all_goals (have hfU : Frm y3.ownBlock.toList A B := gsU hf)
      all_goals first
        | exact h
        | exact ⟨h.1, fun hh => Nat.lt_of_lt_of_le (h.2 hh) hfU.size⟩
        | exact ⟨h.1.frmS hfU (fun _ q hq e => (by have := h.2 q e; have := HU3.out q hq; omega)), h.2⟩
        | exact ownsRow_frm h (gsN hf hij) (by simp)
    case hgd =>
      intro qi qo qg qb hi ho hgo qv A hv
      rcases (by omega : qi = 0 ∨ qi = 1 ∨ qi = 2 ∨ qi = 3 ∨ qi = 4 ∨ qi = 5 ∨ qi = 6 ∨ qi = 7 ∨ qi = 8 ∨ qi = 9) with rfl | rfl | rfl | rfl | rfl | rfl | rfl | rfl | rfl | rfl
      all_goals obtain rfl := Option.some.inj ho
      all_goals first
        | (cases hgo; done)
        | (cases hgo; exact hv)
    case hrun =>
      intro qi hi qo ho qa w' L' hG ht hLi hJ
      rcases (by omega : qi = 0 ∨ qi = 1 ∨ qi = 2 ∨ qi = 3 ∨ qi = 4 ∨ qi = 5 ∨ qi = 6 ∨ qi = 7 ∨ qi = 8 ∨ qi = 9) with rfl | rfl | rfl | rfl | rfl | rfl | rfl | rfl | rfl | rfl
      all_goals obtain rfl := Option.some.inj ho
      · have h0 := ht.free 0 (by kernel_rfl)
        exact .inl ⟨_, _, by simp [execOp, go_sem, Act.eval, h0]; first | rfl | exact ⟨rfl, rfl⟩, by exact rfl, by exact (by first | exact Frm.refl _ _ | (simp; exact Frm.refl _ _)), jStep hJ (by decide) (by decide) rfl⟩
      · have h0 := ht.free 11 (by kernel_rfl)
        exact .inl ⟨_, _, by simp [execOp, go_sem, Act.eval, h0]; first | rfl | exact ⟨rfl, rfl⟩, by exact rfl, by exact (by first | exact Frm.refl _ _ | (simp; exact Frm.refl _ _)), jStep hJ (by decide) (by decide) rfl⟩
      · obtain ⟨v0, h0, e0⟩ := ht.dep 0 66 (by kernel_rfl) rfl
        obtain rfl : .slice (some ⟨vb, vo, none⟩) n vc = v0 := Eq.symm e0
        obtain ⟨v1, h1, e1⟩ := ht.dep 1 67 (by kernel_rfl) rfl
        obtain rfl : .int .i64 (i : Int) = v1 := Eq.symm e1
        have hsl := slice_hiE vb vo n vc i (by omega) w'
        exact .inl ⟨_, _, by simp [execOp, go_sem, Act.eval, h0, h1, hsl]; first | rfl | exact ⟨rfl, rfl⟩, by exact rfl, by first | exact Frm.refl _ _ | (simp; exact Frm.refl _ _), jStep hJ (by decide) (by decide) rfl⟩
      · obtain ⟨v0, h0, e0⟩ := ht.dep 2 68 (by kernel_rfl) rfl
        obtain rfl : .slice (some ⟨vb, vo, none⟩) i vc = v0 := Eq.symm e0
        by_cases hown : y3.ownBlock = none
        · obtain ⟨w2, hr, hf⟩ := HNIL.out hown w'
          exact .inl ⟨y3, w2, by simp [execOp, resolve, invoke, builtin, Act.eval, h0, hr, Result.andThen], ⟨rfl, fun h => absurd hown h⟩, by simpa using hf, fun h => absurd hown h⟩
        · obtain rfl := (hJ hown).1 hLi
          exact .inl ⟨y3, D1, by simp [execOp, resolve, invoke, builtin, Act.eval, h0, HRUN.out, Result.andThen], ⟨rfl, fun _ => HBIG.out hown⟩, by simpa using HFD1.out, fun _ => ⟨fun h => (by rw [more_same] at h; cases h), fun _ _ => rfl⟩⟩
      · have h0 := ht.free 0 (by kernel_rfl)
        exact .inl ⟨_, _, by simp [execOp, go_sem, Act.eval, h0]; first | rfl | exact ⟨rfl, rfl⟩, by exact rfl, by exact (by first | exact Frm.refl _ _ | (simp; exact Frm.refl _ _)), jStep hJ (by decide) (by decide) rfl⟩
      · have h0 := ht.free 11 (by kernel_rfl)
        exact .inl ⟨_, _, by simp [execOp, go_sem, Act.eval, h0]; first | rfl | exact ⟨rfl, rfl⟩, by exact rfl, by exact (by first | exact Frm.refl _ _ | (simp; exact Frm.refl _ _)), jStep hJ (by decide) (by decide) rfl⟩
      · have h0 := ht.free 12 (by kernel_rfl)
        exact .inl ⟨_, _, by simp [execOp, go_sem, Act.eval, h0]; first | rfl | exact ⟨rfl, rfl⟩, by exact rfl, by exact (by first | exact Frm.refl _ _ | (simp; exact Frm.refl _ _)), jStep hJ (by decide) (by decide) rfl⟩
      · obtain ⟨v0, h0, e0⟩ := ht.dep 5 71 (by kernel_rfl) rfl
        obtain rfl : .int .i64 (i : Int) = v0 := Eq.symm e0
        obtain ⟨v1, h1, e1⟩ := ht.dep 6 72 (by kernel_rfl) rfl
        obtain rfl : .int .i64 (k : Int) = v1 := Eq.symm e1
        have hwr : IntKind.i64.wrap ((i : Int) + (k : Int)) = (i : Int) + (k : Int) := by rw [IntKind.wrap_i64]; omega
        exact .inl ⟨_, _, by simp [execOp, go_sem, Act.eval, h0, h1, hwr]; first | rfl | exact ⟨rfl, rfl⟩, by exact rfl, by exact (by first | exact Frm.refl _ _ | (simp; exact Frm.refl _ _)), jStep hJ (by decide) (by decide) rfl⟩
      · obtain ⟨v0, h0, e0⟩ := ht.dep 4 70 (by kernel_rfl) rfl
        obtain rfl : .slice (some ⟨vb, vo, none⟩) n vc = v0 := Eq.symm e0
        obtain ⟨v1, h1, e1⟩ := ht.dep 7 73 (by kernel_rfl) rfl
        obtain rfl : .int .i64 ((i : Int) + (k : Int)) = v1 := Eq.symm e1
        obtain ⟨u8, hrun8, hr8, hb8⟩ := rdL_cut_lo (HVD.out w' hG) (i := i + k) (by rw [HN.out]; omega)
        rw [show ((i + k : Nat) : Int) = (i : Int) + (k : Int) by omega] at hrun8
        exact .inl ⟨u8, w', by simp [execOp, go_sem, Act.eval, h0, h1, hrun8], ⟨hr8, fun q hq => HVB.out q (hb8 q hq)⟩, by first | exact Frm.refl _ _ | (simp; exact Frm.refl _ _), jStep hJ (by decide) (by decide) rfl⟩
      · obtain ⟨v0, h0, e0⟩ := ht.dep 3 69 (by kernel_rfl) rfl
        replace e0 : (fun u X => u = y3 ∧ (y3.ownBlock ≠ none → N < X.heap.size)) v0 w' := e0
        obtain ⟨v1, h1, e1⟩ := ht.dep 8 74 (by kernel_rfl) rfl
        replace e1 : (fun u X => RdL X u (L.drop (i + k)) ∧ ∀ q, u.ownBlock = some q → q < N) v1 w' := e1
        obtain ⟨rfl, hbig⟩ := e0
        have hrow : w'.ownsRow N 9 1 v0 (L.take i).length ((L.take i).map strV) := (by
          by_cases hown : v0.ownBlock = none
          · exact HROWN.out hown w'
          · have hL3 : L' 3 = true := (by
              cases h : L' 3 with
              | true => rfl
              | false =>
                have h2 := (hJ hown).1 h
                have h3 := hbig hown
                rw [h2] at h3
                exact absurd h3 (by have := HD0.out; omega))
            rw [(hJ hown).2 hL3 hLi]
            exact HROW1.out)
        obtain ⟨v', w2, hr, h2, h3⟩ := appS w' N v0 (L.take i) hrow v1 (L.drop (i + k)) e1.1 (by rw [List.length_take, List.length_drop, HN.out]; omega) (by have := hG.size; have := HNW.out; omega)
        exact .inl ⟨v', w2, by simp [execOp, resolve, invoke, builtin, Act.eval, h0, h1, hr, Result.andThen], h2, by simpa using h3, fun hown => ⟨fun h => (by
          have h9 : L' 3 = false := (by rwa [more_other _ (by decide)] at h)
          have h2 := (hJ hown).1 h9
          have h3 := hbig hown
          rw [h2] at h3
          exact absurd h3 (by have := HD0.out; omega)), fun _ h => (by rw [more_same] at h; cases h)⟩⟩
    case htail =>
      intro a' w' Lq hde hsz hG hLq hJ hall hfree
      obtain ⟨u0, k0, e0⟩ := hall 0 _ 66 (by omega) rfl rfl
      obtain rfl : .slice (some ⟨vb, vo, none⟩) n vc = u0 := Eq.symm e0
      obtain ⟨u1, k1, e1⟩ := hall 1 _ 67 (by omega) rfl rfl
      obtain rfl : .int .i64 (i : Int) = u1 := Eq.symm e1
      obtain ⟨u2, k2, e2⟩ := hall 2 _ 68 (by omega) rfl rfl
      obtain rfl : .slice (some ⟨vb, vo, none⟩) i vc = u2 := Eq.symm e2
      obtain ⟨u3, k3, r3⟩ := hall 3 _ 69 (by omega) rfl rfl
      replace r3 : (fun u X => u = y3 ∧ (y3.ownBlock ≠ none → N < X.heap.size)) u3 w' := r3
      obtain rfl : y3 = u3 := r3.1.symm
      obtain ⟨u4, k4, e4⟩ := hall 4 _ 70 (by omega) rfl rfl
      obtain rfl : .slice (some ⟨vb, vo, none⟩) n vc = u4 := Eq.symm e4
      obtain ⟨u5, k5, e5⟩ := hall 5 _ 71 (by omega) rfl rfl
      obtain rfl : .int .i64 (i : Int) = u5 := Eq.symm e5
      obtain ⟨u6, k6, e6⟩ := hall 6 _ 72 (by omega) rfl rfl
      obtain rfl : .int .i64 (k : Int) = u6 := Eq.symm e6
      obtain ⟨u7, k7, e7⟩ := hall 7 _ 73 (by omega) rfl rfl
      obtain rfl : .int .i64 ((i : Int) + (k : Int)) = u7 := Eq.symm e7
      obtain ⟨u8, k8, -⟩ := hall 8 _ 74 (by omega) rfl rfl
      obtain ⟨u9, k9, r9⟩ := hall 9 _ 75 (by omega) rfl rfl
      replace r9 : (fun u X => X.ownsRow N 9 1 u (L.take i ++ L.drop (i + k)).length ((L.take i ++ L.drop (i + k)).map strV)) u9 w' := r9
      rw [← HR.out, HRL.out] at r9
      have hfm := ownsRow_form r9
      obtain ⟨za, zc, rfl, _, _⟩ := hfm
      obtain ⟨tm, df⟩ := a'
      simp only at hde hsz hfree k0 k1 k2 k3 k4 k5 k6 k7 k8 k9
      have htm := tmps_of [(66, .slice (some ⟨vb, vo, none⟩) n vc), (67, .int .i64 (i : Int)), (68, .slice (some ⟨vb, vo, none⟩) i vc), (69, y3), (70, .slice (some ⟨vb, vo, none⟩) n vc), (71, .int .i64 (i : Int)), (72, .int .i64 (k : Int)), (73, .int .i64 ((i : Int) + (k : Int))), (74, u8), (75, .slice za rl zc)] _ (hsz.trans (show 83 = _ from rfl)) (by
        intro q hq
        simp only [List.mem_cons, List.not_mem_nil, or_false] at hq
        rcases hq with rfl | rfl | rfl | rfl | rfl | rfl | rfl | rfl | rfl | rfl
        all_goals assumption) (fun d hd => hfree d (fun j q hj hq => (by
          rcases (by omega : j = 0 ∨ j = 1 ∨ j = 2 ∨ j = 3 ∨ j = 4 ∨ j = 5 ∨ j = 6 ∨ j = 7 ∨ j = 8 ∨ j = 9) with rfl | rfl | rfl | rfl | rfl | rfl | rfl | rfl | rfl | rfl
          all_goals (obtain rfl := Option.some.inj hq; exact fun e => hd (by have e2 := Option.some.inj e; subst e2; simp)))))
      subst hde
      simp only [List.foldl_cons, List.foldl_nil, List.setIfInBounds_toArray, List.set_cons_succ, List.set_cons_zero] at htm
      subst htm
      clear hall hfree k0 k1 k2 k3 k4 k5 k6 k7 k8 k9
      have hs6 := HNW.out
      have hFX : Frm [] w6.drew w' := (Frm.refl [] _).trans hG (fun q hq => .inr (by have := HU3.out q hq; omega))
      have hFX6 := hFX.ofDrew
      have hFw := HF6.out.trans hFX6 (by simp)
      have hbX := HB6.out.frm0 hFX6
      have hrdX : RdL w' (.slice za rl zc) R := rdL_row (by rw [HRL.out]; exact r9)
      have HBX := Lib.hid hbX
      have HRDX := Lib.hid hrdX
      have HFw := Lib.hid hFw
      clear hG hJ hLq hFX hFX6 hFw hbX hrdX r9
      by_cases hr0 : rl = 0
      · have hRn : R = [] := List.eq_nil_of_length_eq_zero (HRL.out.trans hr0)
        have hz : ((rl : Int) == 0) = true := by rw [beq_iff_eq]; omega
        obtain ⟨A6, hA6⟩ : ∃ A6, A6 = w'.alloc (.cells #[.string ⟨#[]⟩] 9 (0, 0)) := ⟨_, rfl⟩
        have hFA6 : Frm [] w' A6 := by rw [hA6]; exact (Frm.refl [] w').alloc _
        have hwh := bWhole (HBX.out.frm0 hFA6) (by decide) (HM.out.frm (HFw.out.trans hFA6 (by simp))) _ (by rw [HCJ2.out, hRn, hA6]; exact rowOf w' [[]] _ rfl)
        have HWH6 := Lib.hid hwh
        have HFZ := Lib.hid (HFw.out.trans hFA6 (by simp))
        have HA6 := Lib.hid hA6
        clear hRn hFA6 hwh hr0
        gi_wp2_with fail
        go_wp2_with fail
        try rw [← hA6]
        clear hA6
        refine HWH6.out.mono ?_
        rintro e w9 ⟨rfl, hf9⟩
        go_wp2_with fail
        go_ret
        exact ⟨rfl, HFZ.out.trans hf9 (by simp)⟩
      · have hRn : some1 R = R := some1_of_ne (fun e => hr0 (by rw [← HRL.out, e]; rfl))
        have hz : ((rl : Int) == 0) = false := by rw [beq_eq_false_iff_ne]; omega
        have hwh := bWhole HBX.out (by decide) (HM.out.frm HFw.out) _ (by rw [HCJ2.out, hRn]; exact HRDX.out)
        have HWH6 := Lib.hid hwh
        clear hRn hwh hr0
        gi_wp2_with fail
        go_wp2_with fail
        refine HWH6.out.mono ?_
        rintro e w9 ⟨rfl, hf9⟩
        go_wp2_with fail
        go_ret
        exact ⟨rfl, HFw.out.trans hf9 (by simp)⟩
  · rw [decide_eq_false htx] at ht
    have HT := Lib.hid ht
    obtain ⟨va, vc, rfl⟩ := hv.form
    clear ht hv hm hb htx
    generalize L.length = n at *
    go_enter Tryz.func7, Tryz.ntmps7
    go_wp2_with fail
    refine hk.mono ?_
    rintro e w1 ⟨rfl, hf1⟩
    have HF1 := Lib.hid hf1
    clear hk hf1
    go_wp2_with fail
    refine (HT.out w1 HF1.out).mono ?_
    rintro e wq ⟨rfl, hwq⟩
    obtain rfl := hwq.symm
    clear hwq
    go_wp2_with fail
    go_ret
    exact ⟨rfl, HF1.out⟩

end Go.Proofs.YtnajkjgjeiodmaaGreatDoor
