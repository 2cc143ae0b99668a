/-
  THE WALK OF foolscaplaw33.MacroPlays: it returns true at every arguments, and changes nothing that lay in memory. Conditions: the library's MaxLen is a number.
-/
import Derived.Test.YtaobohlcpgnebaaDoorRa
import Derived.Test.YtaobohlcpgnebaaDoorBase6
namespace Go.Proofs.YtaobohlcpgnebaaDoor
open Go.RowKit
open Go.Proofs (Tryd.prog)

theorem sameB_cell {B : List Nat} {X Y : World} (h : SameB B X Y) {p : Addr} {v : Value} (hc : X.cell? p = some v) (hp : p.block ∈ B) : Y.cell? p = some v := (World.cell?_of_block (h p.block hp)).trans hc
theorem tmod5 (n : Int) : -5 < n.tmod 5 ∧ n.tmod 5 < 5 := by
  rcases Int.le_total 0 n with h | h
  · rw [Int.tmod_eq_emod_of_nonneg h]; omega
  · have h2 : n.tmod 5 = -((-n).tmod 5) := by rw [Int.neg_tmod, Int.neg_neg]
    rw [h2, Int.tmod_eq_emod_of_nonneg (by omega)]; omega
/-- Both stacks while the statement's two pushes run. -/
def jTwoP (w : World) (Bx x y : Nat) (az az2 : List AF) (r F D : Nat) (L : Nat → Bool) (W : World) : Prop := Two w [Bx] x y (if L 6 then az2 else az) r (if L 13 then az2 else az) r F D W
theorem jTwo {w : World} {Bx x y : Nat} {az az2 : List AF} {r F D i : Nat} {L : Nat → Bool} {W : World} (h6 : i ≠ 6) (h13 : i ≠ 13) (h : jTwoP w Bx x y az az2 r F D L W) : jTwoP w Bx x y az az2 r F D (more L i) W := by
  unfold jTwoP at h ⊢
  rw [more_other _ (fun e => h6 e.symm), more_other _ (fun e => h13 e.symm)]
  exact h
theorem jTwoS {w : World} {Bx x y : Nat} {az az2 : List AF} {r F D : Nat} {L : Nat → Bool} {W : World} (h : Two w [Bx] x y az2 r (if L 13 then az2 else az) r F D W) : jTwoP w Bx x y az az2 r F D (more L 6) W := by
  unfold jTwoP
  rw [more_same, more_other _ (by decide)]
  exact h
theorem jTwoW {w : World} {Bx x y : Nat} {az az2 : List AF} {r F D : Nat} {L : Nat → Bool} {W : World} (h : Two w [Bx] x y (if L 6 then az2 else az) r az2 r F D W) : jTwoP w Bx x y az az2 r F D (more L 13) W := by
  unfold jTwoP
  rw [more_same, more_other _ (by decide)]
  exact h
def mp20R (x y Bx : Nat) (kv : Value) (n : Int) (ok : Bool) : Nat → Value → World → Prop := fun q u w => (([(fun u _ => u = .pointer (some ⟨x, 0, none⟩)),
    (fun u _ => u = .pointer (some ⟨Bx, 1, none⟩)),
    (fun u _ => u = kv),
    (fun u _ => u = .pointer (some ⟨Bx, 2, none⟩)),
    (fun u _ => u = .int .i64 n),
    (fun u _ => u = .int .i64 (n.tmod 5)),
    (fun u _ => u = .bool ok),
    (fun u _ => u = .pointer (some ⟨y, 0, none⟩)),
    (fun u _ => u = .pointer (some ⟨Bx, 1, none⟩)),
    (fun u _ => u = kv),
    (fun u _ => u = .pointer (some ⟨Bx, 2, none⟩)),
    (fun u _ => u = .int .i64 n),
    (fun u _ => u = .int .i64 (n.tmod 5)),
    (fun u _ => u = .bool ok)] : List (Value → World → Prop)).getD q fun _ _ => False) u w

set_option maxRecDepth 100000 in
set_option maxHeartbeats 12800000 in
theorem macroPlays (w : World) (fuel depth : Int) (la : Option Addr) (len cap : Nat) (hf0 : -9223372036854775808 ≤ fuel) (hf1 : fuel ≤ 9223372036854775807) (hd0 : -9223372036854775808 ≤ depth) (hd1 : depth ≤ 9223372036854775807) (hlen : len ≤ maxLen)
    (ha : ∀ i, i < len → ∃ (q : Addr) (v : Nat) (K : List UInt8) (kv : Value) (n : Int), la = some q ∧ v ≤ 255 ∧ RdB w kv K ∧ K.length ≤ 9223372036854775807 ∧ -9223372036854775808 ≤ n ∧ n ≤ 9223372036854775807 ∧ w.cell? (q.add (i * 3)) = some (.int .u8 (v : Int)) ∧ w.cell? ⟨(q.add (i * 3)).block, (q.add (i * 3)).off + 1, none⟩ = some kv ∧ w.cell? ⟨(q.add (i * 3)).block, (q.add (i * 3)).off + 2, none⟩ = some (.int .i64 n)) (hm : MaxLenIs w) :
    Calls Tryd.prog 10 #[.int .i64 fuel, .int .i64 depth, .slice la len cap] w fun e w' => e = .returned (.bool true) ∧ Frm [] w w' := by
  have hkn := known33 w hm
  have HA := Lib.hid ha
  have hF : -60 < fuel.tmod 60 ∧ fuel.tmod 60 < 60 := by
    rcases Int.le_total 0 fuel with h | h
    · rw [Int.tmod_eq_emod_of_nonneg h]; omega
    · have h2 : fuel.tmod 60 = -((-fuel).tmod 60) := by rw [Int.neg_tmod, Int.neg_neg]
      rw [h2, Int.tmod_eq_emod_of_nonneg (by omega)]; omega
  have hD : -6 < depth.tmod 6 ∧ depth.tmod 6 < 6 := by
    rcases Int.le_total 0 depth with h | h
    · rw [Int.tmod_eq_emod_of_nonneg h]; omega
    · have h2 : depth.tmod 6 = -((-depth).tmod 6) := by rw [Int.neg_tmod, Int.neg_neg]
      rw [h2, Int.tmod_eq_emod_of_nonneg (by omega)]; omega
  unfold maxLen at hlen
  clear ha hm
  go_enter Tryd.func10, Tryd.ntmps10
  go_wp2_with fail
  refine hkn.mono ?_
  rintro e w1 ⟨rfl, hf1'⟩
  have HF1 := Lib.hid hf1'
  clear hkn hf1'
  by_cases h80 : 80 < len
  · go_wp2_with fail
    go_ret
    exact ⟨rfl, HF1.out⟩
  · have e80 : decide ((80 : Int) < (len : Int)) = false := decide_eq_false (by omega)
    go_wp2_with fail
    refine (makNew w1 (fuel.tmod 60) (depth.tmod 6) (by omega) (by omega) (by omega) (by omega)).mono ?_
    rintro e w2 ⟨x, fp, rfl, hk2, hf2, hb2⟩
    have HK2 := Lib.hid hk2
    have HF2 := Lib.hid hf2
    have HB2 := Lib.hid hb2
    clear hk2 hf2 hb2
    go_wp2_with fail
    refine (rakNew w2 (fuel.tmod 60) (depth.tmod 6) (by omega) (by omega) (by omega) (by omega)).mono ?_
    rintro e w3 ⟨y, fq, rfl, hk3, hf3, hb3⟩
    obtain ⟨F, hFe⟩ : ∃ F, (fuel.tmod 60).toNat = F := ⟨_, rfl⟩
    obtain ⟨D, hDe⟩ : ∃ D, (depth.tmod 6).toNat = D := ⟨_, rfl⟩
    have hk2' := HK2.out
    rw [hFe, hDe] at hk3 hk2'
    have hFl : F ≤ 59 := by omega
    have hDl : D ≤ 5 := by omega
    have HT := Lib.hid (show Two w [] x y [] F [] F F D w3 from ⟨fp, fq, hk2'.frm hf3 (by simp), hk3, fun b hb => ⟨fun hm => by
      have q1 := hk2'.lt b hb
      have q2 := hb3 b hm
      omega, Nat.le_trans HF1.out.size (HB2.out b hb)⟩, fun b hb => Nat.le_trans (HF1.out.trans HF2.out (by simp)).size (hb3 b hb), by simp, (HF1.out.trans HF2.out (by simp)).trans hf3 (by simp)⟩)
    clear hk3 hf3 hb3 hk2' hFe hDe hF hD
    go_wp2_with fail
    go_loopw [9] (fun i wr => ∃ (k : Nat) (az : List AF) (r : Nat), k ≤ len ∧ i = .int .i64 (k : Int) ∧ Two w [] x y az r az r F D wr) (fun i _ => len - (intOf i).toNat)
    case atStart => exact ⟨0, [], F, by omega, rfl, HT.out⟩
    case round =>
      obtain ⟨k, az, r, hk, rfl, ht⟩ := hrel
      have HTR := Lib.hid ht
      by_cases hlt : k < len
      · obtain ⟨q, v, K, kv, n, rfl, hv, hkv, hKl, hn0, hn1, c0, c1, c2⟩ := HA.out k hlt
        obtain ⟨ka, kc, rfl⟩ := hkv.form
        have d0 := ht.fin.cell c0 (by simp)
        have d1 := ht.fin.cell c1 (by simp)
        have d2 := ht.fin.cell c2 (by simp)
        have htb := ht.alloc (.cells #[.int .u8 (v : Int), .slice ka K.length kc, .int .i64 n] 53)
        have hbx := heap_alloc_at wr (.cells #[.int .u8 (v : Int), .slice ka K.length kc, .int .i64 n] 53)
        have HKV := Lib.hid hkv
        have HTB := Lib.hid htb
        have HBX := Lib.hid hbx
        clear c0 c1 c2 ht htb hbx hkv
        by_cases h8 : 8 < K.length
        · go_wp2_with fail
          go_ret
          exact ⟨rfl, HTB.out.fin⟩
        · have e8 : decide ((8 : Int) < (K.length : Int)) = false := decide_eq_false (by omega)
          have hb0 := cell_of_heap (i := 0) HBX.out rfl
          have hB1 := cell_of_heap (i := 1) HBX.out rfl
          have hB2 := cell_of_heap (i := 2) HBX.out rfl
          have hfew := HTR.out.few
          rcases (by omega : v % 8 = 0 ∨ v % 8 = 1 ∨ v % 8 = 6 ∨ v % 8 = 7 ∨ (v % 8 ≠ 0 ∧ v % 8 ≠ 1 ∧ v % 8 ≠ 6 ∧ v % 8 ≠ 7)) with hv8 | hv8 | hv8 | hv8 | hv8
          · have t0 : (((v : Int) % 8) == 0) = true := by rw [beq_iff_eq]; omega
            obtain ⟨h5a, h5b⟩ := tmod5 n
            have hwm : IntKind.i64.wrap (n.tmod 5) = n.tmod 5 := by rw [IntKind.wrap_i64]; omega
            have hJ0 : jTwoP w wr.heap.size x y az (pushed D az K (n.tmod 5)) r F D (fun _ => false) (wr.alloc (.cells #[.int .u8 (v : Int), .slice ka K.length kc, .int .i64 n] 53)).drew := HTB.out.frm ((Frm.refl [] _).drew)
            clear hv8 hfew hb0
            go_wp2_with fail
            refine (wpIn_wide (n := 3)).1 ?_
            refine wpIn_region_joint (size := 140) wide_wide 14 (mp20R x y wr.heap.size (.slice ka K.length kc) n (pushOk D az K (n.tmod 5))) (SameB [wr.heap.size]) (fun _ => SameB [wr.heap.size]) (jTwoP w wr.heap.size x y az (pushed D az K (n.tmod 5)) r F D) mixed (by kernel_rfl) (by kernel_rfl) (by decide) (by kernel_rfl) (by kernel_rfl) (by kernel_rfl) (by kernel_rfl) rfl (fun h k => h.trans k) (SameB.refl _ _) (fun _ _ _ _ h => h) ?hR hJ0 ?hgd ?hrun ?htail
            case hR =>
              intro qi qj qv A B hi hj hij h hf
              rcases (by omega : qi = 0 ∨ qi = 1 ∨ qi = 2 ∨ qi = 3 ∨ qi = 4 ∨ qi = 5 ∨ qi = 6 ∨ qi = 7 ∨ qi = 8 ∨ qi = 9 ∨ qi = 10 ∨ qi = 11 ∨ qi = 12 ∨ qi = 13) with rfl | rfl | rfl | rfl | rfl | rfl | rfl | rfl | rfl | rfl | rfl | rfl | rfl | rfl
              all_goals exact h
            case hgd =>
              intro qi qo qg qb hi ho hgo qv A hv
              rcases (by omega : qi = 0 ∨ qi = 1 ∨ qi = 2 ∨ qi = 3 ∨ qi = 4 ∨ qi = 5 ∨ qi = 6 ∨ qi = 7 ∨ qi = 8 ∨ qi = 9 ∨ qi = 10 ∨ qi = 11 ∨ qi = 12 ∨ qi = 13) with rfl | rfl | rfl | rfl | rfl | rfl | rfl | rfl | rfl | rfl | rfl | rfl | rfl | rfl
              all_goals obtain rfl := Option.some.inj ho
              all_goals first
                | (cases hgo; done)
                | (cases hgo; exact hv)
            case hrun =>
              intro qi hi qo ho qa w' L hG ht hLi hJ
              rcases (by omega : qi = 0 ∨ qi = 1 ∨ qi = 2 ∨ qi = 3 ∨ qi = 4 ∨ qi = 5 ∨ qi = 6 ∨ qi = 7 ∨ qi = 8 ∨ qi = 9 ∨ qi = 10 ∨ qi = 11 ∨ qi = 12 ∨ qi = 13) with rfl | rfl | rfl | rfl | rfl | rfl | rfl | rfl | rfl | rfl | rfl | rfl | rfl | rfl
              all_goals obtain rfl := Option.some.inj ho
              · have h0 := ht.free 7 (by kernel_rfl)
                exact .inl ⟨_, _, by simp [execOp, go_sem, Act.eval, h0]; first | rfl | exact ⟨rfl, rfl⟩, by exact rfl, by exact SameB.refl _ _, jTwo (by decide) (by decide) hJ⟩
              · have h0 := ht.free 10 (by kernel_rfl)
                exact .inl ⟨_, _, by simp [execOp, go_sem, Act.eval, h0]; first | rfl | exact ⟨rfl, rfl⟩, by exact rfl, by exact SameB.refl _ _, jTwo (by decide) (by decide) hJ⟩
              · obtain ⟨v0, h0, e0⟩ := ht.dep 1 69 (by kernel_rfl) rfl
                obtain rfl : .pointer (some ⟨wr.heap.size, 1, none⟩) = v0 := Eq.symm e0
                have hcl := sameB_cell hG hB1 (by simp)
                exact .inl ⟨_, _, by simp [execOp, go_sem, Act.eval, h0, hcl]; first | rfl | exact ⟨rfl, rfl⟩, by exact rfl, by exact SameB.refl _ _, jTwo (by decide) (by decide) hJ⟩
              · have h0 := ht.free 10 (by kernel_rfl)
                exact .inl ⟨_, _, by simp [execOp, go_sem, Act.eval, h0]; first | rfl | exact ⟨rfl, rfl⟩, by exact rfl, by exact SameB.refl _ _, jTwo (by decide) (by decide) hJ⟩
              · obtain ⟨v0, h0, e0⟩ := ht.dep 3 71 (by kernel_rfl) rfl
                obtain rfl : .pointer (some ⟨wr.heap.size, 2, none⟩) = v0 := Eq.symm e0
                have hcl := sameB_cell hG hB2 (by simp)
                exact .inl ⟨_, _, by simp [execOp, go_sem, Act.eval, h0, hcl]; first | rfl | exact ⟨rfl, rfl⟩, by exact rfl, by exact SameB.refl _ _, jTwo (by decide) (by decide) hJ⟩
              · obtain ⟨v0, h0, e0⟩ := ht.dep 4 72 (by kernel_rfl) rfl
                obtain rfl : .int .i64 n = v0 := Eq.symm e0
                exact .inl ⟨_, _, by simp [execOp, go_sem, Act.eval, h0, hwm]; first | rfl | exact ⟨rfl, rfl⟩, by exact rfl, by exact SameB.refl _ _, jTwo (by decide) (by decide) hJ⟩
              · obtain ⟨v0, h0, e0⟩ := ht.dep 0 68 (by kernel_rfl) rfl
                obtain rfl : .pointer (some ⟨x, 0, none⟩) = v0 := Eq.symm e0
                obtain ⟨v1, h1, e1⟩ := ht.dep 2 70 (by kernel_rfl) rfl
                obtain rfl : .slice ka K.length kc = v1 := Eq.symm e1
                obtain ⟨v2, h2, e2⟩ := ht.dep 5 73 (by kernel_rfl) rfl
                obtain rfl : .int .i64 (n.tmod 5) = v2 := Eq.symm e2
                refine .inr ⟨23, #[.pointer (some ⟨x, 0, none⟩), .slice ka K.length kc, .int .i64 (n.tmod 5)], by simp [execOp, go_sem, Act.eval, h0, h1, h2], ?_⟩
                unfold jTwoP at hJ
                rw [hLi] at hJ
                refine (tPushS hJ (.slice ka K.length kc) K (n.tmod 5) (by omega) (by omega) HKV.out).mono ?_
                rintro e w'' ⟨rfl, h2, hs⟩
                exact ⟨_, rfl, rfl, hs, jTwoS h2⟩
              · have h0 := ht.free 8 (by kernel_rfl)
                exact .inl ⟨_, _, by simp [execOp, go_sem, Act.eval, h0]; first | rfl | exact ⟨rfl, rfl⟩, by exact rfl, by exact SameB.refl _ _, jTwo (by decide) (by decide) hJ⟩
              · have h0 := ht.free 10 (by kernel_rfl)
                exact .inl ⟨_, _, by simp [execOp, go_sem, Act.eval, h0]; first | rfl | exact ⟨rfl, rfl⟩, by exact rfl, by exact SameB.refl _ _, jTwo (by decide) (by decide) hJ⟩
              · obtain ⟨v0, h0, e0⟩ := ht.dep 8 76 (by kernel_rfl) rfl
                obtain rfl : .pointer (some ⟨wr.heap.size, 1, none⟩) = v0 := Eq.symm e0
                have hcl := sameB_cell hG hB1 (by simp)
                exact .inl ⟨_, _, by simp [execOp, go_sem, Act.eval, h0, hcl]; first | rfl | exact ⟨rfl, rfl⟩, by exact rfl, by exact SameB.refl _ _, jTwo (by decide) (by decide) hJ⟩
              · have h0 := ht.free 10 (by kernel_rfl)
                exact .inl ⟨_, _, by simp [execOp, go_sem, Act.eval, h0]; first | rfl | exact ⟨rfl, rfl⟩, by exact rfl, by exact SameB.refl _ _, jTwo (by decide) (by decide) hJ⟩
              · obtain ⟨v0, h0, e0⟩ := ht.dep 10 78 (by kernel_rfl) rfl
                obtain rfl : .pointer (some ⟨wr.heap.size, 2, none⟩) = v0 := Eq.symm e0
                have hcl := sameB_cell hG hB2 (by simp)
                exact .inl ⟨_, _, by simp [execOp, go_sem, Act.eval, h0, hcl]; first | rfl | exact ⟨rfl, rfl⟩, by exact rfl, by exact SameB.refl _ _, jTwo (by decide) (by decide) hJ⟩
              · obtain ⟨v0, h0, e0⟩ := ht.dep 11 79 (by kernel_rfl) rfl
                obtain rfl : .int .i64 n = v0 := Eq.symm e0
                exact .inl ⟨_, _, by simp [execOp, go_sem, Act.eval, h0, hwm]; first | rfl | exact ⟨rfl, rfl⟩, by exact rfl, by exact SameB.refl _ _, jTwo (by decide) (by decide) hJ⟩
              · obtain ⟨v0, h0, e0⟩ := ht.dep 7 75 (by kernel_rfl) rfl
                obtain rfl : .pointer (some ⟨y, 0, none⟩) = v0 := Eq.symm e0
                obtain ⟨v1, h1, e1⟩ := ht.dep 9 77 (by kernel_rfl) rfl
                obtain rfl : .slice ka K.length kc = v1 := Eq.symm e1
                obtain ⟨v2, h2, e2⟩ := ht.dep 12 80 (by kernel_rfl) rfl
                obtain rfl : .int .i64 (n.tmod 5) = v2 := Eq.symm e2
                refine .inr ⟨35, #[.pointer (some ⟨y, 0, none⟩), .slice ka K.length kc, .int .i64 (n.tmod 5)], by simp [execOp, go_sem, Act.eval, h0, h1, h2], ?_⟩
                unfold jTwoP at hJ
                rw [hLi] at hJ
                refine (tPushW hJ (.slice ka K.length kc) K (n.tmod 5) (by omega) (by omega) HKV.out).mono ?_
                rintro e w'' ⟨rfl, h2, hs⟩
                exact ⟨_, rfl, rfl, hs, jTwoW h2⟩
            case htail =>
              intro a' w' L hde hsz hG hL hJ hall hfree
              obtain ⟨u0, k0, e0⟩ := hall 0 _ 68 (by omega) rfl rfl
              obtain rfl : .pointer (some ⟨x, 0, none⟩) = u0 := Eq.symm e0
              obtain ⟨u1, k1, e1⟩ := hall 1 _ 69 (by omega) rfl rfl
              obtain rfl : .pointer (some ⟨wr.heap.size, 1, none⟩) = u1 := Eq.symm e1
              obtain ⟨u2, k2, e2⟩ := hall 2 _ 70 (by omega) rfl rfl
              obtain rfl : .slice ka K.length kc = u2 := Eq.symm e2
              obtain ⟨u3, k3, e3⟩ := hall 3 _ 71 (by omega) rfl rfl
              obtain rfl : .pointer (some ⟨wr.heap.size, 2, none⟩) = u3 := Eq.symm e3
              obtain ⟨u4, k4, e4⟩ := hall 4 _ 72 (by omega) rfl rfl
              obtain rfl : .int .i64 n = u4 := Eq.symm e4
              obtain ⟨u5, k5, e5⟩ := hall 5 _ 73 (by omega) rfl rfl
              obtain rfl : .int .i64 (n.tmod 5) = u5 := Eq.symm e5
              obtain ⟨u6, k6, e6⟩ := hall 6 _ 74 (by omega) rfl rfl
              obtain rfl : .bool (pushOk D az K (n.tmod 5)) = u6 := Eq.symm e6
              obtain ⟨u7, k7, e7⟩ := hall 7 _ 75 (by omega) rfl rfl
              obtain rfl : .pointer (some ⟨y, 0, none⟩) = u7 := Eq.symm e7
              obtain ⟨u8, k8, e8⟩ := hall 8 _ 76 (by omega) rfl rfl
              obtain rfl : .pointer (some ⟨wr.heap.size, 1, none⟩) = u8 := Eq.symm e8
              obtain ⟨u9, k9, e9⟩ := hall 9 _ 77 (by omega) rfl rfl
              obtain rfl : .slice ka K.length kc = u9 := Eq.symm e9
              obtain ⟨u10, k10, e10⟩ := hall 10 _ 78 (by omega) rfl rfl
              obtain rfl : .pointer (some ⟨wr.heap.size, 2, none⟩) = u10 := Eq.symm e10
              obtain ⟨u11, k11, e11⟩ := hall 11 _ 79 (by omega) rfl rfl
              obtain rfl : .int .i64 n = u11 := Eq.symm e11
              obtain ⟨u12, k12, e12⟩ := hall 12 _ 80 (by omega) rfl rfl
              obtain rfl : .int .i64 (n.tmod 5) = u12 := Eq.symm e12
              obtain ⟨u13, k13, e13⟩ := hall 13 _ 81 (by omega) rfl rfl
              obtain rfl : .bool (pushOk D az K (n.tmod 5)) = u13 := Eq.symm e13
              obtain ⟨tm, df⟩ := a'
              simp only at hde hsz hfree k0 k1 k2 k3 k4 k5 k6 k7 k8 k9 k10 k11 k12 k13
              have htm := tmps_of [(68, .pointer (some ⟨x, 0, none⟩)), (69, .pointer (some ⟨wr.heap.size, 1, none⟩)), (70, .slice ka K.length kc), (71, .pointer (some ⟨wr.heap.size, 2, none⟩)), (72, .int .i64 n), (73, .int .i64 (n.tmod 5)), (74, .bool (pushOk D az K (n.tmod 5))), (75, .pointer (some ⟨y, 0, none⟩)), (76, .pointer (some ⟨wr.heap.size, 1, none⟩)), (77, .slice ka K.length kc), (78, .pointer (some ⟨wr.heap.size, 2, none⟩)), (79, .int .i64 n), (80, .int .i64 (n.tmod 5)), (81, .bool (pushOk D az K (n.tmod 5)))] _ (hsz.trans (show 140 = _ from rfl)) (by
                intro q hq
                simp only [List.mem_cons, List.not_mem_nil, or_false] at hq
                rcases hq with rfl | rfl | rfl | rfl | rfl | rfl | rfl | rfl | rfl | rfl | rfl | rfl | rfl | rfl
                all_goals assumption) (fun d hd => hfree d (fun j q hj hq => (by
                  rcases (by omega : j = 0 ∨ j = 1 ∨ j = 2 ∨ j = 3 ∨ j = 4 ∨ j = 5 ∨ j = 6 ∨ j = 7 ∨ j = 8 ∨ j = 9 ∨ j = 10 ∨ j = 11 ∨ j = 12 ∨ j = 13) with rfl | rfl | rfl | rfl | rfl | rfl | rfl | rfl | rfl | rfl | rfl | rfl | rfl | rfl
                  all_goals (obtain rfl := Option.some.inj hq; exact fun e => hd (by have e2 := Option.some.inj e; subst e2; simp)))))
              subst hde
              simp only [List.foldl_cons, List.foldl_nil, List.setIfInBounds_toArray, List.set_cons_succ, List.set_cons_zero] at htm
              subst htm
              clear hall hfree k0 k1 k2 k3 k4 k5 k6 k7 k8 k9 k10 k11 k12 k13
              have hTw : Two w [wr.heap.size] x y (pushed D az K (n.tmod 5)) r (pushed D az K (n.tmod 5)) r F D w' := by
                have := hJ
                unfold jTwoP at this
                rw [hL 6 (by omega), hL 13 (by omega)] at this
                exact this
              have HTw := Lib.hid hTw
              clear hG hJ hL hTw hJ0 hwm
              generalize pushOk D az K (n.tmod 5) = ok at *
              generalize pushed D az K (n.tmod 5) = az2 at *
              gi_wp2_with fail
              cases ok
              all_goals
                go_wp2_with fail
                obtain ⟨fpm, hmk⟩ := HTw.out.mac
                obtain ⟨ra, rc, hrf⟩ := HTw.out.ref
                have q0 := cell_of_heap (i := 0) hrf rfl
                have q3 := cell_of_heap (i := 3) hrf rfl
                have hL := fun nq => makLeft (w'.drewN nq) x fpm _ F _ D (hmk.frm ((Frm.refl [] w').drewN nq) (by simp))
                have hDp := fun nq => makDeep (w'.drewN nq) x fpm _ F _ D (hmk.frm ((Frm.refl [] w').drewN nq) (by simp))
                have hY := fun nq => makDry (w'.drewN nq) x fpm _ F _ D (hmk.frm ((Frm.refl [] w').drewN nq) (by simp))
                have hfew := HTw.out.few
                obtain ⟨m, hm⟩ : ∃ m, (az2).length = m := ⟨_, rfl⟩
                rw [hm] at q0 hfew
                simp only [hm] at hDp hY
                have hml : m ≤ 5 := by omega
                have hrl : r ≤ 59 := by omega
                clear hmk hrf hm hfew
                generalize r = r2 at *
                by_cases hm0 : m = 0
                · have hp : decide ((0 : Int) < (m : Int)) = false := decide_eq_false (by omega)
                  have hp2 : decide (0 < m) = false := decide_eq_false (by omega)
                  have hy : (decide (0 < m) && decide (r2 = 0)) = false := by simp [hm0]
                  simp only [hy] at hY
                  clear hy hm0
                  go_quiet ((first | (go_at_call 25; exact Calls.quiet_of_same (hL _)) | (go_at_call 33; exact Calls.quiet_of_same (hDp _)) | (go_at_call 26; exact Calls.quiet_of_same (hY _))))
                  go_wp2_with fail
                  go_roundw
                  case rel => exact ⟨k + 1, _, r2, by omega, by go_num, HTw.out.free.frm ((Frm.refl [] w').drewN _)⟩
                  case measure => simp [intOf]; omega
                · have hp : decide ((0 : Int) < (m : Int)) = true := decide_eq_true (by omega)
                  have hp2 : decide (0 < m) = true := decide_eq_true (by omega)
                  by_cases hr0 : r2 = 0
                  · have hy : (decide (0 < m) && decide (r2 = 0)) = true := by simp [hr0]; omega
                    have hz : ((r2 : Int) == 0) = true := by rw [hr0]; rfl
                    simp only [hy] at hY
                    clear hy hm0 hr0
                    go_quiet ((first | (go_at_call 25; exact Calls.quiet_of_same (hL _)) | (go_at_call 33; exact Calls.quiet_of_same (hDp _)) | (go_at_call 26; exact Calls.quiet_of_same (hY _))))
                    go_wp2_with fail
                    go_roundw
                    case rel => exact ⟨k + 1, _, r2, by omega, by go_num, HTw.out.free.frm ((Frm.refl [] w').drewN _)⟩
                    case measure => simp [intOf]; omega
                  · have hy : (decide (0 < m) && decide (r2 = 0)) = false := by simp [hr0]
                    have hz : ((r2 : Int) == 0) = false := beq_eq_false_iff_ne.2 (by omega)
                    simp only [hy] at hY
                    clear hy hm0 hr0
                    go_quiet ((first | (go_at_call 25; exact Calls.quiet_of_same (hL _)) | (go_at_call 33; exact Calls.quiet_of_same (hDp _)) | (go_at_call 26; exact Calls.quiet_of_same (hY _))))
                    go_wp2_with fail
                    go_roundw
                    case rel => exact ⟨k + 1, _, r2, by omega, by go_num, HTw.out.free.frm ((Frm.refl [] w').drewN _)⟩
                    case measure => simp [intOf]; omega
          · have t0 : (((v : Int) % 8) == 0) = false := beq_eq_false_iff_ne.2 (by omega)
            have t1 : (((v : Int) % 8) == 1) = true := by rw [beq_iff_eq]; omega
            obtain ⟨h5a, h5b⟩ := tmod5 n
            have hwm : IntKind.i64.wrap (n.tmod 5) = n.tmod 5 := by rw [IntKind.wrap_i64]; omega
            have hJ0 : jTwoP w wr.heap.size x y az (pushed D az K (n.tmod 5)) r F D (fun _ => false) (wr.alloc (.cells #[.int .u8 (v : Int), .slice ka K.length kc, .int .i64 n] 53)).drew := HTB.out.frm ((Frm.refl [] _).drew)
            clear hv8 hfew hb0
            go_wp2_with fail
            refine (wpIn_wide (n := 3)).1 ?_
            refine wpIn_region_joint (size := 140) wide_wide 14 (mp20R x y wr.heap.size (.slice ka K.length kc) n (pushOk D az K (n.tmod 5))) (SameB [wr.heap.size]) (fun _ => SameB [wr.heap.size]) (jTwoP w wr.heap.size x y az (pushed D az K (n.tmod 5)) r F D) mixed (by kernel_rfl) (by kernel_rfl) (by decide) (by kernel_rfl) (by kernel_rfl) (by kernel_rfl) (by kernel_rfl) rfl (fun h k => h.trans k) (SameB.refl _ _) (fun _ _ _ _ h => h) ?hR hJ0 ?hgd ?hrun ?htail
            case hR =>
              intro qi qj qv A B hi hj hij h hf
              rcases (by omega : qi = 0 ∨ qi = 1 ∨ qi = 2 ∨ qi = 3 ∨ qi = 4 ∨ qi = 5 ∨ qi = 6 ∨ qi = 7 ∨ qi = 8 ∨ qi = 9 ∨ qi = 10 ∨ qi = 11 ∨ qi = 12 ∨ qi = 13) with rfl | rfl | rfl | rfl | rfl | rfl | rfl | rfl | rfl | rfl | rfl | rfl | rfl | rfl
              all_goals exact h
            case hgd =>
              intro qi qo qg qb hi ho hgo qv A hv
              rcases (by omega : qi = 0 ∨ qi = 1 ∨ qi = 2 ∨ qi = 3 ∨ qi = 4 ∨ qi = 5 ∨ qi = 6 ∨ qi = 7 ∨ qi = 8 ∨ qi = 9 ∨ qi = 10 ∨ qi = 11 ∨ qi = 12 ∨ qi = 13) with rfl | rfl | rfl | rfl | rfl | rfl | rfl | rfl | rfl | rfl | rfl | rfl | rfl | rfl
              all_goals obtain rfl := Option.some.inj ho
              all_goals first
                | (cases hgo; done)
                | (cases hgo; exact hv)
            case hrun =>
              intro qi hi qo ho qa w' L hG ht hLi hJ
              rcases (by omega : qi = 0 ∨ qi = 1 ∨ qi = 2 ∨ qi = 3 ∨ qi = 4 ∨ qi = 5 ∨ qi = 6 ∨ qi = 7 ∨ qi = 8 ∨ qi = 9 ∨ qi = 10 ∨ qi = 11 ∨ qi = 12 ∨ qi = 13) with rfl | rfl | rfl | rfl | rfl | rfl | rfl | rfl | rfl | rfl | rfl | rfl | rfl | rfl
              all_goals obtain rfl := Option.some.inj ho
              · have h0 := ht.free 7 (by kernel_rfl)
                exact .inl ⟨_, _, by simp [execOp, go_sem, Act.eval, h0]; first | rfl | exact ⟨rfl, rfl⟩, by exact rfl, by exact SameB.refl _ _, jTwo (by decide) (by decide) hJ⟩
              · have h0 := ht.free 10 (by kernel_rfl)
                exact .inl ⟨_, _, by simp [execOp, go_sem, Act.eval, h0]; first | rfl | exact ⟨rfl, rfl⟩, by exact rfl, by exact SameB.refl _ _, jTwo (by decide) (by decide) hJ⟩
              · obtain ⟨v0, h0, e0⟩ := ht.dep 1 69 (by kernel_rfl) rfl
                obtain rfl : .pointer (some ⟨wr.heap.size, 1, none⟩) = v0 := Eq.symm e0
                have hcl := sameB_cell hG hB1 (by simp)
                exact .inl ⟨_, _, by simp [execOp, go_sem, Act.eval, h0, hcl]; first | rfl | exact ⟨rfl, rfl⟩, by exact rfl, by exact SameB.refl _ _, jTwo (by decide) (by decide) hJ⟩
              · have h0 := ht.free 10 (by kernel_rfl)
                exact .inl ⟨_, _, by simp [execOp, go_sem, Act.eval, h0]; first | rfl | exact ⟨rfl, rfl⟩, by exact rfl, by exact SameB.refl _ _, jTwo (by decide) (by decide) hJ⟩
              · obtain ⟨v0, h0, e0⟩ := ht.dep 3 71 (by kernel_rfl) rfl
                obtain rfl : .pointer (some ⟨wr.heap.size, 2, none⟩) = v0 := Eq.symm e0
                have hcl := sameB_cell hG hB2 (by simp)
                exact .inl ⟨_, _, by simp [execOp, go_sem, Act.eval, h0, hcl]; first | rfl | exact ⟨rfl, rfl⟩, by exact rfl, by exact SameB.refl _ _, jTwo (by decide) (by decide) hJ⟩
              · obtain ⟨v0, h0, e0⟩ := ht.dep 4 72 (by kernel_rfl) rfl
                obtain rfl : .int .i64 n = v0 := Eq.symm e0
                exact .inl ⟨_, _, by simp [execOp, go_sem, Act.eval, h0, hwm]; first | rfl | exact ⟨rfl, rfl⟩, by exact rfl, by exact SameB.refl _ _, jTwo (by decide) (by decide) hJ⟩
              · obtain ⟨v0, h0, e0⟩ := ht.dep 0 68 (by kernel_rfl) rfl
                obtain rfl : .pointer (some ⟨x, 0, none⟩) = v0 := Eq.symm e0
                obtain ⟨v1, h1, e1⟩ := ht.dep 2 70 (by kernel_rfl) rfl
                obtain rfl : .slice ka K.length kc = v1 := Eq.symm e1
                obtain ⟨v2, h2, e2⟩ := ht.dep 5 73 (by kernel_rfl) rfl
                obtain rfl : .int .i64 (n.tmod 5) = v2 := Eq.symm e2
                refine .inr ⟨23, #[.pointer (some ⟨x, 0, none⟩), .slice ka K.length kc, .int .i64 (n.tmod 5)], by simp [execOp, go_sem, Act.eval, h0, h1, h2], ?_⟩
                unfold jTwoP at hJ
                rw [hLi] at hJ
                refine (tPushS hJ (.slice ka K.length kc) K (n.tmod 5) (by omega) (by omega) HKV.out).mono ?_
                rintro e w'' ⟨rfl, h2, hs⟩
                exact ⟨_, rfl, rfl, hs, jTwoS h2⟩
              · have h0 := ht.free 8 (by kernel_rfl)
                exact .inl ⟨_, _, by simp [execOp, go_sem, Act.eval, h0]; first | rfl | exact ⟨rfl, rfl⟩, by exact rfl, by exact SameB.refl _ _, jTwo (by decide) (by decide) hJ⟩
              · have h0 := ht.free 10 (by kernel_rfl)
                exact .inl ⟨_, _, by simp [execOp, go_sem, Act.eval, h0]; first | rfl | exact ⟨rfl, rfl⟩, by exact rfl, by exact SameB.refl _ _, jTwo (by decide) (by decide) hJ⟩
              · obtain ⟨v0, h0, e0⟩ := ht.dep 8 76 (by kernel_rfl) rfl
                obtain rfl : .pointer (some ⟨wr.heap.size, 1, none⟩) = v0 := Eq.symm e0
                have hcl := sameB_cell hG hB1 (by simp)
                exact .inl ⟨_, _, by simp [execOp, go_sem, Act.eval, h0, hcl]; first | rfl | exact ⟨rfl, rfl⟩, by exact rfl, by exact SameB.refl _ _, jTwo (by decide) (by decide) hJ⟩
              · have h0 := ht.free 10 (by kernel_rfl)
                exact .inl ⟨_, _, by simp [execOp, go_sem, Act.eval, h0]; first | rfl | exact ⟨rfl, rfl⟩, by exact rfl, by exact SameB.refl _ _, jTwo (by decide) (by decide) hJ⟩
              · obtain ⟨v0, h0, e0⟩ := ht.dep 10 78 (by kernel_rfl) rfl
                obtain rfl : .pointer (some ⟨wr.heap.size, 2, none⟩) = v0 := Eq.symm e0
                have hcl := sameB_cell hG hB2 (by simp)
                exact .inl ⟨_, _, by simp [execOp, go_sem, Act.eval, h0, hcl]; first | rfl | exact ⟨rfl, rfl⟩, by exact rfl, by exact SameB.refl _ _, jTwo (by decide) (by decide) hJ⟩
              · obtain ⟨v0, h0, e0⟩ := ht.dep 11 79 (by kernel_rfl) rfl
                obtain rfl : .int .i64 n = v0 := Eq.symm e0
                exact .inl ⟨_, _, by simp [execOp, go_sem, Act.eval, h0, hwm]; first | rfl | exact ⟨rfl, rfl⟩, by exact rfl, by exact SameB.refl _ _, jTwo (by decide) (by decide) hJ⟩
              · obtain ⟨v0, h0, e0⟩ := ht.dep 7 75 (by kernel_rfl) rfl
                obtain rfl : .pointer (some ⟨y, 0, none⟩) = v0 := Eq.symm e0
                obtain ⟨v1, h1, e1⟩ := ht.dep 9 77 (by kernel_rfl) rfl
                obtain rfl : .slice ka K.length kc = v1 := Eq.symm e1
                obtain ⟨v2, h2, e2⟩ := ht.dep 12 80 (by kernel_rfl) rfl
                obtain rfl : .int .i64 (n.tmod 5) = v2 := Eq.symm e2
                refine .inr ⟨35, #[.pointer (some ⟨y, 0, none⟩), .slice ka K.length kc, .int .i64 (n.tmod 5)], by simp [execOp, go_sem, Act.eval, h0, h1, h2], ?_⟩
                unfold jTwoP at hJ
                rw [hLi] at hJ
                refine (tPushW hJ (.slice ka K.length kc) K (n.tmod 5) (by omega) (by omega) HKV.out).mono ?_
                rintro e w'' ⟨rfl, h2, hs⟩
                exact ⟨_, rfl, rfl, hs, jTwoW h2⟩
            case htail =>
              intro a' w' L hde hsz hG hL hJ hall hfree
              obtain ⟨u0, k0, e0⟩ := hall 0 _ 68 (by omega) rfl rfl
              obtain rfl : .pointer (some ⟨x, 0, none⟩) = u0 := Eq.symm e0
              obtain ⟨u1, k1, e1⟩ := hall 1 _ 69 (by omega) rfl rfl
              obtain rfl : .pointer (some ⟨wr.heap.size, 1, none⟩) = u1 := Eq.symm e1
              obtain ⟨u2, k2, e2⟩ := hall 2 _ 70 (by omega) rfl rfl
              obtain rfl : .slice ka K.length kc = u2 := Eq.symm e2
              obtain ⟨u3, k3, e3⟩ := hall 3 _ 71 (by omega) rfl rfl
              obtain rfl : .pointer (some ⟨wr.heap.size, 2, none⟩) = u3 := Eq.symm e3
              obtain ⟨u4, k4, e4⟩ := hall 4 _ 72 (by omega) rfl rfl
              obtain rfl : .int .i64 n = u4 := Eq.symm e4
              obtain ⟨u5, k5, e5⟩ := hall 5 _ 73 (by omega) rfl rfl
              obtain rfl : .int .i64 (n.tmod 5) = u5 := Eq.symm e5
              obtain ⟨u6, k6, e6⟩ := hall 6 _ 74 (by omega) rfl rfl
              obtain rfl : .bool (pushOk D az K (n.tmod 5)) = u6 := Eq.symm e6
              obtain ⟨u7, k7, e7⟩ := hall 7 _ 75 (by omega) rfl rfl
              obtain rfl : .pointer (some ⟨y, 0, none⟩) = u7 := Eq.symm e7
              obtain ⟨u8, k8, e8⟩ := hall 8 _ 76 (by omega) rfl rfl
              obtain rfl : .pointer (some ⟨wr.heap.size, 1, none⟩) = u8 := Eq.symm e8
              obtain ⟨u9, k9, e9⟩ := hall 9 _ 77 (by omega) rfl rfl
              obtain rfl : .slice ka K.length kc = u9 := Eq.symm e9
              obtain ⟨u10, k10, e10⟩ := hall 10 _ 78 (by omega) rfl rfl
              obtain rfl : .pointer (some ⟨wr.heap.size, 2, none⟩) = u10 := Eq.symm e10
              obtain ⟨u11, k11, e11⟩ := hall 11 _ 79 (by omega) rfl rfl
              obtain rfl : .int .i64 n = u11 := Eq.symm e11
              obtain ⟨u12, k12, e12⟩ := hall 12 _ 80 (by omega) rfl rfl
              obtain rfl : .int .i64 (n.tmod 5) = u12 := Eq.symm e12
              obtain ⟨u13, k13, e13⟩ := hall 13 _ 81 (by omega) rfl rfl
              obtain rfl : .bool (pushOk D az K (n.tmod 5)) = u13 := Eq.symm e13
              obtain ⟨tm, df⟩ := a'
              simp only at hde hsz hfree k0 k1 k2 k3 k4 k5 k6 k7 k8 k9 k10 k11 k12 k13
              have htm := tmps_of [(68, .pointer (some ⟨x, 0, none⟩)), (69, .pointer (some ⟨wr.heap.size, 1, none⟩)), (70, .slice ka K.length kc), (71, .pointer (some ⟨wr.heap.size, 2, none⟩)), (72, .int .i64 n), (73, .int .i64 (n.tmod 5)), (74, .bool (pushOk D az K (n.tmod 5))), (75, .pointer (some ⟨y, 0, none⟩)), (76, .pointer (some ⟨wr.heap.size, 1, none⟩)), (77, .slice ka K.length kc), (78, .pointer (some ⟨wr.heap.size, 2, none⟩)), (79, .int .i64 n), (80, .int .i64 (n.tmod 5)), (81, .bool (pushOk D az K (n.tmod 5)))] _ (hsz.trans (show 140 = _ from rfl)) (by
                intro q hq
                simp only [List.mem_cons, List.not_mem_nil, or_false] at hq
                rcases hq with rfl | rfl | rfl | rfl | rfl | rfl | rfl | rfl | rfl | rfl | rfl | rfl | rfl | rfl
                all_goals assumption) (fun d hd => hfree d (fun j q hj hq => (by
                  rcases (by omega : j = 0 ∨ j = 1 ∨ j = 2 ∨ j = 3 ∨ j = 4 ∨ j = 5 ∨ j = 6 ∨ j = 7 ∨ j = 8 ∨ j = 9 ∨ j = 10 ∨ j = 11 ∨ j = 12 ∨ j = 13) with rfl | rfl | rfl | rfl | rfl | rfl | rfl | rfl | rfl | rfl | rfl | rfl | rfl | rfl
                  all_goals (obtain rfl := Option.some.inj hq; exact fun e => hd (by have e2 := Option.some.inj e; subst e2; simp)))))
              subst hde
              simp only [List.foldl_cons, List.foldl_nil, List.setIfInBounds_toArray, List.set_cons_succ, List.set_cons_zero] at htm
              subst htm
              clear hall hfree k0 k1 k2 k3 k4 k5 k6 k7 k8 k9 k10 k11 k12 k13
              have hTw : Two w [wr.heap.size] x y (pushed D az K (n.tmod 5)) r (pushed D az K (n.tmod 5)) r F D w' := by
                have := hJ
                unfold jTwoP at this
                rw [hL 6 (by omega), hL 13 (by omega)] at this
                exact this
              have HTw := Lib.hid hTw
              clear hG hJ hL hTw hJ0 hwm
              generalize pushOk D az K (n.tmod 5) = ok at *
              generalize pushed D az K (n.tmod 5) = az2 at *
              gi_wp2_with fail
              cases ok
              all_goals
                go_wp2_with fail
                obtain ⟨fpm, hmk⟩ := HTw.out.mac
                obtain ⟨ra, rc, hrf⟩ := HTw.out.ref
                have q0 := cell_of_heap (i := 0) hrf rfl
                have q3 := cell_of_heap (i := 3) hrf rfl
                have hL := fun nq => makLeft (w'.drewN nq) x fpm _ F _ D (hmk.frm ((Frm.refl [] w').drewN nq) (by simp))
                have hDp := fun nq => makDeep (w'.drewN nq) x fpm _ F _ D (hmk.frm ((Frm.refl [] w').drewN nq) (by simp))
                have hY := fun nq => makDry (w'.drewN nq) x fpm _ F _ D (hmk.frm ((Frm.refl [] w').drewN nq) (by simp))
                have hfew := HTw.out.few
                obtain ⟨m, hm⟩ : ∃ m, (az2).length = m := ⟨_, rfl⟩
                rw [hm] at q0 hfew
                simp only [hm] at hDp hY
                have hml : m ≤ 5 := by omega
                have hrl : r ≤ 59 := by omega
                clear hmk hrf hm hfew
                generalize r = r2 at *
                by_cases hm0 : m = 0
                · have hp : decide ((0 : Int) < (m : Int)) = false := decide_eq_false (by omega)
                  have hp2 : decide (0 < m) = false := decide_eq_false (by omega)
                  have hy : (decide (0 < m) && decide (r2 = 0)) = false := by simp [hm0]
                  simp only [hy] at hY
                  clear hy hm0
                  go_quiet ((first | (go_at_call 25; exact Calls.quiet_of_same (hL _)) | (go_at_call 33; exact Calls.quiet_of_same (hDp _)) | (go_at_call 26; exact Calls.quiet_of_same (hY _))))
                  go_wp2_with fail
                  go_roundw
                  case rel => exact ⟨k + 1, _, r2, by omega, by go_num, HTw.out.free.frm ((Frm.refl [] w').drewN _)⟩
                  case measure => simp [intOf]; omega
                · have hp : decide ((0 : Int) < (m : Int)) = true := decide_eq_true (by omega)
                  have hp2 : decide (0 < m) = true := decide_eq_true (by omega)
                  by_cases hr0 : r2 = 0
                  · have hy : (decide (0 < m) && decide (r2 = 0)) = true := by simp [hr0]; omega
                    have hz : ((r2 : Int) == 0) = true := by rw [hr0]; rfl
                    simp only [hy] at hY
                    clear hy hm0 hr0
                    go_quiet ((first | (go_at_call 25; exact Calls.quiet_of_same (hL _)) | (go_at_call 33; exact Calls.quiet_of_same (hDp _)) | (go_at_call 26; exact Calls.quiet_of_same (hY _))))
                    go_wp2_with fail
                    go_roundw
                    case rel => exact ⟨k + 1, _, r2, by omega, by go_num, HTw.out.free.frm ((Frm.refl [] w').drewN _)⟩
                    case measure => simp [intOf]; omega
                  · have hy : (decide (0 < m) && decide (r2 = 0)) = false := by simp [hr0]
                    have hz : ((r2 : Int) == 0) = false := beq_eq_false_iff_ne.2 (by omega)
                    simp only [hy] at hY
                    clear hy hm0 hr0
                    go_quiet ((first | (go_at_call 25; exact Calls.quiet_of_same (hL _)) | (go_at_call 33; exact Calls.quiet_of_same (hDp _)) | (go_at_call 26; exact Calls.quiet_of_same (hY _))))
                    go_wp2_with fail
                    go_roundw
                    case rel => exact ⟨k + 1, _, r2, by omega, by go_num, HTw.out.free.frm ((Frm.refl [] w').drewN _)⟩
                    case measure => simp [intOf]; omega
          · have t0 : (((v : Int) % 8) == 0) = false := beq_eq_false_iff_ne.2 (by omega)
            have t1 : (((v : Int) % 8) == 1) = false := beq_eq_false_iff_ne.2 (by omega)
            have t6 : (((v : Int) % 8) == 6) = true := by rw [beq_iff_eq]; omega
            clear hv8 hfew hb0
            by_cases h4 : n.tmod 4 = 0
            · have e4 : (n.tmod 4 == 0) = true := beq_iff_eq.2 h4
              go_wp2_with fail
              refine (tDropS HTB.out).mono ?_
              rintro e w4 ⟨rfl, ht4, -⟩
              obtain ⟨ra, rc, hrf⟩ := ht4.ref
              have q0 := cell_of_heap (i := 0) hrf rfl
              have z0 := frozen_of_heap 0 hrf
              have HT5 := Lib.hid (tDropW ht4)
              clear ht4 hrf hB1 hB2 h4
              go_wp2_with fail
              refine wp_name fun w5 hw5 => ?_
              rw [← hw5] at HT5
              clear hw5 q0 z0
              obtain ⟨fpm, hmk⟩ := HT5.out.mac
              obtain ⟨ra, rc, hrf⟩ := HT5.out.ref
              have q0 := cell_of_heap (i := 0) hrf rfl
              have q3 := cell_of_heap (i := 3) hrf rfl
              have hL := fun nq => makLeft (w5.drewN nq) x fpm _ F _ D (hmk.frm ((Frm.refl [] w5).drewN nq) (by simp))
              have hDp := fun nq => makDeep (w5.drewN nq) x fpm _ F _ D (hmk.frm ((Frm.refl [] w5).drewN nq) (by simp))
              have hY := fun nq => makDry (w5.drewN nq) x fpm _ F _ D (hmk.frm ((Frm.refl [] w5).drewN nq) (by simp))
              have hfew := HT5.out.few
              obtain ⟨m, hm⟩ : ∃ m, (([] : List AF)).length = m := ⟨_, rfl⟩
              rw [hm] at q0 hfew
              simp only [hm] at hDp hY
              have hml : m ≤ 5 := by omega
              have hrl : r ≤ 59 := by omega
              clear hmk hrf hm hfew
              generalize r = r2 at *
              by_cases hm0 : m = 0
              · have hp : decide ((0 : Int) < (m : Int)) = false := decide_eq_false (by omega)
                have hp2 : decide (0 < m) = false := decide_eq_false (by omega)
                have hy : (decide (0 < m) && decide (r2 = 0)) = false := by simp [hm0]
                simp only [hy] at hY
                clear hy hm0
                go_quiet ((first | (go_at_call 25; exact Calls.quiet_of_same (hL _)) | (go_at_call 33; exact Calls.quiet_of_same (hDp _)) | (go_at_call 26; exact Calls.quiet_of_same (hY _))))
                go_wp2_with fail
                go_roundw
                case rel => exact ⟨k + 1, _, r2, by omega, by go_num, HT5.out.free.frm ((Frm.refl [] w5).drewN _)⟩
                case measure => simp [intOf]; omega
              · have hp : decide ((0 : Int) < (m : Int)) = true := decide_eq_true (by omega)
                have hp2 : decide (0 < m) = true := decide_eq_true (by omega)
                by_cases hr0 : r2 = 0
                · have hy : (decide (0 < m) && decide (r2 = 0)) = true := by simp [hr0]; omega
                  have hz : ((r2 : Int) == 0) = true := by rw [hr0]; rfl
                  simp only [hy] at hY
                  clear hy hm0 hr0
                  go_quiet ((first | (go_at_call 25; exact Calls.quiet_of_same (hL _)) | (go_at_call 33; exact Calls.quiet_of_same (hDp _)) | (go_at_call 26; exact Calls.quiet_of_same (hY _))))
                  go_wp2_with fail
                  go_roundw
                  case rel => exact ⟨k + 1, _, r2, by omega, by go_num, HT5.out.free.frm ((Frm.refl [] w5).drewN _)⟩
                  case measure => simp [intOf]; omega
                · have hy : (decide (0 < m) && decide (r2 = 0)) = false := by simp [hr0]
                  have hz : ((r2 : Int) == 0) = false := beq_eq_false_iff_ne.2 (by omega)
                  simp only [hy] at hY
                  clear hy hm0 hr0
                  go_quiet ((first | (go_at_call 25; exact Calls.quiet_of_same (hL _)) | (go_at_call 33; exact Calls.quiet_of_same (hDp _)) | (go_at_call 26; exact Calls.quiet_of_same (hY _))))
                  go_wp2_with fail
                  go_roundw
                  case rel => exact ⟨k + 1, _, r2, by omega, by go_num, HT5.out.free.frm ((Frm.refl [] w5).drewN _)⟩
                  case measure => simp [intOf]; omega
            · have e4 : (n.tmod 4 == 0) = false := beq_eq_false_iff_ne.2 h4
              clear h4
              go_wp2_with fail
              refine wp_name fun w5 hw5 => ?_
              have HT5 := Lib.hid (hw5 ▸ HTB.out)
              clear hw5 hB1 hB2
              obtain ⟨fpm, hmk⟩ := HT5.out.mac
              obtain ⟨ra, rc, hrf⟩ := HT5.out.ref
              have q0 := cell_of_heap (i := 0) hrf rfl
              have q3 := cell_of_heap (i := 3) hrf rfl
              have hL := fun nq => makLeft (w5.drewN nq) x fpm _ F _ D (hmk.frm ((Frm.refl [] w5).drewN nq) (by simp))
              have hDp := fun nq => makDeep (w5.drewN nq) x fpm _ F _ D (hmk.frm ((Frm.refl [] w5).drewN nq) (by simp))
              have hY := fun nq => makDry (w5.drewN nq) x fpm _ F _ D (hmk.frm ((Frm.refl [] w5).drewN nq) (by simp))
              have hfew := HT5.out.few
              obtain ⟨m, hm⟩ : ∃ m, (az).length = m := ⟨_, rfl⟩
              rw [hm] at q0 hfew
              simp only [hm] at hDp hY
              have hml : m ≤ 5 := by omega
              have hrl : r ≤ 59 := by omega
              clear hmk hrf hm hfew
              generalize r = r2 at *
              by_cases hm0 : m = 0
              · have hp : decide ((0 : Int) < (m : Int)) = false := decide_eq_false (by omega)
                have hp2 : decide (0 < m) = false := decide_eq_false (by omega)
                have hy : (decide (0 < m) && decide (r2 = 0)) = false := by simp [hm0]
                simp only [hy] at hY
                clear hy hm0
                go_quiet ((first | (go_at_call 25; exact Calls.quiet_of_same (hL _)) | (go_at_call 33; exact Calls.quiet_of_same (hDp _)) | (go_at_call 26; exact Calls.quiet_of_same (hY _))))
                go_wp2_with fail
                go_roundw
                case rel => exact ⟨k + 1, _, r2, by omega, by go_num, HT5.out.free.frm ((Frm.refl [] w5).drewN _)⟩
                case measure => simp [intOf]; omega
              · have hp : decide ((0 : Int) < (m : Int)) = true := decide_eq_true (by omega)
                have hp2 : decide (0 < m) = true := decide_eq_true (by omega)
                by_cases hr0 : r2 = 0
                · have hy : (decide (0 < m) && decide (r2 = 0)) = true := by simp [hr0]; omega
                  have hz : ((r2 : Int) == 0) = true := by rw [hr0]; rfl
                  simp only [hy] at hY
                  clear hy hm0 hr0
                  go_quiet ((first | (go_at_call 25; exact Calls.quiet_of_same (hL _)) | (go_at_call 33; exact Calls.quiet_of_same (hDp _)) | (go_at_call 26; exact Calls.quiet_of_same (hY _))))
                  go_wp2_with fail
                  go_roundw
                  case rel => exact ⟨k + 1, _, r2, by omega, by go_num, HT5.out.free.frm ((Frm.refl [] w5).drewN _)⟩
                  case measure => simp [intOf]; omega
                · have hy : (decide (0 < m) && decide (r2 = 0)) = false := by simp [hr0]
                  have hz : ((r2 : Int) == 0) = false := beq_eq_false_iff_ne.2 (by omega)
                  simp only [hy] at hY
                  clear hy hm0 hr0
                  go_quiet ((first | (go_at_call 25; exact Calls.quiet_of_same (hL _)) | (go_at_call 33; exact Calls.quiet_of_same (hDp _)) | (go_at_call 26; exact Calls.quiet_of_same (hY _))))
                  go_wp2_with fail
                  go_roundw
                  case rel => exact ⟨k + 1, _, r2, by omega, by go_num, HT5.out.free.frm ((Frm.refl [] w5).drewN _)⟩
                  case measure => simp [intOf]; omega
          · have t0 : (((v : Int) % 8) == 0) = false := beq_eq_false_iff_ne.2 (by omega)
            have t1 : (((v : Int) % 8) == 1) = false := beq_eq_false_iff_ne.2 (by omega)
            have t6 : (((v : Int) % 8) == 6) = false := beq_eq_false_iff_ne.2 (by omega)
            have t7 : (((v : Int) % 8) == 7) = true := by rw [beq_iff_eq]; omega
            clear hv8 hfew hB1 hB2 hb0
            go_wp2_with fail
            refine (tRefuelS HTB.out).mono ?_
            rintro e w4 ⟨rfl, ht4, -⟩
            obtain ⟨ra, rc, hrf⟩ := ht4.ref
            have q1 := cell_of_heap (i := 1) hrf rfl
            have q3 := cell_of_heap (i := 3) hrf rfl
            have z3 := frozen_of_heap 3 hrf
            obtain ⟨F2, hF2⟩ : ∃ F2, F2 = F := ⟨_, rfl⟩
            have HT5 := Lib.hid (show Two w [wr.heap.size] x y az F2 az F2 F D (w4.setCell ⟨y, 3, none⟩ (.int .i64 (F : Int))) by rw [hF2]; exact tRefuelW ht4)
            clear ht4 hrf hF2
            go_wp2_with fail
            refine wp_name fun w5 hw5 => ?_
            rw [← hw5] at HT5
            clear hw5 q1 q3 z3
            obtain ⟨fpm, hmk⟩ := HT5.out.mac
            obtain ⟨ra, rc, hrf⟩ := HT5.out.ref
            have q0 := cell_of_heap (i := 0) hrf rfl
            have q3 := cell_of_heap (i := 3) hrf rfl
            have hL := fun nq => makLeft (w5.drewN nq) x fpm _ F _ D (hmk.frm ((Frm.refl [] w5).drewN nq) (by simp))
            have hDp := fun nq => makDeep (w5.drewN nq) x fpm _ F _ D (hmk.frm ((Frm.refl [] w5).drewN nq) (by simp))
            have hY := fun nq => makDry (w5.drewN nq) x fpm _ F _ D (hmk.frm ((Frm.refl [] w5).drewN nq) (by simp))
            have hfew := HT5.out.few
            obtain ⟨m, hm⟩ : ∃ m, (az).length = m := ⟨_, rfl⟩
            rw [hm] at q0 hfew
            simp only [hm] at hDp hY
            have hml : m ≤ 5 := by omega
            have hrl : F2 ≤ 59 := by omega
            clear hmk hrf hm hfew
            generalize F2 = r2 at *
            by_cases hm0 : m = 0
            · have hp : decide ((0 : Int) < (m : Int)) = false := decide_eq_false (by omega)
              have hp2 : decide (0 < m) = false := decide_eq_false (by omega)
              have hy : (decide (0 < m) && decide (r2 = 0)) = false := by simp [hm0]
              simp only [hy] at hY
              clear hy hm0
              go_quiet ((first | (go_at_call 25; exact Calls.quiet_of_same (hL _)) | (go_at_call 33; exact Calls.quiet_of_same (hDp _)) | (go_at_call 26; exact Calls.quiet_of_same (hY _))))
              go_wp2_with fail
              go_roundw
              case rel => exact ⟨k + 1, _, r2, by omega, by go_num, HT5.out.free.frm ((Frm.refl [] w5).drewN _)⟩
              case measure => simp [intOf]; omega
            · have hp : decide ((0 : Int) < (m : Int)) = true := decide_eq_true (by omega)
              have hp2 : decide (0 < m) = true := decide_eq_true (by omega)
              by_cases hr0 : r2 = 0
              · have hy : (decide (0 < m) && decide (r2 = 0)) = true := by simp [hr0]; omega
                have hz : ((r2 : Int) == 0) = true := by rw [hr0]; rfl
                simp only [hy] at hY
                clear hy hm0 hr0
                go_quiet ((first | (go_at_call 25; exact Calls.quiet_of_same (hL _)) | (go_at_call 33; exact Calls.quiet_of_same (hDp _)) | (go_at_call 26; exact Calls.quiet_of_same (hY _))))
                go_wp2_with fail
                go_roundw
                case rel => exact ⟨k + 1, _, r2, by omega, by go_num, HT5.out.free.frm ((Frm.refl [] w5).drewN _)⟩
                case measure => simp [intOf]; omega
              · have hy : (decide (0 < m) && decide (r2 = 0)) = false := by simp [hr0]
                have hz : ((r2 : Int) == 0) = false := beq_eq_false_iff_ne.2 (by omega)
                simp only [hy] at hY
                clear hy hm0 hr0
                go_quiet ((first | (go_at_call 25; exact Calls.quiet_of_same (hL _)) | (go_at_call 33; exact Calls.quiet_of_same (hDp _)) | (go_at_call 26; exact Calls.quiet_of_same (hY _))))
                go_wp2_with fail
                go_roundw
                case rel => exact ⟨k + 1, _, r2, by omega, by go_num, HT5.out.free.frm ((Frm.refl [] w5).drewN _)⟩
                case measure => simp [intOf]; omega
          · have t0 : (((v : Int) % 8) == 0) = false := beq_eq_false_iff_ne.2 (by omega)
            have t1 : (((v : Int) % 8) == 1) = false := beq_eq_false_iff_ne.2 (by omega)
            have t6 : (((v : Int) % 8) == 6) = false := beq_eq_false_iff_ne.2 (by omega)
            have t7 : (((v : Int) % 8) == 7) = false := beq_eq_false_iff_ne.2 (by omega)
            clear hv8 hfew hB1 hB2 hb0
            go_wp2_with fail
            refine (tNextS HTB.out).mono ?_
            rintro e w4 ⟨rfl, ht4, -⟩
            have HT4 := Lib.hid ht4
            have hn2 := tNextW ht4
            clear ht4
            generalize nextC az r = c at *
            generalize nextOk az r = ok at *
            cases ok
            all_goals
              go_wp2_with fail
              refine hn2.mono ?_
              rintro e w5 ⟨rfl, ht5, -⟩
              have HT5 := Lib.hid ht5
              clear ht5 hn2
              go_wp2_with fail
              obtain ⟨fpm, hmk⟩ := HT5.out.mac
              obtain ⟨ra, rc, hrf⟩ := HT5.out.ref
              have q0 := cell_of_heap (i := 0) hrf rfl
              have q3 := cell_of_heap (i := 3) hrf rfl
              have hL := fun nq => makLeft (w5.drewN nq) x fpm _ F _ D (hmk.frm ((Frm.refl [] w5).drewN nq) (by simp))
              have hDp := fun nq => makDeep (w5.drewN nq) x fpm _ F _ D (hmk.frm ((Frm.refl [] w5).drewN nq) (by simp))
              have hY := fun nq => makDry (w5.drewN nq) x fpm _ F _ D (hmk.frm ((Frm.refl [] w5).drewN nq) (by simp))
              have hfew := HT5.out.few
              obtain ⟨m, hm⟩ : ∃ m, (nexted az r).length = m := ⟨_, rfl⟩
              rw [hm] at q0 hfew
              simp only [hm] at hDp hY
              have hml : m ≤ 5 := by omega
              have hrl : nextRest az r ≤ 59 := by omega
              clear hmk hrf hm hfew
              generalize nextRest az r = r2 at *
              by_cases hm0 : m = 0
              · have hp : decide ((0 : Int) < (m : Int)) = false := decide_eq_false (by omega)
                have hp2 : decide (0 < m) = false := decide_eq_false (by omega)
                have hy : (decide (0 < m) && decide (r2 = 0)) = false := by simp [hm0]
                simp only [hy] at hY
                clear hy hm0
                go_quiet ((first | (go_at_call 25; exact Calls.quiet_of_same (hL _)) | (go_at_call 33; exact Calls.quiet_of_same (hDp _)) | (go_at_call 26; exact Calls.quiet_of_same (hY _))))
                go_wp2_with fail
                go_roundw
                case rel => exact ⟨k + 1, _, r2, by omega, by go_num, HT5.out.free.frm ((Frm.refl [] w5).drewN _)⟩
                case measure => simp [intOf]; omega
              · have hp : decide ((0 : Int) < (m : Int)) = true := decide_eq_true (by omega)
                have hp2 : decide (0 < m) = true := decide_eq_true (by omega)
                by_cases hr0 : r2 = 0
                · have hy : (decide (0 < m) && decide (r2 = 0)) = true := by simp [hr0]; omega
                  have hz : ((r2 : Int) == 0) = true := by rw [hr0]; rfl
                  simp only [hy] at hY
                  clear hy hm0 hr0
                  go_quiet ((first | (go_at_call 25; exact Calls.quiet_of_same (hL _)) | (go_at_call 33; exact Calls.quiet_of_same (hDp _)) | (go_at_call 26; exact Calls.quiet_of_same (hY _))))
                  go_wp2_with fail
                  go_roundw
                  case rel => exact ⟨k + 1, _, r2, by omega, by go_num, HT5.out.free.frm ((Frm.refl [] w5).drewN _)⟩
                  case measure => simp [intOf]; omega
                · have hy : (decide (0 < m) && decide (r2 = 0)) = false := by simp [hr0]
                  have hz : ((r2 : Int) == 0) = false := beq_eq_false_iff_ne.2 (by omega)
                  simp only [hy] at hY
                  clear hy hm0 hr0
                  go_quiet ((first | (go_at_call 25; exact Calls.quiet_of_same (hL _)) | (go_at_call 33; exact Calls.quiet_of_same (hDp _)) | (go_at_call 26; exact Calls.quiet_of_same (hY _))))
                  go_wp2_with fail
                  go_roundw
                  case rel => exact ⟨k + 1, _, r2, by omega, by go_num, HT5.out.free.frm ((Frm.refl [] w5).drewN _)⟩
                  case measure => simp [intOf]; omega
      · obtain rfl : k = len := by omega
        clear ht
        go_wp2_with fail
        go_ret
        exact ⟨rfl, HTR.out.fin⟩

end Go.Proofs.YtaobohlcpgnebaaDoor
