/-
  CONTRACTS OF foolscapref32's NewStack AND Push. Conditions: at most a million frames and keys.
-/
import Derived.Test.YtaobohlcpgnebaaDoorRs
import Derived.Test.YtaobohlcpgnebaaDoorBase6
namespace Go.Proofs.YtaobohlcpgnebaaDoor
open Go.RowKit
open Go.Proofs (Tryd.prog)

/-- An append on a slice that is full makes a new row. -/
theorem run_append_fresh {P : Program} (w : World) (t ty e : TypeId) (i : TypeInfo) (z : Value) (size bytes : Nat) (ht : P.underlying t = some (.slice e)) (hi : P.info? e = some i) (hz : i.zero = some z) (hsize : i.size = size) (hby : i.bytes = bytes) (hzs : z.cells.size = size) (hsz : 0 < size)
    (la : Option Addr) (n : Nat) (olds : List Value) (hrd : Rd w (.slice la n n) n olds) (hlo : olds.length = n * size) (a : Addr) (m c : Nat) (news : List Value) (hl : news.length = m * size) (hnews : ∀ j u, news[j]? = some u → w.cell? (a.add j) = some u) (hm : 0 < m)
    (h63 : n + m ≤ maxLen) (hbytes : (n + m) * bytes ≤ 140737488355328) :
    ∃ v' w', (Builtin.append_ #[t, t] ty #[.slice la n n, .slice (some a) m c]).run P w = .ok v' w' ∧ w'.ownsRow w.heap.size e size v' (n + m) (olds ++ news) ∧ Frm [] w w' ∧ v'.ownBlock = some w.heap.size := by
  subst hsize
  subst hby
  have hsmall : n + m ≤ 9223372036854775807 := by simp only [maxLen] at h63; omega
  have hlen : (olds ++ news).length = (n + m) * i.size := by rw [List.length_append, hlo, hl, Nat.add_mul]
  have grown : ∀ (old : Nat), old < n + m →
      (w.drew.alloc (.cells (olds.toArray ++ news.toArray ++ Builtin.zeroCells z.cells (grownCap w (n + m) old e - (n + m))) e)).ownsRow w.heap.size e i.size
        (.slice (some ⟨w.heap.size, 0, none⟩) (n + m) (grownCap w (n + m) old e)) (n + m) (olds ++ news) ∧
      Frm [] w (w.drew.alloc (.cells (olds.toArray ++ news.toArray ++ Builtin.zeroCells z.cells (grownCap w (n + m) old e - (n + m))) e)) := by
    intro old ho
    have hge := grownCap_ge w (n + m) old e
    have hcm : grownCap w (n + m) old e ≤ maxLen := grownCap_le_maxLen w (n + m) old e h63
    refine ⟨⟨hlen, .inr ⟨w.heap.size, _, _, rfl, Nat.le_refl _, heap_alloc_at w.drew _, hge, hcm, ?_, ?_⟩⟩, (Frm.refl _ _).drew.alloc _⟩
    · simp only [Array.size_append, List.size_toArray, size_zeroCells, hzs, hlo, hl, ← Nat.add_mul]
      congr 1
      omega
    · simp only [Array.toList_append, List.append_assoc]
      rw [← List.append_assoc, ← hlen]
      exact List.take_left
  rcases hrd with ⟨e1, e2, e3⟩ | ⟨b, c', e1, hc⟩
  · obtain ⟨rfl, -⟩ : la = none ∧ True := by simpa using (by injection e1 : la = none)
    subst e2
    subst e3
    have hr := run_append_nil (P := P) w t ty e i z ht hi hz a m c news hl hnews hm (by omega) (by
      have hb := hbytes
      simp only [Nat.zero_add] at hb
      omega)
    have hgr := grown 0 (by omega)
    simp only [Nat.zero_add, List.nil_append, Array.empty_append] at hgr ⊢
    exact ⟨_, _, hr, hgr.1, hgr.2, rfl⟩
  · obtain rfl : la = some b := by injection e1
    have hr := run_append_grow (P := P) w t ty e i z ht hi hz b n n olds hlo hc a m c news hl hnews (by omega) (by omega) (growslice_fits (by omega) hbytes)
    have hgr := grown n (by omega)
    exact ⟨_, _, hr, hgr.1, hgr.2, rfl⟩
theorem own_base {w : World} {base base' e size n : Nat} {v : Value} {cs : List Value} (h : w.ownsRow base e size v n cs) (hb : base' ≤ base) : w.ownsRow base' e size v n cs := by
  rcases h.2 with h0 | ⟨g, c, cur, h1, h2, h3⟩
  · exact ⟨h.1, .inl h0⟩
  · exact ⟨h.1, .inr ⟨g, c, cur, h1, Nat.le_trans hb h2, h3⟩⟩
theorem own_base0 {w : World} {base e size n : Nat} {v : Value} {cs : List Value} (h : w.ownsRow base e size v n cs) : w.ownsRow 0 e size v n cs := own_base h (Nat.zero_le _)
theorem rd_full {w w' : World} {base e size n : Nat} {la : Option Addr} {lc : Nat} {cs : List Value} (h : w.ownsRow base e size (.slice la n lc) n cs) (hf : Frm [] w w') : Rd w' (.slice la n n) n cs := by
  have h2 := ownsRow_frm h hf (by simp)
  rcases Rd.ofOwn h2 with ⟨e1, e2, e3⟩ | ⟨a, c, e1, hc⟩
  · obtain rfl : la = none := by injection e1
    subst e2
    exact .inl ⟨rfl, rfl, e3⟩
  · obtain rfl : la = some a := by injection e1
    exact .inr ⟨a, n, rfl, hc⟩
set_option maxRecDepth 100000 in
theorem slice_full (la : Option Addr) (n lc : Nat) (hl : n ≤ lc) (W : World) : (Instr.slice 54 (.slice la n lc) none (some (.int .i64 (n : Int))) (some (.int .i64 (n : Int)))).run Tryd.prog W = .ok (.slice la n n) W := by
  rw [run_slice_hm W 54 la n lc Tryd.underlying54 .i64 .i64 (n : Int) (n : Int) (by omega) (by omega) (by omega)]
  have hs : (sizeOf (Tryd.prog.elem 54)).run Tryd.prog W = .ok 3 W := by kernel_rfl
  rw [hs]
  simp only [Result.andThen, sliced]
  cases la with
  | none => simp
  | some b => simp [Addr.add]

set_option maxRecDepth 100000 in
theorem refNewStack (w : World) (a d : Int) (ha0 : -9223372036854775808 ≤ a) (ha : a ≤ 9223372036854775807) (hd0 : -9223372036854775808 ≤ d) (hd : d ≤ 9223372036854775807) :
    Calls Tryd.prog 34 #[.int .i64 a, .int .i64 d] w fun e w' => ∃ x fp, e = .returned (.pointer (some ⟨x, 0, none⟩)) ∧ Ras w' x fp [] a.toNat d.toNat a.toNat ∧ Frm [] w w' ∧ ∀ b ∈ fp, w.heap.size ≤ b := by
  have e1 : max a 0 = (a.toNat : Int) := by omega
  have e2 : max d 0 = (d.toNat : Int) := by omega
  have E1 := Lib.hid e1
  have E2 := Lib.hid e2
  clear e1 e2
  go_enter Tryd.func34, Tryd.ntmps34
  go_wp2_with fail
  go_ret
  rw [E1.out, E2.out]
  refine ⟨w.heap.size, [w.heap.size], rfl, ⟨.slice none 0 0, heap_alloc_at _ _, ⟨rfl, .inl ⟨rfl, rfl⟩⟩, by simp, by simp [Value.ownBlock], by simp, by simp⟩, (Frm.refl _ _).alloc _, by simp⟩

set_option maxRecDepth 100000 in
theorem refPush_none (w : World) (x : Nat) (v : Value) (K : List UInt8) (n : Int) (hv : RdB w v K) (hn : n < 1 ∨ K = []) :
    Calls Tryd.prog 35 #[.pointer (some ⟨x, 0, none⟩), v, .int .i64 n] w fun e w' => e = .returned (.bool true) ∧ w' = w := by
  obtain ⟨a, c, rfl⟩ := hv.form
  by_cases h1 : n < 1
  · have hd : decide (n < 1) = true := decide_eq_true h1
    go_enter Tryd.func35, Tryd.ntmps35
    go_wp2_with fail
    go_ret
    exact ⟨rfl, rfl⟩
  · obtain rfl : K = [] := by rcases hn with h | h; exact absurd h h1; exact h
    have hd : decide (n < 1) = false := decide_eq_false h1
    go_enter Tryd.func35, Tryd.ntmps35
    go_wp2_with fail
    go_ret
    exact ⟨rfl, rfl⟩

set_option maxRecDepth 100000 in
theorem refPush_full (w : World) (x : Nat) (fp : List Nat) (fs : List Fr) (fuel depth rest : Nat) (h : Ras w x fp fs fuel depth rest) (v : Value) (K : List UInt8) (n : Nat) (hn : 1 ≤ n) (hK : K ≠ []) (hv : RdB w v K) (hlt : depth ≤ fs.length) :
    Calls Tryd.prog 35 #[.pointer (some ⟨x, 0, none⟩), v, .int .i64 (n : Int)] w fun e w' => e = .returned (.bool false) ∧ Frm [] w w' := by
  obtain ⟨a, c, rfl⟩ := hv.form
  obtain ⟨la, lc, h1⟩ := h.form
  have hK1 : 0 < K.length := List.length_pos_iff.2 hK
  have hc0 := cell_of_heap (i := 0) h1 rfl
  have hc3 := cell_of_heap (i := 2) h1 rfl
  have hlt1 : decide ((n : Int) < 1) = false := decide_eq_false (by omega)
  have hk0 : ((K.length : Int) == 0) = false := beq_eq_false_iff_ne.2 (by omega)
  clear h1 hv h
  go_enter Tryd.func35, Tryd.ntmps35
  go_wp2_with fail
  go_quiet (fail)
  go_wp2_with fail
  go_ret
  exact ⟨rfl, (Frm.refl _ _).drewN _⟩

def rpR (x N : Nat) (la : Option Addr) (len lc : Nat) (v : Value) (K : List UInt8) (n : Nat) (flat : List Value) : Nat → Value → World → Prop := fun q u w => (([(fun u _ => u = .pointer (some ⟨x, 0, none⟩)),
    (fun u _ => u = .pointer (some ⟨x, 0, none⟩)),
    (fun u _ => u = .pointer (some ⟨x, 0, none⟩)),
    (fun u _ => u = .pointer (some ⟨x, 0, none⟩)),
    (fun u _ => u = .slice la len lc),
    (fun u _ => u = .pointer (some ⟨x, 0, none⟩)),
    (fun u _ => u = .pointer (some ⟨x, 0, none⟩)),
    (fun u _ => u = .pointer (some ⟨x, 0, none⟩)),
    (fun u _ => u = .slice la len lc),
    (fun u _ => u = .int .i64 (len : Int)),
    (fun u _ => u = .pointer (some ⟨x, 0, none⟩)),
    (fun u _ => u = .pointer (some ⟨x, 0, none⟩)),
    (fun u _ => u = .pointer (some ⟨x, 0, none⟩)),
    (fun u _ => u = .slice la len lc),
    (fun u _ => u = .int .i64 (len : Int)),
    (fun u _ => u = .slice la len len),
    (fun u _ => u = v),
    (fun u X => X.ownsRow N 5 1 u K.length (K.map encB)),
    (fun u _ => u = .int .i64 (n : Int)),
    (fun u X => ∃ k, u = .agg #[k, .int .i64 0, .int .i64 (n : Int)] ∧ X.ownsRow N 5 1 k K.length (K.map encB)),
    (fun u X => ∃ k g, u = .slice (some ⟨g, 0, none⟩) 1 1 ∧ X.heap[g]? = some (.cells #[k, .int .i64 0, .int .i64 (n : Int)] 82 (0, 0)) ∧ X.ownsRow N 5 1 k K.length (K.map encB)),
    (fun u X => ∃ k, X.ownsRow N 5 1 k K.length (K.map encB) ∧ X.ownsRow N 82 3 u (len + 1) (flat ++ [k, .int .i64 0, .int .i64 (n : Int)]) ∧ ∀ b, u.ownBlock = some b → N ≤ b ∧ k.ownBlock ≠ some b),
    (fun u _ => u = .pointer (some ⟨x, 0, none⟩)),
    (fun u _ => u = .pointer (some ⟨x, 0, none⟩))] : List (Value → World → Prop)).getD q fun _ _ => False) u w

set_option maxRecDepth 100000 in
set_option maxHeartbeats 3200000 in
theorem refPush (w : World) (x : Nat) (fp : List Nat) (fs : List Fr) (fuel depth rest : Nat) (h : Ras w x fp fs fuel depth rest) (v : Value) (K : List UInt8) (n : Nat) (hn : 1 ≤ n) (hn2 : n ≤ 9223372036854775807) (hK : K ≠ []) (hl : K.length ≤ 1000000) (hv : RdB w v K) (hlt : fs.length < depth) (hdp : depth ≤ 1000000) :
    Calls Tryd.prog 35 #[.pointer (some ⟨x, 0, none⟩), v, .int .i64 (n : Int)] w fun e w' => e = .returned (.bool true) ∧ ∃ u fp', Ras w' x fp' (fs ++ [(u, K, n, 0)]) fuel depth rest ∧ Frm fp w w' ∧ ∀ b ∈ fp', b ∈ fp ∨ w.heap.size ≤ b := by
  obtain ⟨i0, hinf, hz0, hz1, hz2⟩ := info_parts (show (Tryd.prog.info? 82).map (fun i => (i.zero, i.size, i.bytes)) = some (some (.agg #[.slice none 0 0, .int .i64 0, .int .i64 0]), 3, 40) by kernel_rfl)
  have HI := Lib.hid (And.intro hz0 (And.intro hz1 hz2))
  clear hz0 hz1 hz2
  obtain ⟨j0, hjnf, hz0, hz1, hz2⟩ := info_parts (show (Tryd.prog.info? 5).map (fun i => (i.zero, i.size, i.bytes)) = some (some (.int .u8 0), 1, 1) by kernel_rfl)
  have HJ := Lib.hid (And.intro hz0 (And.intro hz1 hz2))
  clear hz0 hz1 hz2
  obtain ⟨a, c, rfl⟩ : ∃ a c, v = .slice (some a) K.length c := by
    rcases hv with ⟨_, h0, _⟩ | ⟨a, c, h, _⟩
    · exact absurd (List.eq_nil_of_length_eq_zero h0) hK
    · exact ⟨a, c, h⟩
  have hK1 : 0 < K.length := List.length_pos_iff.2 hK
  obtain ⟨lv, h1, h2, h3, h4, h5, h6⟩ := h
  obtain ⟨la, lc, rfl, hll⟩ : ∃ la lc, lv = .slice la fs.length lc ∧ fs.length ≤ lc := by
    rcases h2.2 with ⟨rfl, h0⟩ | ⟨g, c, cur, rfl, _, _, h, _⟩
    · exact ⟨none, 0, by rw [h0], by omega⟩
    · exact ⟨_, _, rfl, h⟩
  have hc0 := cell_of_heap (i := 0) h1 rfl
  have hc3 := cell_of_heap (i := 2) h1 rfl
  have hlt1 : decide ((n : Int) < 1) = false := decide_eq_false (by omega)
  have hk0 : ((K.length : Int) == 0) = false := beq_eq_false_iff_ne.2 (by omega)
  have H1 := Lib.hid h1
  have HROW0 := Lib.hid h2
  have H4 := Lib.hid h4
  have H6 := Lib.hid h6
  have HV := Lib.hid hv
  clear h1 h2 h4 h6 hv
  go_enter Tryd.func35, Tryd.ntmps35
  go_wp2_with fail
  go_quiet (fail)
  go_wp2_with fail
  have HFD := Lib.hid ((Frm.refl [] w).drewN nq)
  refine (wpIn_wide (n := 3)).1 ?_
  refine wpIn_region_joint (size := 48) wide_wide 24 (rpR x w.heap.size la fs.length lc (.slice (some a) K.length c) K n (fs.flatMap rcells)) (Frm []) (fun _ => Frm []) (fun _ _ => True) mixed (by kernel_rfl) (by kernel_rfl) (by decide) (by kernel_rfl) (by kernel_rfl) (by kernel_rfl) (by kernel_rfl) rfl (fun h k => h.trans k (by simp)) (Frm.refl _ _) (fun _ _ _ _ h => h) ?hR trivial ?hgd ?hrun ?htail
  case hR =>
    intro qi qj qv A B hi hj hij h hf
    rcases (by omega : qi = 0 ∨ qi = 1 ∨ qi = 2 ∨ qi = 3 ∨ qi = 4 ∨ qi = 5 ∨ qi = 6 ∨ qi = 7 ∨ qi = 8 ∨ qi = 9 ∨ qi = 10 ∨ qi = 11 ∨ qi = 12 ∨ qi = 13 ∨ qi = 14 ∨ qi = 15 ∨ qi = 16 ∨ qi = 17 ∨ qi = 18 ∨ qi = 19 ∨ qi = 20 ∨ qi = 21 ∨ qi = 22 ∨ qi = 23) with rfl | rfl | rfl | rfl | rfl | rfl | rfl | rfl | rfl | rfl | rfl | rfl | rfl | rfl | rfl | rfl | rfl | rfl | rfl | rfl | rfl | rfl | rfl | rfl
    all_goals first
      | exact h
      | exact ownsRow_frm h hf (by simp)
      | (obtain ⟨k, h1, h2⟩ := h
         exact ⟨k, h1, ownsRow_frm h2 hf (by simp)⟩)
      | (obtain ⟨k, q, h1, h2, h3⟩ := h
         exact ⟨k, q, h1, hf.heap h2 (by simp), ownsRow_frm h3 hf (by simp)⟩)
      | (obtain ⟨k, h1, h2, h3⟩ := h
         exact ⟨k, ownsRow_frm h1 hf (by simp), ownsRow_frm h2 hf (by simp), h3⟩)
  case hgd =>
    intro qi qo qg qb hi ho hgo qv A hv
    rcases (by omega : qi = 0 ∨ qi = 1 ∨ qi = 2 ∨ qi = 3 ∨ qi = 4 ∨ qi = 5 ∨ qi = 6 ∨ qi = 7 ∨ qi = 8 ∨ qi = 9 ∨ qi = 10 ∨ qi = 11 ∨ qi = 12 ∨ qi = 13 ∨ qi = 14 ∨ qi = 15 ∨ qi = 16 ∨ qi = 17 ∨ qi = 18 ∨ qi = 19 ∨ qi = 20 ∨ qi = 21 ∨ qi = 22 ∨ qi = 23) with rfl | rfl | rfl | rfl | rfl | rfl | rfl | rfl | rfl | rfl | rfl | rfl | rfl | rfl | rfl | rfl | rfl | rfl | rfl | rfl | rfl | rfl | rfl | rfl
    all_goals obtain rfl := Option.some.inj ho
    all_goals first
      | (cases hgo; done)
      | (cases hgo; exact hv)
  case hrun =>
    intro qi hi qo ho qa w' L hG ht hLi hJ
    rcases (by omega : qi = 0 ∨ qi = 1 ∨ qi = 2 ∨ qi = 3 ∨ qi = 4 ∨ qi = 5 ∨ qi = 6 ∨ qi = 7 ∨ qi = 8 ∨ qi = 9 ∨ qi = 10 ∨ qi = 11 ∨ qi = 12 ∨ qi = 13 ∨ qi = 14 ∨ qi = 15 ∨ qi = 16 ∨ qi = 17 ∨ qi = 18 ∨ qi = 19 ∨ qi = 20 ∨ qi = 21 ∨ qi = 22 ∨ qi = 23) with rfl | rfl | rfl | rfl | rfl | rfl | rfl | rfl | rfl | rfl | rfl | rfl | rfl | rfl | rfl | rfl | rfl | rfl | rfl | rfl | rfl | rfl | rfl | rfl
    all_goals obtain rfl := Option.some.inj ho
    · have h0 := ht.free 0 (by kernel_rfl)
      exact .inl ⟨_, _, by simp [execOp, go_sem, Act.eval, h0]; first | rfl | exact ⟨rfl, rfl⟩, by exact rfl, by exact Frm.refl _ _, trivial⟩
    · have h0 := ht.free 0 (by kernel_rfl)
      exact .inl ⟨_, _, by simp [execOp, go_sem, Act.eval, h0]; first | rfl | exact ⟨rfl, rfl⟩, by exact rfl, by exact Frm.refl _ _, trivial⟩
    · obtain ⟨v0, h0, e0⟩ := ht.dep 1 25 (by kernel_rfl) rfl
      obtain rfl : .pointer (some ⟨x, 0, none⟩) = v0 := Eq.symm e0
      exact .inl ⟨_, _, by simp [execOp, go_sem, Act.eval, h0]; first | rfl | exact ⟨rfl, rfl⟩, by exact rfl, by exact Frm.refl _ _, trivial⟩
    · obtain ⟨v0, h0, e0⟩ := ht.dep 2 26 (by kernel_rfl) rfl
      obtain rfl : .pointer (some ⟨x, 0, none⟩) = v0 := Eq.symm e0
      exact .inl ⟨_, _, by simp [execOp, go_sem, Act.eval, h0]; first | rfl | exact ⟨rfl, rfl⟩, by exact rfl, by exact Frm.refl _ _, trivial⟩
    · obtain ⟨v0, h0, e0⟩ := ht.dep 3 27 (by kernel_rfl) rfl
      obtain rfl : .pointer (some ⟨x, 0, none⟩) = v0 := Eq.symm e0
      have hcl := (HFD.out.trans hG.ofDrew (by simp)).cell hc0 (by simp)
      exact .inl ⟨_, _, by simp [execOp, go_sem, Act.eval, h0, hcl]; first | rfl | exact ⟨rfl, rfl⟩, by exact rfl, by exact Frm.refl _ _, trivial⟩
    · have h0 := ht.free 0 (by kernel_rfl)
      exact .inl ⟨_, _, by simp [execOp, go_sem, Act.eval, h0]; first | rfl | exact ⟨rfl, rfl⟩, by exact rfl, by exact Frm.refl _ _, trivial⟩
    · obtain ⟨v0, h0, e0⟩ := ht.dep 5 29 (by kernel_rfl) rfl
      obtain rfl : .pointer (some ⟨x, 0, none⟩) = v0 := Eq.symm e0
      exact .inl ⟨_, _, by simp [execOp, go_sem, Act.eval, h0]; first | rfl | exact ⟨rfl, rfl⟩, by exact rfl, by exact Frm.refl _ _, trivial⟩
    · obtain ⟨v0, h0, e0⟩ := ht.dep 6 30 (by kernel_rfl) rfl
      obtain rfl : .pointer (some ⟨x, 0, none⟩) = v0 := Eq.symm e0
      exact .inl ⟨_, _, by simp [execOp, go_sem, Act.eval, h0]; first | rfl | exact ⟨rfl, rfl⟩, by exact rfl, by exact Frm.refl _ _, trivial⟩
    · obtain ⟨v0, h0, e0⟩ := ht.dep 7 31 (by kernel_rfl) rfl
      obtain rfl : .pointer (some ⟨x, 0, none⟩) = v0 := Eq.symm e0
      have hcl := (HFD.out.trans hG.ofDrew (by simp)).cell hc0 (by simp)
      exact .inl ⟨_, _, by simp [execOp, go_sem, Act.eval, h0, hcl]; first | rfl | exact ⟨rfl, rfl⟩, by exact rfl, by exact Frm.refl _ _, trivial⟩
    · obtain ⟨v0, h0, e0⟩ := ht.dep 8 32 (by kernel_rfl) rfl
      obtain rfl : .slice la fs.length lc = v0 := Eq.symm e0
      exact .inl ⟨_, _, by simp [execOp, go_sem, Act.eval, h0]; first | rfl | exact ⟨rfl, rfl⟩, by exact rfl, by exact Frm.refl _ _, trivial⟩
    · have h0 := ht.free 0 (by kernel_rfl)
      exact .inl ⟨_, _, by simp [execOp, go_sem, Act.eval, h0]; first | rfl | exact ⟨rfl, rfl⟩, by exact rfl, by exact Frm.refl _ _, trivial⟩
    · obtain ⟨v0, h0, e0⟩ := ht.dep 10 34 (by kernel_rfl) rfl
      obtain rfl : .pointer (some ⟨x, 0, none⟩) = v0 := Eq.symm e0
      exact .inl ⟨_, _, by simp [execOp, go_sem, Act.eval, h0]; first | rfl | exact ⟨rfl, rfl⟩, by exact rfl, by exact Frm.refl _ _, trivial⟩
    · obtain ⟨v0, h0, e0⟩ := ht.dep 11 35 (by kernel_rfl) rfl
      obtain rfl : .pointer (some ⟨x, 0, none⟩) = v0 := Eq.symm e0
      exact .inl ⟨_, _, by simp [execOp, go_sem, Act.eval, h0]; first | rfl | exact ⟨rfl, rfl⟩, by exact rfl, by exact Frm.refl _ _, trivial⟩
    · obtain ⟨v0, h0, e0⟩ := ht.dep 12 36 (by kernel_rfl) rfl
      obtain rfl : .pointer (some ⟨x, 0, none⟩) = v0 := Eq.symm e0
      have hcl := (HFD.out.trans hG.ofDrew (by simp)).cell hc0 (by simp)
      exact .inl ⟨_, _, by simp [execOp, go_sem, Act.eval, h0, hcl]; first | rfl | exact ⟨rfl, rfl⟩, by exact rfl, by exact Frm.refl _ _, trivial⟩
    · obtain ⟨v0, h0, e0⟩ := ht.dep 13 37 (by kernel_rfl) rfl
      obtain rfl : .slice la fs.length lc = v0 := Eq.symm e0
      exact .inl ⟨_, _, by simp [execOp, go_sem, Act.eval, h0]; first | rfl | exact ⟨rfl, rfl⟩, by exact rfl, by exact Frm.refl _ _, trivial⟩
    · obtain ⟨v0, h0, e0⟩ := ht.dep 4 28 (by kernel_rfl) rfl
      obtain rfl : .slice la fs.length lc = v0 := Eq.symm e0
      obtain ⟨v1, h1, e1⟩ := ht.dep 9 33 (by kernel_rfl) rfl
      obtain rfl : .int .i64 (fs.length : Int) = v1 := Eq.symm e1
      obtain ⟨v2, h2, e2⟩ := ht.dep 14 38 (by kernel_rfl) rfl
      obtain rfl : .int .i64 (fs.length : Int) = v2 := Eq.symm e2
      have hsl := slice_full la fs.length lc hll w'
      exact .inl ⟨_, _, by simp [execOp, go_sem, Act.eval, h0, h1, h2, hsl]; first | rfl | exact ⟨rfl, rfl⟩, by exact rfl, Frm.refl _ _, trivial⟩
    · have h0 := ht.free 1 (by kernel_rfl)
      exact .inl ⟨_, _, by simp [execOp, go_sem, Act.eval, h0]; first | rfl | exact ⟨rfl, rfl⟩, by exact rfl, by exact Frm.refl _ _, trivial⟩
    · obtain ⟨v0, h0, e0⟩ := ht.dep 16 40 (by kernel_rfl) rfl
      obtain rfl : .slice (some a) K.length c = v0 := Eq.symm e0
      have hFw := HFD.out.trans hG.ofDrew (by simp)
      obtain ⟨v', w2, hr, h2, h3, h4, -⟩ := run_append_row (P := Tryd.prog) w' w.heap.size 22 22 5 j0 (.int .u8 0) 1 1 Tryd.underlying22 hjnf HJ.out.1 HJ.out.2.1 HJ.out.2.2 rfl (by decide) (.slice none 0 0) 0 [] ⟨rfl, .inl ⟨rfl, rfl⟩⟩ (.slice (some a) K.length c) K.length (K.map encB) (HV.out.frm hFw) (by simp) (fun u hu => (by obtain ⟨b, _, rfl⟩ := List.mem_map.1 hu; rfl)) (by unfold maxLen; omega) (by omega) hFw.size
      exact .inl ⟨v', w2, by simp [execOp, resolve, invoke, builtin, Act.eval, h0, hr, Result.andThen], (by have h9 := h2; rw [Nat.zero_add, List.nil_append] at h9; exact h9), h3, trivial⟩
    · have h0 := ht.free 2 (by kernel_rfl)
      exact .inl ⟨_, _, by simp [execOp, go_sem, Act.eval, h0]; first | rfl | exact ⟨rfl, rfl⟩, by exact rfl, by exact Frm.refl _ _, trivial⟩
    · obtain ⟨v0, h0, e0⟩ := ht.dep 17 41 (by kernel_rfl) rfl
      replace e0 : (fun u X => X.ownsRow w.heap.size 5 1 u K.length (K.map encB)) v0 w' := e0
      obtain ⟨v1, h1, e1⟩ := ht.dep 18 42 (by kernel_rfl) rfl
      obtain rfl : .int .i64 (n : Int) = v1 := Eq.symm e1
      obtain ⟨ka, kn, kc, rfl⟩ : ∃ ka kn kc, v0 = .slice ka kn kc := (by
        rcases e0.2 with ⟨q1, _⟩ | ⟨g2, c2, cur, q1, _⟩
        · exact ⟨_, _, _, q1⟩
        · exact ⟨_, _, _, q1⟩)
      exact .inl ⟨_, _, by simp [execOp, go_sem, Act.eval, h0, h1]; first | rfl | exact ⟨rfl, rfl⟩, ⟨_, by first | rfl | exact Eq.refl _, e0⟩, Frm.refl _ _, trivial⟩
    · obtain ⟨v0, h0, e0⟩ := ht.dep 19 43 (by kernel_rfl) rfl
      replace e0 : (fun u X => ∃ k, u = .agg #[k, .int .i64 0, .int .i64 (n : Int)] ∧ X.ownsRow w.heap.size 5 1 k K.length (K.map encB)) v0 w' := e0
      obtain ⟨k, hk, hrow⟩ := e0
      subst hk
      obtain ⟨ka, kn, kc, rfl⟩ : ∃ ka kn kc, k = .slice ka kn kc := (by
        rcases hrow.2 with ⟨q1, _⟩ | ⟨g2, c2, cur, q1, _⟩
        · exact ⟨_, _, _, q1⟩
        · exact ⟨_, _, _, q1⟩)
      exact .inl ⟨_, _, by simp [execOp, go_sem, Act.eval, h0]; first | rfl | exact ⟨rfl, rfl⟩, ⟨_, _, rfl, by simpa using heap_alloc_at w' _, ownsRow_frm hrow ((Frm.refl [] w').alloc _) (by simp)⟩, (Frm.refl _ _).alloc _, trivial⟩
    · obtain ⟨v0, h0, e0⟩ := ht.dep 15 39 (by kernel_rfl) rfl
      obtain rfl : .slice la fs.length fs.length = v0 := Eq.symm e0
      obtain ⟨v1, h1, e1⟩ := ht.dep 20 44 (by kernel_rfl) rfl
      replace e1 : (fun u X => ∃ k g, u = .slice (some ⟨g, 0, none⟩) 1 1 ∧ X.heap[g]? = some (.cells #[k, .int .i64 0, .int .i64 (n : Int)] 82 (0, 0)) ∧ X.ownsRow w.heap.size 5 1 k K.length (K.map encB)) v1 w' := e1
      obtain ⟨k, gb, hgb, hgc, hrow⟩ := e1
      subst hgb
      have hFw := HFD.out.trans hG.ofDrew (by simp)
      obtain ⟨v', w2, hr, h2, h3, h4⟩ := run_append_fresh (P := Tryd.prog) w' 54 54 82 i0 (.agg #[.slice none 0 0, .int .i64 0, .int .i64 0]) 3 40 Tryd.underlying54 hinf HI.out.1 HI.out.2.1 HI.out.2.2 rfl (by decide) la fs.length (fs.flatMap rcells) (rd_full (HROW0.out) hFw) (rcells_length fs) ⟨gb, 0, none⟩ 1 1 [k, .int .i64 0, .int .i64 (n : Int)] rfl (fun j u hj => by rw [addr_add, Nat.zero_add]; exact cell_of_heap hgc (by simpa using hj)) (by omega) (by unfold maxLen; omega) (by omega)
      have hkn : ∀ q, k.ownBlock = some q → w.heap.size ≤ q ∧ q < w'.heap.size := fun q hq => (by
        rcases hrow.2 with ⟨q1, _⟩ | ⟨g2, c2, cur, q1, q2, q3, _⟩
        · subst q1; simp [Value.ownBlock] at hq
        · subst q1
          obtain rfl : g2 = q := by simpa [Value.ownBlock] using hq
          exact ⟨q2, lt_of_heap q3⟩)
      exact .inl ⟨v', w2, by simp [execOp, resolve, invoke, builtin, Act.eval, h0, h1, hr, Result.andThen], ⟨k, ownsRow_frm hrow h3 (by simp), own_base h2 hFw.size, fun b hb => (by
        rw [h4] at hb
        obtain rfl := Option.some.inj hb
        exact ⟨hFw.size, fun e => by have := (hkn _ e).2; omega⟩)⟩, h3, trivial⟩
    · obtain ⟨v0, h0, e0⟩ := ht.dep 0 24 (by kernel_rfl) rfl
      obtain rfl : .pointer (some ⟨x, 0, none⟩) = v0 := Eq.symm e0
      exact .inl ⟨_, _, by simp [execOp, go_sem, Act.eval, h0]; first | rfl | exact ⟨rfl, rfl⟩, by exact rfl, by exact Frm.refl _ _, trivial⟩
    · obtain ⟨v0, h0, e0⟩ := ht.dep 22 46 (by kernel_rfl) rfl
      obtain rfl : .pointer (some ⟨x, 0, none⟩) = v0 := Eq.symm e0
      exact .inl ⟨_, _, by simp [execOp, go_sem, Act.eval, h0]; first | rfl | exact ⟨rfl, rfl⟩, by exact rfl, by exact Frm.refl _ _, trivial⟩
  case htail =>
    intro a' w' L hde hsz hG hL hJ hall hfree
    obtain ⟨u0, k0, e0⟩ := hall 0 _ 24 (by omega) rfl rfl
    obtain rfl : .pointer (some ⟨x, 0, none⟩) = u0 := Eq.symm e0
    obtain ⟨u1, k1, e1⟩ := hall 1 _ 25 (by omega) rfl rfl
    obtain rfl : .pointer (some ⟨x, 0, none⟩) = u1 := Eq.symm e1
    obtain ⟨u2, k2, e2⟩ := hall 2 _ 26 (by omega) rfl rfl
    obtain rfl : .pointer (some ⟨x, 0, none⟩) = u2 := Eq.symm e2
    obtain ⟨u3, k3, e3⟩ := hall 3 _ 27 (by omega) rfl rfl
    obtain rfl : .pointer (some ⟨x, 0, none⟩) = u3 := Eq.symm e3
    obtain ⟨u4, k4, e4⟩ := hall 4 _ 28 (by omega) rfl rfl
    obtain rfl : .slice la fs.length lc = u4 := Eq.symm e4
    obtain ⟨u5, k5, e5⟩ := hall 5 _ 29 (by omega) rfl rfl
    obtain rfl : .pointer (some ⟨x, 0, none⟩) = u5 := Eq.symm e5
    obtain ⟨u6, k6, e6⟩ := hall 6 _ 30 (by omega) rfl rfl
    obtain rfl : .pointer (some ⟨x, 0, none⟩) = u6 := Eq.symm e6
    obtain ⟨u7, k7, e7⟩ := hall 7 _ 31 (by omega) rfl rfl
    obtain rfl : .pointer (some ⟨x, 0, none⟩) = u7 := Eq.symm e7
    obtain ⟨u8, k8, e8⟩ := hall 8 _ 32 (by omega) rfl rfl
    obtain rfl : .slice la fs.length lc = u8 := Eq.symm e8
    obtain ⟨u9, k9, e9⟩ := hall 9 _ 33 (by omega) rfl rfl
    obtain rfl : .int .i64 (fs.length : Int) = u9 := Eq.symm e9
    obtain ⟨u10, k10, e10⟩ := hall 10 _ 34 (by omega) rfl rfl
    obtain rfl : .pointer (some ⟨x, 0, none⟩) = u10 := Eq.symm e10
    obtain ⟨u11, k11, e11⟩ := hall 11 _ 35 (by omega) rfl rfl
    obtain rfl : .pointer (some ⟨x, 0, none⟩) = u11 := Eq.symm e11
    obtain ⟨u12, k12, e12⟩ := hall 12 _ 36 (by omega) rfl rfl
    obtain rfl : .pointer (some ⟨x, 0, none⟩) = u12 := Eq.symm e12
    obtain ⟨u13, k13, e13⟩ := hall 13 _ 37 (by omega) rfl rfl
    obtain rfl : .slice la fs.length lc = u13 := Eq.symm e13
    obtain ⟨u14, k14, e14⟩ := hall 14 _ 38 (by omega) rfl rfl
    obtain rfl : .int .i64 (fs.length : Int) = u14 := Eq.symm e14
    obtain ⟨u15, k15, e15⟩ := hall 15 _ 39 (by omega) rfl rfl
    obtain rfl : .slice la fs.length fs.length = u15 := Eq.symm e15
    obtain ⟨u16, k16, e16⟩ := hall 16 _ 40 (by omega) rfl rfl
    obtain rfl : .slice (some a) K.length c = u16 := Eq.symm e16
    obtain ⟨u17, k17, -⟩ := hall 17 _ 41 (by omega) rfl rfl
    obtain ⟨u18, k18, e18⟩ := hall 18 _ 42 (by omega) rfl rfl
    obtain rfl : .int .i64 (n : Int) = u18 := Eq.symm e18
    obtain ⟨u19, k19, -⟩ := hall 19 _ 43 (by omega) rfl rfl
    obtain ⟨u20, k20, -⟩ := hall 20 _ 44 (by omega) rfl rfl
    obtain ⟨u21, k21, r21⟩ := hall 21 _ 45 (by omega) rfl rfl
    replace r21 : (fun u X => ∃ k, X.ownsRow w.heap.size 5 1 k K.length (K.map encB) ∧ X.ownsRow w.heap.size 82 3 u (fs.length + 1) (fs.flatMap rcells ++ [k, .int .i64 0, .int .i64 (n : Int)]) ∧ ∀ b, u.ownBlock = some b → w.heap.size ≤ b ∧ k.ownBlock ≠ some b) u21 w' := r21
    obtain ⟨k, hk, hrow, hbl⟩ := r21
    obtain ⟨av, cv, rfl⟩ : ∃ av cv, u21 = .slice av (fs.length + 1) cv := (by
      rcases hrow.2 with ⟨q1, q2⟩ | ⟨g2, c2, cur, q1, q2⟩
      · omega
      · exact ⟨_, _, q1⟩)
    obtain ⟨u22, k22, e22⟩ := hall 22 _ 46 (by omega) rfl rfl
    obtain rfl : .pointer (some ⟨x, 0, none⟩) = u22 := Eq.symm e22
    obtain ⟨u23, k23, e23⟩ := hall 23 _ 47 (by omega) rfl rfl
    obtain rfl : .pointer (some ⟨x, 0, none⟩) = u23 := Eq.symm e23
    obtain ⟨tm, df⟩ := a'
    simp only at hde hsz hfree k0 k1 k2 k3 k4 k5 k6 k7 k8 k9 k10 k11 k12 k13 k14 k15 k16 k17 k18 k19 k20 k21 k22 k23
    have htm := tmps_of [(24, .pointer (some ⟨x, 0, none⟩)), (25, .pointer (some ⟨x, 0, none⟩)), (26, .pointer (some ⟨x, 0, none⟩)), (27, .pointer (some ⟨x, 0, none⟩)), (28, .slice la fs.length lc), (29, .pointer (some ⟨x, 0, none⟩)), (30, .pointer (some ⟨x, 0, none⟩)), (31, .pointer (some ⟨x, 0, none⟩)), (32, .slice la fs.length lc), (33, .int .i64 (fs.length : Int)), (34, .pointer (some ⟨x, 0, none⟩)), (35, .pointer (some ⟨x, 0, none⟩)), (36, .pointer (some ⟨x, 0, none⟩)), (37, .slice la fs.length lc), (38, .int .i64 (fs.length : Int)), (39, .slice la fs.length fs.length), (40, .slice (some a) K.length c), (41, u17), (42, .int .i64 (n : Int)), (43, u19), (44, u20), (45, .slice av (fs.length + 1) cv), (46, .pointer (some ⟨x, 0, none⟩)), (47, .pointer (some ⟨x, 0, none⟩))] _ (hsz.trans (show 48 = _ from rfl)) (by
      intro q hq
      simp only [List.mem_cons, List.not_mem_nil, or_false] at hq
      rcases hq with rfl | rfl | rfl | rfl | rfl | rfl | rfl | rfl | rfl | rfl | rfl | rfl | rfl | rfl | rfl | rfl | rfl | rfl | rfl | rfl | rfl | rfl | rfl | rfl
      all_goals assumption) (fun d hd => hfree d (fun j q hj hq => (by
        rcases (by omega : j = 0 ∨ j = 1 ∨ j = 2 ∨ j = 3 ∨ j = 4 ∨ j = 5 ∨ j = 6 ∨ j = 7 ∨ j = 8 ∨ j = 9 ∨ j = 10 ∨ j = 11 ∨ j = 12 ∨ j = 13 ∨ j = 14 ∨ j = 15 ∨ j = 16 ∨ j = 17 ∨ j = 18 ∨ j = 19 ∨ j = 20 ∨ j = 21 ∨ j = 22 ∨ j = 23) with rfl | rfl | rfl | rfl | rfl | rfl | rfl | rfl | rfl | rfl | rfl | rfl | rfl | rfl | rfl | rfl | rfl | rfl | rfl | rfl | rfl | rfl | rfl | rfl
        all_goals (obtain rfl := Option.some.inj hq; exact fun e => hd (by have e2 := Option.some.inj e; subst e2; simp)))))
    subst hde
    simp only [List.foldl_cons, List.foldl_nil, List.setIfInBounds_toArray, List.set_cons_succ, List.set_cons_zero] at htm
    subst htm
    clear hall hfree k0 k1 k2 k3 k4 k5 k6 k7 k8 k9 k10 k11 k12 k13 k14 k15 k16 k17 k18 k19 k20 k21 k22 k23
    have hF0 := HFD.out.trans hG.ofDrew (by simp)
    have hx' := hF0.heap H1.out (by simp)
    have hxl : x < w.heap.size := h5 x h3
    have hnx : ∀ b, (Value.slice av (fs.length + 1) cv).ownBlock = some b → b ≠ x := fun b hb e => by
      subst e
      have := (hbl b hb).1
      omega
    have hcx := cell_of_heap (i := 0) hx' rfl
    have hzx := frozen_of_heap 0 hx'
    have hset := heap_set_at (i := 0) (.slice av (fs.length + 1) cv) hx'
    have hfs := (Frm.refl [x] w').setCell (p := ⟨x, 0, none⟩) (.inl (by simp)) (.slice av (fs.length + 1) cv)
    have hrow2 := ownsRow_frm hrow hfs (fun b hb e => hnx b e (by simpa using hb))
    have hkx : ∀ b, k.ownBlock = some b → w.heap.size ≤ b ∧ b < w'.heap.size := fun q hq => by
      rcases hk.2 with ⟨q1, _⟩ | ⟨g2, c2, cur, q1, q2, q3, _⟩
      · subst q1; simp [Value.ownBlock] at hq
      · subst q1
        obtain rfl : g2 = q := by simpa [Value.ownBlock] using hq
        exact ⟨q2, lt_of_heap q3⟩
    have hk2 := ownsRow_frm hk hfs (fun b hb e => by
      have := (hkx b e).1
      simp at hb
      omega)
    have HSET := Lib.hid hset
    have HROW := Lib.hid hrow2
    have HK := Lib.hid hk2
    have HKX := Lib.hid hkx
    have HF0 := Lib.hid hF0
    have HFS := Lib.hid hfs
    have HBL := Lib.hid hbl
    have HNX := Lib.hid hnx
    clear hG hk hrow hbl hF0 hx' hnx hset hfs hrow2 hkx hk2 hJ hL
    gi_wp2_with fail
    go_wp2_with fail
    go_ret
    have hF : Frm fp w (w'.setCell ⟨x, 0, none⟩ (.slice av (fs.length + 1) cv)) :=
      (HF0.out.mono (S' := fp) (by simp)).trans HFS.out (fun b hb => .inl (by simp at hb; subst hb; exact h3))
    refine ⟨rfl, k, fp ++ ((Value.slice av (fs.length + 1) cv).ownBlock.toList ++ k.ownBlock.toList), ⟨_, HSET.out, ?_, by simp [h3], fun b hb => ⟨by simp [hb], HNX.out b hb⟩, ?_, ?_⟩, hF, ?_⟩
    · have := own_base0 HROW.out
      simpa [rcells, List.flatMap_append] using this
    · intro b hb
      have hs := hF.size
      rcases List.mem_append.1 hb with h | h
      · have := h5 b h; omega
      · rcases List.mem_append.1 h with h | h
        · have h7 := HROW.out.2
          rcases h7 with ⟨q1, _⟩ | ⟨g2, c2, cur, q1, q2, q3, _⟩
          · cases q1
          · rw [q1] at h
            obtain rfl : b = g2 := by simpa [Value.ownBlock] using h
            exact lt_of_heap q3
        · have := (HKX.out b (by simpa using h)).2
          have : (w'.setCell ⟨x, 0, none⟩ (.slice av (fs.length + 1) cv)).heap.size = w'.heap.size := by simp
          omega
    · intro f hf
      rcases List.mem_append.1 hf with h | h
      · obtain ⟨q1, q2⟩ := H6.out f h
        refine ⟨Rd.frm (Rd.frm q1 HF0.out (by simp)) HFS.out (fun b hb e => (q2 b e).2.1 (by simpa using hb)), fun b hb => ⟨by simp [(q2 b hb).1], (q2 b hb).2.1, fun e => ?_⟩⟩
        have h8 := (HBL.out b e).1
        have := h5 b (q2 b hb).1
        omega
      · obtain rfl : f = (k, K, n, 0) := by simpa using h
        refine ⟨Rd.ofOwn HK.out, fun b hb => ⟨by simp [hb], ?_, fun e => (HBL.out b e).2 hb⟩⟩
        have := (HKX.out b hb).1
        have := h5 x h3
        omega
    · intro b hb
      rcases List.mem_append.1 hb with h | h
      · exact .inl h
      · rcases List.mem_append.1 h with h | h
        · exact .inr (HBL.out b (by simpa using h)).1
        · exact .inr (HKX.out b (by simpa using h)).1

end Go.Proofs.YtaobohlcpgnebaaDoor
