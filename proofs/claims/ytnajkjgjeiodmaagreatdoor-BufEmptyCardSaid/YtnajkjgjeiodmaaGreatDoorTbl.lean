/-
  THE TABLE OF PIECES: what it is in memory; Len, Pieces, Edits, reaches. Conditions: a text of fewer than 2^30 bytes.
-/
import Derived.Test.YtnajkjgjeiodmaaGreatDoorPc
import Derived.Test.YtnajkjgjeiodmaaGreatDoorVedP
import Derived.Test.YtnajkjgjeiodmaaGreatDoorAllP
namespace Go.Proofs.YtnajkjgjeiodmaaGreatDoor.Pp
open Go.RowKit
open Go.Proofs (Tryz.prog)

theorem infoU8 : (Tryz.prog.info? 5).map (fun i => (i.zero, i.size, i.bytes)) = some (some (Value.int .u8 0), 1, 1) := by kernel_rfl
def encB (c : UInt8) : Value := .int .u8 (c.toNat : Int)
/-- At x lies a piece.Table over the first text f and the added bytes a, with the pieces ps, of this size, limit and count of edits; fp: the blocks that it owns. -/
def Raw (w : World) (x : Nat) (fp : List Nat) (f : ByteArray) (a : List UInt8) (ps : List Pc) (size most edits : Int) : Prop :=
  ∃ av p fv, w.heap[x]? = some (.cells #[.string f, av, .pointer (some ⟨p, 0, none⟩), .int .i64 size, .int .i64 most, .int .i64 edits] 89 (0, 0)) ∧
    w.ownsRow 0 5 1 av a.length (a.map encB) ∧ VecP w p fv ps ∧ fp = x :: (av.ownBlock.toList ++ fv)
theorem Raw.kept {w w' : World} {x : Nat} {fp : List Nat} {f : ByteArray} {a : List UInt8} {ps : List Pc} {size most edits : Int} (h : Raw w x fp f a ps size most edits) (hs : ∀ b o, b ∈ fp → w.heap[b]? = some o → w'.heap[b]? = some o) : Raw w' x fp f a ps size most edits := by
  obtain ⟨av, p, fv, hx, hr, hv, rfl⟩ := h
  exact ⟨av, p, fv, hs _ _ (by simp) hx, ownsRow_heap hr (fun b o hb ho => hs b o (by simp [hb]) ho), hv.kept (fun b o hb ho => hs b o (by simp [hb]) ho), rfl⟩
theorem Raw.frm {w w' : World} {x : Nat} {fp S : List Nat} {f : ByteArray} {a : List UInt8} {ps : List Pc} {size most edits : Int} (h : Raw w x fp f a ps size most edits) (hf : Frm S w w') (hd : ∀ b ∈ fp, b ∉ S) : Raw w' x fp f a ps size most edits :=
  h.kept (fun b _ hb ho => hf.heap ho (hd b hb))
theorem Raw.lt {w : World} {x : Nat} {fp : List Nat} {f : ByteArray} {a : List UInt8} {ps : List Pc} {size most edits : Int} (h : Raw w x fp f a ps size most edits) : ∀ b ∈ fp, b < w.heap.size := by
  obtain ⟨av, p, fv, hx, hr, hv, rfl⟩ := h
  intro b hb
  rcases List.mem_cons.1 hb with rfl | hb
  · exact lt_of_heap hx
  · rcases List.mem_append.1 hb with hb | hb
    · exact (hr.lt b (by simpa using hb)).2
    · exact hv.lt b hb
theorem Raw.mem {w : World} {x : Nat} {fp : List Nat} {f : ByteArray} {a : List UInt8} {ps : List Pc} {size most edits : Int} (h : Raw w x fp f a ps size most edits) : x ∈ fp := by
  obtain ⟨av, p, fv, hx, hr, hv, rfl⟩ := h
  simp
theorem VecP.not_mem {w : World} {p x : Nat} {fv : List Nat} {xs : List Pc} (hv : VecP w p fv xs) {c : Array Value} {t : TypeId} {fz : Nat × Nat} (hx : w.heap[x]? = some (.cells c t fz)) (h1 : t ≠ 111) (h2 : t ≠ 87) : x ∉ fv := by
  obtain ⟨v, hp, hr, rfl⟩ := hv
  intro hm
  rcases List.mem_cons.1 hm with rfl | hm
  · rw [hp] at hx
    simp only [Option.some.injEq, Obj.cells.injEq] at hx
    exact h1 hx.2.1.symm
  · exact ownsRow_type hr hx h2 (by simpa using hm)

/-- A table that is well: its pieces tell its text, none is empty, there are not too many; cap: a bound of all sizes. -/
def Tbl (w : World) (x : Nat) (fp : List Nat) (T : List UInt8) (most : Int) (edits np cap : Nat) : Prop :=
  ∃ f a ps, Raw w x fp f a ps (T.length : Nat) most (edits : Nat) ∧ (∀ p ∈ ps, Okp f.data.toList a p) ∧ T = told f.data.toList a ps ∧ ps.length = np ∧ np ≤ 2 * edits + 1 ∧
    f.size ≤ cap ∧ a.length ≤ cap ∧ T.length ≤ cap ∧ edits ≤ cap ∧ (T.length : Int) ≤ most ∧ most ≤ 4611686018427387904
theorem Tbl.frm {w w' : World} {x : Nat} {fp S : List Nat} {T : List UInt8} {most : Int} {edits np cap : Nat} (h : Tbl w x fp T most edits np cap) (hf : Frm S w w') (hd : ∀ b ∈ fp, b ∉ S) : Tbl w' x fp T most edits np cap := by
  obtain ⟨f, a, ps, hr, h⟩ := h
  exact ⟨f, a, ps, hr.frm hf hd, h⟩
theorem Tbl.lt {w : World} {x : Nat} {fp : List Nat} {T : List UInt8} {most : Int} {edits np cap : Nat} (h : Tbl w x fp T most edits np cap) : ∀ b ∈ fp, b < w.heap.size := by
  obtain ⟨f, a, ps, hr, h⟩ := h
  exact hr.lt
theorem Tbl.mem {w : World} {x : Nat} {fp : List Nat} {T : List UInt8} {most : Int} {edits np cap : Nat} (h : Tbl w x fp T most edits np cap) : x ∈ fp := by
  obtain ⟨f, a, ps, hr, h⟩ := h
  exact hr.mem
theorem Tbl.mono {w : World} {x : Nat} {fp : List Nat} {T : List UInt8} {most : Int} {edits np cap cap' : Nat} (h : Tbl w x fp T most edits np cap) (hc : cap ≤ cap') : Tbl w x fp T most edits np cap' := by
  obtain ⟨f, a, ps, hr, h1, h2, h3, h4, h5, h6, h7, h8, h9⟩ := h
  exact ⟨f, a, ps, hr, h1, h2, h3, h4, by omega, by omega, by omega, by omega, h9⟩
theorem Tbl.few {w : World} {x : Nat} {fp : List Nat} {T : List UInt8} {most : Int} {edits np cap : Nat} (h : Tbl w x fp T most edits np cap) : np ≤ 2 * edits + 1 ∧ (T.length : Int) ≤ most ∧ T.length ≤ cap ∧ edits ≤ cap ∧ most ≤ 4611686018427387904 := by
  obtain ⟨f, a, ps, hr, h1, h2, h3, h4, h5, h6, h7, h8, h9, h10⟩ := h
  exact ⟨h4, h9, h7, h8, h10⟩

set_option maxHeartbeats 400000 in
theorem tblLen (w : World) (x : Nat) (fp : List Nat) (f : ByteArray) (a : List UInt8) (ps : List Pc) (size most edits : Int) (h : Raw w x fp f a ps size most edits) :
    Calls Tryz.prog 52 #[.pointer (some ⟨x, 0, none⟩)] w fun e w' => e = .returned (.int .i64 size) ∧ w = w' := by
  obtain ⟨av, p, fv, hx, -, -, -⟩ := h
  have hc := cell_of_heap (i := 3) hx rfl
  clear hx
  go_enter Tryz.func52, Tryz.ntmps52
  go_wp2_with fail
  go_ret
  exact ⟨rfl, rfl⟩
set_option maxHeartbeats 400000 in
theorem tblEdits (w : World) (x : Nat) (fp : List Nat) (f : ByteArray) (a : List UInt8) (ps : List Pc) (size most edits : Int) (h : Raw w x fp f a ps size most edits) :
    Calls Tryz.prog 41 #[.pointer (some ⟨x, 0, none⟩)] w fun e w' => e = .returned (.int .i64 edits) ∧ w = w' := by
  obtain ⟨av, p, fv, hx, -, -, -⟩ := h
  have hc := cell_of_heap (i := 5) hx rfl
  clear hx
  go_enter Tryz.func41, Tryz.ntmps41
  go_wp2_with fail
  go_ret
  exact ⟨rfl, rfl⟩
set_option maxHeartbeats 400000 in
theorem tblPieces (w : World) (x : Nat) (fp : List Nat) (f : ByteArray) (a : List UInt8) (ps : List Pc) (size most edits : Int) (h : Raw w x fp f a ps size most edits) :
    Calls Tryz.prog 40 #[.pointer (some ⟨x, 0, none⟩)] w fun e w' => e = .returned (.int .i64 ps.length) ∧ w = w' := by
  obtain ⟨av, p, fv, hx, -, hv, -⟩ := h
  have hc := cell_of_heap (i := 2) hx rfl
  have hl := vecLenP w p fv ps hv
  clear hx hv
  go_enter Tryz.func40, Tryz.ntmps40
  go_wp2_with fail
  refine hl.mono ?_
  rintro e w' ⟨rfl, rfl⟩
  go_wp2_with fail
  go_ret
  exact ⟨rfl, rfl⟩

set_option maxHeartbeats 400000 in
theorem tblReaches_yes (w : World) (x : Nat) (fp : List Nat) (f : ByteArray) (a : List UInt8) (ps : List Pc) (size most edits : Int) (h : Raw w x fp f a ps size most edits) (off n : Int) (h0 : 0 ≤ off) (h1 : 0 ≤ n) (h2 : off ≤ size) (h3 : n ≤ size - off) (hs : size ≤ 1099511627776) :
    Calls Tryz.prog 60 #[.pointer (some ⟨x, 0, none⟩), .int .i64 off, .int .i64 n] w fun e w' => e = .returned (.bool true) ∧ w = w' := by
  obtain ⟨av, p, fv, hx, -, -, -⟩ := h
  have hc := cell_of_heap (i := 3) hx rfl
  clear hx
  go_enter Tryz.func60, Tryz.ntmps60
  go_wp2_with fail
  go_ret
  exact ⟨by simp, rfl⟩
set_option maxHeartbeats 800000 in
theorem tblReaches_no (w : World) (x : Nat) (fp : List Nat) (f : ByteArray) (a : List UInt8) (ps : List Pc) (size most edits : Int) (h : Raw w x fp f a ps size most edits) (off n : Int) (hno : ¬ (0 ≤ off ∧ 0 ≤ n ∧ off ≤ size ∧ n ≤ size - off)) (hz : 0 ≤ size) (hs : size ≤ 1099511627776) :
    Calls Tryz.prog 60 #[.pointer (some ⟨x, 0, none⟩), .int .i64 off, .int .i64 n] w fun e w' => e = .returned (.bool false) ∧ w = w' := by
  obtain ⟨av, p, fv, hx, -, -, -⟩ := h
  have hc := cell_of_heap (i := 3) hx rfl
  clear hx
  by_cases h0 : 0 ≤ off
  · by_cases h1 : 0 ≤ n
    · by_cases h2 : off ≤ size
      · have h3 : ¬ n ≤ size - off := by omega
        clear hno
        go_enter Tryz.func60, Tryz.ntmps60
        go_wp2_with fail
        go_ret
        exact ⟨by simp, rfl⟩
      · clear hno
        go_enter Tryz.func60, Tryz.ntmps60
        go_wp2_with fail
        go_ret
        exact ⟨by simp, rfl⟩
    · clear hno
      go_enter Tryz.func60, Tryz.ntmps60
      go_wp2_with fail
      go_ret
      exact ⟨by simp, rfl⟩
  · clear hno
    go_enter Tryz.func60, Tryz.ntmps60
    go_wp2_with fail
    go_ret
    exact ⟨by simp, rfl⟩

end Go.Proofs.YtnajkjgjeiodmaaGreatDoor.Pp
