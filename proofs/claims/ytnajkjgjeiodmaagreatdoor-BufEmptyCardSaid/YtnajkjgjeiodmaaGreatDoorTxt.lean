/-
  CONTRACT OF piece.Table.text: what a piece tells. Conditions: texts of fewer than 2^40 bytes.
-/
import Derived.Test.YtnajkjgjeiodmaaGreatDoorTbl
import Derived.Lib.Strings
import Derived.Laws.IdiomStrings
import Derived.BigQuiet
namespace Go.Proofs.YtnajkjgjeiodmaaGreatDoor.Pp
open Go.RowKit
open Go.Proofs (Tryz.prog)

set_option maxRecDepth 100000 in
set_option maxHeartbeats 1600000 in
theorem tblText (w : World) (x : Nat) (fp : List Nat) (f : ByteArray) (a : List UInt8) (ps : List Pc) (size most edits : Int) (h : Raw w x fp f a ps size most edits) (p : Pc) (hp : Okp f.data.toList a p) (hf : f.size ≤ 1099511627776) (ha : a.length ≤ 1099511627776) :
    Calls Tryz.prog 62 #[.pointer (some ⟨x, 0, none⟩), .agg #[.bool p.1, .int .i64 p.2.1, .int .i64 p.2.2]] w fun e w' => e = .returned (.string ⟨(txt f.data.toList a p).toArray⟩) ∧ Frm [] w w' := by
  obtain ⟨b, o, n⟩ := p
  obtain ⟨h0, h1, h2⟩ := hp
  simp only at h0 h1 h2
  obtain ⟨o, rfl⟩ := Int.eq_ofNat_of_zero_le h0
  obtain ⟨n, rfl⟩ := Int.eq_ofNat_of_zero_le (Int.le_of_lt h1)
  have hfr : Frm [] w (w.alloc (.cells #[.bool b, .int .i64 o, .int .i64 n] 87)) := (Frm.refl [] w).alloc _
  have hfr2 := fun nq => hfr.drewN nq
  obtain ⟨av, pp, fv, hx, hr, -, -⟩ := h.frm hfr (by simp)
  have hxl := h.lt x h.mem
  have hc0 := cell_of_heap (i := 0) hx rfl
  have hc1 := cell_of_heap (i := 1) hx rfl
  have hw1 : IntKind.i64.wrap ((o : Int) + (n : Int)) = (o : Int) + (n : Int) := by
    rw [IntKind.wrap_i64]
    cases b <;> simp at h2 <;> omega
  have hon : ((o : Int) + (n : Int)).toNat = o + n := by omega
  have HF := Lib.hid hfr2
  cases b with
  | false =>
    have hl : f.data.toList.length = f.size := by simp
    simp only [Bool.false_eq_true, if_false, hl] at h2
    have hres : f.extract o (o + n) = ⟨(txt f.data.toList a (false, (o : Int), (n : Int))).toArray⟩ := by
      rw [Lib.extract_eq, show o + n - o = n by omega]
      simp [txt]
    have HRES := Lib.hid hres
    clear h hx hr hfr hfr2 hc1 hl hres
    go_enter Tryz.func62, Tryz.ntmps62
    go_wp2_with fail
    go_quiet (fail)
    go_wp2_with fail
    go_ret
    exact ⟨by rw [← HRES.out]; rfl, HF.out _⟩
  | true =>
    simp only [if_true] at h2
    rcases hr.2 with ⟨rfl, hz⟩ | ⟨g, cap, cur, rfl, _, hg, k1, k2, k3, k4⟩
    · omega
    have hcl := fun j u hj => hr.cells (g := g) rfl j u hj
    have htl : (txt f.data.toList a (true, (o : Int), (n : Int))).length = n := by
      simp only [txt, if_true, List.length_take, List.length_drop]
      omega
    have hcv : ∀ W : World, (∀ j, W.cell? ⟨g, j, none⟩ = (w.alloc (.cells #[.bool true, .int .i64 o, .int .i64 n] 87)).cell? ⟨g, j, none⟩) →
        (convert 37 9 (.slice (some ⟨g, o, none⟩) n (cap - o))).run Tryz.prog W = .ok (.string ⟨(txt f.data.toList a (true, (o : Int), (n : Int))).toArray⟩) W := fun W hW => by
      have := run_convert_bytes_back (P := Tryz.prog) W 37 9 5 ⟨g, o, none⟩ (cap - o) (txt f.data.toList a (true, (o : Int), (n : Int))) Tryz.underlying37 Tryz.underlying5 Tryz.underlying9 (fun j hj => by
        have e : (⟨g, o, none⟩ : Addr).add j = ⟨g, o + j, none⟩ := by unfold Addr.add; split <;> simp_all
        rw [e, hW]
        have hja : o + j < a.length := by omega
        have hq := hcl (o + j) (encB a[o + j]) (by simp [List.getElem?_eq_getElem hja])
        rw [Addr.add_lit] at hq
        have e2 : (txt f.data.toList a (true, (o : Int), (n : Int)))[j] = a[o + j] := by
          simp [txt]
        rw [e2]
        simpa [encB] using hq)
      rw [htl] at this
      exact this
    have hcv2 : ∀ nq, (convert 37 9 (.slice (some ⟨g, o, none⟩) n (cap - o))).run Tryz.prog ((w.alloc (.cells #[.bool true, .int .i64 o, .int .i64 n] 87)).drewN nq) = .ok (.string ⟨(txt f.data.toList a (true, (o : Int), (n : Int))).toArray⟩) ((w.alloc (.cells #[.bool true, .int .i64 o, .int .i64 n] 87)).drewN nq) := fun nq => hcv _ (fun j => rfl)
    clear h hx hr hfr hfr2 hc0 hcl htl hcv k4 hg k3
    generalize a.length = L at *
    go_enter Tryz.func62, Tryz.ntmps62
    go_wp2_with fail
    go_quiet (fail)
    go_wp2_with fail
    go_ret
    exact ⟨rfl, HF.out _⟩

end Go.Proofs.YtnajkjgjeiodmaaGreatDoor.Pp
