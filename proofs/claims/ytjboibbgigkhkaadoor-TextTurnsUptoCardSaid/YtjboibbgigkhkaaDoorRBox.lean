/- The reader of the document's answer: its box; what a call on it leaves. -/
import Derived.Test.YtjboibbgigkhkaaDoorBut
import Derived.Test.YtjboibbgigkhkaaDoorParseP
namespace Go.Proofs.YtjboibbgigkhkaaDoor
open Go.RowKit
set_option maxRecDepth 100000

def str (s : Str) : Value := .string ⟨s.toArray⟩

/-- the box of a reader: its text has these words; what was wrong first -/
def RBox (w : World) (R : Nat) (D : Value) (p : PS) : Prop := ∃ s : Str, s.length ≤ 1000000000000 ∧ words s = p.l ∧ Blk w R 84 #[.string ⟨s.toArray⟩, D, .int .i64 p.e]

theorem RBox.lt {w : World} {R : Nat} {D : Value} {p : PS} (h : RBox w R D p) : R < w.heap.size := by
  obtain ⟨s, -, -, h⟩ := h
  exact h.lt

/-- behind a call on a reader: what it answers; the reader -/
def ReadPost (v : Value) (p : PS) (R : Nat) (D : Value) (w : World) (e : Ending) (w' : World) : Prop := e = .returned v ∧ RBox w' R D p ∧ But R w.heap.size w w'

theorem rfail_any (w : World) (R : Nat) (D : Value) (p : PS) (c : Int) (hR : RBox w R D p) :
    Calls Tryd.prog 59 #[.pointer (some ⟨R, 0, none⟩), .int .i64 c] w (ReadPost (.tuple #[]) (p.fail c) R D w) := by
  obtain ⟨s, hs, hw, hB⟩ := hR
  have b2 := hB.cell 2
  have f2 := hB.frozen 2
  simp at b2
  by_cases h0 : p.e = 0
  · have hf : p.fail c = ⟨p.l, c⟩ := by unfold PS.fail; rw [if_pos h0]
    rw [hf]
    have hb : (p.e == 0) = true := by simpa using h0
    have HB := Lib.hid (And.intro hB hw)
    clear hB h0 hw
    go_enter Tryd.func59, Tryd.ntmps59
    go_wp2_with fail
    refine bodyPost_ret (v := .tuple #[]) (by simp [results, Tryd.results59, go_sem]) rfl ?_
    exact ⟨rfl, ⟨s, hs, HB.out.2, by have h := HB.out.1.set_ 2 (.int .i64 c); simpa using h⟩, (But.refl R w.heap.size w).setX (p := ⟨R, 2, none⟩) rfl _⟩
  · have hf : p.fail c = p := by unfold PS.fail; rw [if_neg h0]
    rw [hf]
    have hb : (p.e == 0) = false := by simpa using h0
    have HB := Lib.hid (And.intro hB hw)
    clear hB h0 hw
    go_enter Tryd.func59, Tryd.ntmps59
    go_wp2_with fail
    refine bodyPost_ret (v := .tuple #[]) (by simp [results, Tryd.results59, go_sem]) rfl ?_
    exact ⟨rfl, ⟨s, hs, HB.out.2, HB.out.1⟩, But.refl _ _ _⟩
end Go.Proofs.YtjboibbgigkhkaaDoor
