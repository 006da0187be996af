/- The program's own reader (package text): its box; fail and take. -/
import Derived.Test.YtjboibbgigkhkaaDoorRParse
namespace Go.Proofs.YtjboibbgigkhkaaDoor
open Go.RowKit
set_option maxRecDepth 100000

/-- the box of the program's reader: these words are left (they lie in block L); what was wrong first -/
def PBox (w : World) (R L : Nat) (D : Value) (p : PS) : Prop := ∃ (A : Option Addr) (cap : Nat), Strs w R p.l (.slice A p.l.length cap) ∧ (p.l.length ≤ 1000000000000 ∧ L < w.heap.size ∧ (p.l ≠ [] → ∃ off, A = some ⟨L, off, none⟩)) ∧ Blk w R 60 #[.slice A p.l.length cap, D, .int .i64 p.e]

theorem PBox.lt {w : World} {R L : Nat} {D : Value} {p : PS} (h : PBox w R L D p) : R < w.heap.size := by
  obtain ⟨A, cap, -, -, h⟩ := h
  exact h.lt
theorem PBox.ltL {w : World} {R L : Nat} {D : Value} {p : PS} (h : PBox w R L D p) : L < w.heap.size := by
  obtain ⟨A, cap, -, h, -⟩ := h
  exact h.2.1
/-- the same cells: the same box -/
theorem PBox.same {w w' : World} {R L : Nat} {D : Value} {p : PS} (h : PBox w R L D p) (hs : w.heap.size ≤ w'.heap.size) (h1 : w'.heap[R]? = w.heap[R]?) (h2 : w'.heap[L]? = w.heap[L]?) : PBox w' R L D p := by
  obtain ⟨A, cap, ⟨A0, cap0, e, g2, g3, g4⟩, ⟨k1, k2, k3⟩, k4⟩ := h
  cases e
  refine ⟨A, cap, ⟨A, cap, rfl, g2, g3, fun hne => ?_⟩, ⟨k1, by omega, k3⟩, h1.trans k4⟩
  obtain ⟨b, off, e, hlt, hR, hc⟩ := g4 hne
  obtain ⟨off2, e2⟩ := k3 hne
  rw [e] at e2
  cases e2
  exact ⟨L, off, e, by omega, hR, fun j s hj => (World.cell?_of_block (a := ⟨L, off + j, none⟩) h2).trans (hc j s hj)⟩
theorem PBox.below {w w' : World} {R L : Nat} {D : Value} {p : PS} (h : PBox w R L D p) (hb : Below w.heap.size w w') : PBox w' R L D p := h.same hb.size (hb.block R h.lt) (hb.block L h.ltL)
theorem PBox.butX {w w' : World} {R L X : Nat} {D : Value} {p : PS} (h : PBox w R L D p) (hX : R ≠ X) (hL : L ≠ X) (hb : But X w.heap.size w w') : PBox w' R L D p := h.same hb.size (hb.block R h.lt hX) (hb.block L h.ltL hL)
theorem PBox.far {w : World} {R L : Nat} {D : Value} {p : PS} (h : PBox w R L D p) {a : Addr} (hR : R ≠ a.block) (hL : L ≠ a.block) (u : Value) : PBox (w.setCell a u) R L D p :=
  h.same (by simp [World.setCell]) (Below.heap_setCell _ _ _ _ hR) (Below.heap_setCell _ _ _ _ hL)
theorem PBox.grown {w w' : World} {R L : Nat} {D : Value} {p : PS} {row : Option Nat} (h : PBox w R L D p) (hg : w.grownBy w' row) (hR : some R ≠ row) (hL : some L ≠ row) : PBox w' R L D p :=
  h.same hg.size (hg.block R h.lt hR) (hg.block L h.ltL hL)

/-- behind a call on the reader -/
def PPost (v : Value) (p : PS) (R L : Nat) (D : Value) (w : World) (e : Ending) (w' : World) : Prop := e = .returned v ∧ PBox w' R L D p ∧ But R w.heap.size w w'

theorem Strs.setR {w : World} {R : Nat} {l : List Str} {v : Value} (h : Strs w R l v) (i : Nat) (u : Value) : Strs (w.setCell ⟨R, i, none⟩ u) R l v := by
  obtain ⟨A, cap, h1, h2, h3, h4⟩ := h
  refine ⟨A, cap, h1, h2, h3, fun hne => ?_⟩
  obtain ⟨b, off, e, hlt, hR, hc⟩ := h4 hne
  exact ⟨b, off, e, by simpa [World.setCell] using hlt, hR, fun j s hj => (World.cell?_of_block (Below.heap_setCell _ _ _ _ hR)).trans (hc j s hj)⟩

theorem pfail_any (w : World) (R L : Nat) (D : Value) (p : PS) (c : Int) (hR : PBox w R L D p) :
    Calls Tryd.prog 40 #[.pointer (some ⟨R, 0, none⟩), .int .i64 c] w (PPost (.agg #[.int .i64 0, .int .i64 0, .slice none 0 0]) (p.fail c) R L D w) := by
  have hRl := hR.lt
  obtain ⟨A, cap, hs, hl, hB⟩ := hR
  have hb0 := (Below.refl w.heap.size w).alloc (Nat.le_refl _) (.cells #[.int .i64 0, .int .i64 0, .slice none 0 0] 24)
  have b2 : w.cell? ⟨R, 2, none⟩ = some (.int .i64 p.e) := hB.cell 2
  have f2 := hB.frozen 2
  have HB := Lib.hid (And.intro hB hs)
  by_cases h0 : p.e = 0
  · have HF := Lib.hid (show p.fail c = ⟨p.l, c⟩ from by unfold PS.fail; rw [if_pos h0])
    have hb : (p.e == 0) = true := by simpa using h0
    clear hB h0 hs
    go_enter Tryd.func40, Tryd.ntmps40
    go_wp2_with fail
    refine bodyPost_ret (v := .agg #[.int .i64 0, .int .i64 0, .slice none 0 0]) (by simp [results, Tryd.results40, go_sem]) rfl ?_
    rw [HF.out]
    refine ⟨rfl, ⟨A, cap, ?_, ⟨hl.1, by have := hl.2.1; simp [World.setCell]; omega, hl.2.2⟩, ?_⟩, ?_⟩
    · exact (HB.out.2.setR 2 _).but (but_of ((Below.refl _ _).alloc (Nat.le_refl _) _))
    · have h := (HB.out.1.set_ 2 (.int .i64 c)).alloc (.cells #[.int .i64 0, .int .i64 0, .slice none 0 0] 24)
      simpa using h
    · exact ((But.refl R w.heap.size w).setX (p := ⟨R, 2, none⟩) rfl _).alloc (by simp) _
  · have HF := Lib.hid (show p.fail c = p from by unfold PS.fail; rw [if_neg h0])
    have hb : (p.e == 0) = false := by simpa using h0
    clear hB h0 hs
    go_enter Tryd.func40, Tryd.ntmps40
    go_wp2_with fail
    refine bodyPost_ret (v := .agg #[.int .i64 0, .int .i64 0, .slice none 0 0]) (by simp [results, Tryd.results40, go_sem]) rfl ?_
    rw [HF.out]
    exact ⟨rfl, PBox.below ⟨A, cap, HB.out.2, hl, HB.out.1⟩ hb0, but_of hb0⟩

theorem Strs.tail {w : World} {R : Nat} {a : Str} {r : List Str} {A : Option Addr} {cap : Nat} (h : Strs w R (a :: r) (.slice A (a :: r).length cap)) : ∃ b off, A = some ⟨b, off, none⟩ ∧ b ≠ R ∧ w.cell? ⟨b, off, none⟩ = some (.string ⟨a.toArray⟩) ∧ r.length + 1 ≤ cap ∧ cap ≤ maxLen ∧
    ∀ A', (r ≠ [] → A' = some ⟨b, off + 1, none⟩) → Strs w R r (.slice A' r.length (cap - 1)) := by
  obtain ⟨A0, cap0, e, h2, h3, h4⟩ := h
  cases e
  obtain ⟨b, off, e, hlt, hR, hc⟩ := h4 (by simp)
  refine ⟨b, off, e, hR, by simpa using hc 0 a rfl, by simpa using h2, h3, fun A' hA' => ⟨A', cap - 1, rfl, by simp at h2; omega, by omega, fun hne => ⟨b, off + 1, hA' hne, hlt, hR, fun j s hj => ?_⟩⟩⟩
  have := hc (j + 1) s (by simpa using hj)
  rw [show off + 1 + j = off + (j + 1) by omega]
  exact this

theorem ptake_any (w : World) (R L : Nat) (D : Value) (p : PS) (hR : PBox w R L D p) :
    Calls Tryd.prog 52 #[.pointer (some ⟨R, 0, none⟩)] w (PPost (.string ⟨p.take.1.toArray⟩) p.take.2 R L D w) := by
  have hRl := hR.lt
  obtain ⟨pl, pe⟩ := p
  cases pl with
  | nil =>
    have HTK := Lib.hid (show PS.take ⟨[], pe⟩ = ([], PS.fail 8 ⟨[], pe⟩) from rfl)
    have HR := Lib.hid hR
    obtain ⟨A, cap, hs, hl, hB⟩ := hR
    have b0 : w.cell? ⟨R, 0, none⟩ = some (.slice A 0 cap) := hB.cell 0
    clear hB hs
    go_enter Tryd.func52, Tryd.ntmps52
    go_wp2_with fail
    refine (pfail_any w R L D ⟨[], pe⟩ 8 HR.out).mono ?_
    rintro e w1 ⟨rfl, hR1, hb1⟩
    have HE := Lib.hid (And.intro hR1 hb1)
    clear hR1 hb1
    go_wp2_with fail
    go_ret
    rw [HTK.out]
    exact ⟨rfl, HE.out.1, HE.out.2⟩
  | cons a r =>
    have HTK := Lib.hid (show PS.take ⟨a :: r, pe⟩ = (a, ⟨r, pe⟩) from rfl)
    obtain ⟨A, cap, hs, hl, hB⟩ := hR
    obtain ⟨b, off, hA, hbR, hca, hcap, hcm, htl⟩ := hs.tail
    subst hA
    obtain ⟨hl1, hl2, hl3⟩ := hl
    obtain ⟨off2, e2⟩ := hl3 (by simp)
    cases e2
    clear hl3
    simp only [List.length_cons] at hB hl1
    have b0 : w.cell? ⟨R, 0, none⟩ = some (.slice (some ⟨L, off, none⟩) (r.length + 1) cap) := hB.cell 0
    have f0 := hB.frozen 0
    have HB := Lib.hid hB
    have HTL := Lib.hid htl
    clear hB hs htl
    unfold maxLen at hcm
    have hr1 : ((r.length : Int) + 1 == 0) = false := by rw [beq_eq_false_iff_ne]; omega
    by_cases hc1 : cap = 1
    · have hr0 : r = [] := List.eq_nil_of_length_eq_zero (by omega)
      have HS := Lib.hid (HTL.out (some ⟨L, off, none⟩) (fun h => absurd hr0 h))
      subst hr0 hc1
      clear HTL
      go_enter Tryd.func52, Tryd.ntmps52
      go_wp2_with fail
      go_ret
      rw [HTK.out]
      refine ⟨rfl, ⟨_, _, HS.out.setR 0 _, ⟨by simp, by simpa [World.setCell] using hl2, fun h => absurd rfl h⟩, ?_⟩, (But.refl R w.heap.size w).setX (p := ⟨R, 0, none⟩) rfl _⟩
      have h := HB.out.set_ 0 (.slice (some ⟨L, off, none⟩) 0 0)
      simpa using h
    · have HS := Lib.hid (HTL.out (some ⟨L, off + 1, none⟩) (fun _ => rfl))
      clear HTL
      go_enter Tryd.func52, Tryd.ntmps52
      go_wp2_with fail
      go_ret
      rw [HTK.out]
      refine ⟨rfl, ⟨_, _, HS.out.setR 0 _, ⟨by simp; omega, by simpa [World.setCell] using hl2, fun _ => ⟨_, rfl⟩⟩, ?_⟩, (But.refl R w.heap.size w).setX (p := ⟨R, 0, none⟩) rfl _⟩
      have h := HB.out.set_ 0 (.slice (some ⟨L, off + 1, none⟩) r.length (cap - 1))
      simpa using h
end Go.Proofs.YtjboibbgigkhkaaDoor
