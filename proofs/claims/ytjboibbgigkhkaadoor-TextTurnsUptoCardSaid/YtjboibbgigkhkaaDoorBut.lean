/- What lies below stands, but for one block; three cells of a block. -/
import Derived.Test.YtjboibbgigkhkaaDoorEachL
import Derived.Test.YtjboibbgigkhkaaDoorSame
import Derived.StillTailTactics
import Derived.Deep.DeepCutAuto
import Derived.Deep.CutBlock
import Derived.Deep.RegionHeld3
import Derived.BigRegion
import Derived.IntWalk
namespace Go.Proofs.YtjboibbgigkhkaaDoor
open Go.RowKit
set_option maxRecDepth 100000

/-- three cells of a block that is known whole, none frozen -/
theorem Blk.tri {w : World} {g : Nat} {t : TypeId} {a b c : Value} (h : Blk w g t #[a, b, c]) :
    (w.cell? ⟨g, 0, none⟩ = some a ∧ w.cell? ⟨g, 1, none⟩ = some b ∧ w.cell? ⟨g, 2, none⟩ = some c) ∧ (w.frozen? ⟨g, 0, none⟩ = false ∧ w.frozen? ⟨g, 1, none⟩ = false ∧ w.frozen? ⟨g, 2, none⟩ = false) :=
  ⟨⟨h.cell 0, h.cell 1, h.cell 2⟩, h.frozen 0, h.frozen 1, h.frozen 2⟩

/-- what lies below n stands, but for one block -/
structure But (X n : Nat) (w w' : World) : Prop where
  os : w'.os = w.os
  tape : w'.tape = w.tape
  output : w'.output = w.output
  size : w.heap.size ≤ w'.heap.size
  block : ∀ k, k < n → k ≠ X → w'.heap[k]? = w.heap[k]?

section
variable {X n : Nat} {w w' w'' : World}
theorem but_of (h : Below n w w') : But X n w w' := ⟨h.os, h.tape, h.output, h.size, fun k hk _ => h.block k hk⟩
theorem But.refl (X n : Nat) (w : World) : But X n w w := ⟨rfl, rfl, rfl, Nat.le_refl _, fun _ _ _ => rfl⟩
theorem But.trans (h : But X n w w') (k : But X n w' w'') : But X n w w'' :=
  ⟨k.os.trans h.os, k.tape.trans h.tape, k.output.trans h.output, Nat.le_trans h.size k.size, fun i hi hx => (k.block i hi hx).trans (h.block i hi hx)⟩
theorem But.mono {n' : Nat} (h : But X n w w') (hn : n' ≤ n) : But X n' w w' := ⟨h.os, h.tape, h.output, h.size, fun k hk hx => h.block k (Nat.lt_of_lt_of_le hk hn) hx⟩
theorem But.below {n' : Nat} (h : But X n w w') (hn : n' ≤ n) (hX : n' ≤ X) : Below n' w w' := ⟨h.os, h.tape, h.output, h.size, fun k hk => h.block k (Nat.lt_of_lt_of_le hk hn) (by omega)⟩
theorem But.drew (h : But X n w w') : But X n w w'.drew := ⟨h.os, h.tape, h.output, h.size, h.block⟩
theorem But.cell (h : But X n w w') {p : Addr} (hp : p.block < n) (hx : p.block ≠ X) : w'.cell? p = w.cell? p := World.cell?_of_block (w := w) (h.block p.block hp hx)
theorem But.alloc (h : But X n w w') (hn : n ≤ w'.heap.size) (o : Obj) : But X n w (w'.alloc o) := h.trans (but_of ((Below.refl n w').alloc hn o))
theorem But.setCell (h : But X n w w') {p : Addr} (hp : n ≤ p.block) (u : Value) : But X n w (w'.setCell p u) := h.trans (but_of ((Below.refl n w').setCell hp u))
theorem But.setX (h : But X n w w') {p : Addr} (hp : p.block = X) (u : Value) : But X n w (w'.setCell p u) :=
  h.trans ⟨rfl, rfl, rfl, by simp [World.setCell], fun k _ hx => Below.heap_setCell _ _ _ _ (by omega)⟩
theorem But.grown {row : Option Nat} (h : But X n w w') (hg : w'.grownBy w'' row) (hn : n ≤ w'.heap.size) (hr : ∀ k, row = some k → n ≤ k) : But X n w w'' :=
  h.trans (but_of ((Below.refl n w').grown hg hn hr))
theorem Blk.but {g : Nat} {t : TypeId} {cs : Array Value} (h : Blk w g t cs) (hb : But X n w w') (hg : g < n) (hx : g ≠ X) : Blk w' g t cs := (hb.block g hg hx).trans h
end

theorem RowS.but {X : Nat} {w w' : World} {S : Nat → Prop} {base : Nat} {V : Value} {ts : List T} (h : RowS w S base V ts) (hS : ∀ b, S b → b < base) (hX : X < base) (hSX : ¬ S X) (hbs : base ≤ w.heap.size) (hb : But X w.heap.size w w') : RowS w' S base V ts := by
  obtain ⟨cs, hown, hts⟩ := h
  refine ⟨cs, hown.kept (row := some X) ⟨hb.os, hb.tape, hb.output, hb.size, fun k hk hx => hb.block k hk (fun e => hx (by rw [e]))⟩ (by
    cases hV : V.ownBlock with
    | none => exact .inl rfl
    | some g => exact .inr (fun e => absurd (hown.lt X (hV.trans e)).1 (by omega))), fun i t hi => ?_⟩
  · obtain ⟨s, a1, a2, a3, a4⟩ := hts i t hi
    refine ⟨s, a1, a2, a3, a4.keep (fun b hb' => hb'.imp id fun h' => ⟨h'.1, Nat.lt_of_lt_of_le h'.2.1 hb.size, h'.2.2⟩) fun p hp => hb.cell ?_ ?_⟩
    · rcases hp with hp | hp
      · have := hS _ hp; omega
      · exact hp.2.1
    · rcases hp with hp | hp
      · intro e; rw [e] at hp; exact hSX hp
      · have := hp.1; omega

theorem row_call_but {X : Nat} {wr w1 w2 : World} {S : Nat → Prop} {base : Nat} {V : Value} {ts : List T} {x : T} {s : Value} (hrow : RowS wr S base V ts) (hS : ∀ b, S b → b < base) (hX : X < base) (hSX : ¬ S X) (hbs : base ≤ wr.heap.size) (hb1 : Below wr.heap.size wr w1)
    (hb2 : But X w1.heap.size w1 w2) (hx : argsInS w2 (orNew S w1 w2) x s) (o : Obj) :
    RowS (w2.alloc o) S base V ts ∧ argsInS (w2.alloc o) (Own S base V (w2.alloc o).heap.size) x s ∧ base ≤ (w2.alloc o).heap.size := by
  have h1 := hb1.size
  have h2 := hb2.size
  have hb : But X wr.heap.size wr w2 := (but_of hb1).trans (hb2.mono h1)
  refine ⟨(hrow.but hS hX hSX hbs hb).alloc hS (by omega) o, ?_, by simp; omega⟩
  refine hx.keep (orNew.own (by omega) (by simp) (fun g hg => Nat.lt_of_lt_of_le (hrow.lt g hg).2 h1)) fun p hp => World.cell?_alloc_lt _ _ _ ?_
  rcases hp with hp | hp
  · have := hS _ hp; omega
  · exact hp.2

theorem row_end_but {X : Nat} {wb wr w1 w2 w4 : World} {S : Nat → Prop} {V : Value} {ts : List T} {o : Obj} (hrow : RowS wr S wb.heap.size V ts) (hb : But X wb.heap.size wb wr) (hb1 : Below wr.heap.size wr w1) (hb2 : But X w1.heap.size w1 w2)
    (hg : (w2.alloc o).grownBy w4 V.ownBlock) : But X wb.heap.size wb w4 := by
  have h1 := (hb.trans ((but_of hb1).mono hb.size)).trans (hb2.mono (by have := hb1.size; have := hb.size; omega))
  exact (h1.alloc h1.size o).grown hg (by have := h1.size; simp; omega) (fun k hk => (hrow.lt k hk).1)

theorem each_end_but {X : Nat} {w wb wr : World} {S : Nat → Prop} {V a b c d : Value} {ts : List T} {k n : Int} (hrow : RowS wr S wb.heap.size V ts) (hS : ∀ b, S b → b < w.heap.size) (hbw : But X w.heap.size w wr) (hsz0 : w.heap.size + 2 ≤ wb.heap.size) (hbz : wb.heap.size ≤ wr.heap.size) :
    argsInS ((((wr.setCell ⟨w.heap.size, 2, none⟩ a).setCell ⟨w.heap.size + 1, 0, none⟩ b).setCell ⟨w.heap.size + 1, 1, none⟩ c).setCell ⟨w.heap.size + 1, 2, none⟩ d)
      (orNew S w ((((wr.setCell ⟨w.heap.size, 2, none⟩ a).setCell ⟨w.heap.size + 1, 0, none⟩ b).setCell ⟨w.heap.size + 1, 1, none⟩ c).setCell ⟨w.heap.size + 1, 2, none⟩ d)) (.mk k n ts) V ∧
    But X w.heap.size w ((((wr.setCell ⟨w.heap.size, 2, none⟩ a).setCell ⟨w.heap.size + 1, 0, none⟩ b).setCell ⟨w.heap.size + 1, 1, none⟩ c).setCell ⟨w.heap.size + 1, 2, none⟩ d) := by
  refine ⟨hrow.term (w := w) (by omega) hS (by simp [World.setCell]) fun p hp => ?_, (((hbw.setCell (Nat.le_refl _) _).setCell (by simp) _).setCell (by simp) _).setCell (by simp) _⟩
  have h1 : p.block ≠ w.heap.size := by omega
  have h2 : p.block ≠ w.heap.size + 1 := by omega
  exact World.cell?_of_block (by rw [Below.heap_setCell _ _ _ _ h2, Below.heap_setCell _ _ _ _ h2, Below.heap_setCell _ _ _ _ h2, Below.heap_setCell _ _ _ _ h1])

end Go.Proofs.YtjboibbgigkhkaaDoor
