/- What lies below stands, but for one block; three cells of a block. -/
import Derived.Test.YtjboibbgigkhkaaGreatDoorYEachL
import Derived.Test.YtjboibbgigkhkaaGreatDoorYSame
import Derived.StillTailTactics
import Derived.Deep.DeepCutAuto
import Derived.Deep.CutBlock
import Derived.Deep.RegionHeld3
import Derived.BigRegion
import Derived.IntWalk
import Derived.Test.YtjboibbgigkhkaaGreatDoorYGA
import Derived.Test.YtjboibbgigkhkaaGreatDoorYLook
import Derived.Test.YtjboibbgigkhkaaGreatDoorYReads
namespace Go.Proofs.YtjboibbgigkhkaaGreatDoor
open Go.RowKit
set_option maxRecDepth 100000

/-- three cells of a block that is known whole, none frozen -/
theorem Blk.tri {w : World} {g : Nat} {t : TypeId} {a b c : Value} (h : Blk w g t #[a, b, c]) :
    (w.cell? ⟨g, 0, none⟩ = some a ∧ w.cell? ⟨g, 1, none⟩ = some b ∧ w.cell? ⟨g, 2, none⟩ = some c) ∧ (w.frozen? ⟨g, 0, none⟩ = false ∧ w.frozen? ⟨g, 1, none⟩ = false ∧ w.frozen? ⟨g, 2, none⟩ = false) :=
  ⟨⟨h.cell 0, h.cell 1, h.cell 2⟩, h.frozen 0, h.frozen 1, h.frozen 2⟩

/-- what lies below n stands, but for one block -/
structure But (X n : Nat) (w w' : World) : Prop where
  os : w'.os = w.os
  tape : w'.tape = w.tape
  output : w'.output = w.output
  size : w.heap.size ≤ w'.heap.size
  block : ∀ k, k < n → k ≠ X → w'.heap[k]? = w.heap[k]?

section
variable {X n : Nat} {w w' w'' : World}
theorem but_of (h : Below n w w') : But X n w w' := ⟨h.os, h.tape, h.output, h.size, fun k hk _ => h.block k hk⟩
theorem But.refl (X n : Nat) (w : World) : But X n w w := ⟨rfl, rfl, rfl, Nat.le_refl _, fun _ _ _ => rfl⟩
theorem But.trans (h : But X n w w') (k : But X n w' w'') : But X n w w'' :=
  ⟨k.os.trans h.os, k.tape.trans h.tape, k.output.trans h.output, Nat.le_trans h.size k.size, fun i hi hx => (k.block i hi hx).trans (h.block i hi hx)⟩
theorem But.mono {n' : Nat} (h : But X n w w') (hn : n' ≤ n) : But X n' w w' := ⟨h.os, h.tape, h.output, h.size, fun k hk hx => h.block k (Nat.lt_of_lt_of_le hk hn) hx⟩
theorem But.below {n' : Nat} (h : But X n w w') (hn : n' ≤ n) (hX : n' ≤ X) : Below n' w w' := ⟨h.os, h.tape, h.output, h.size, fun k hk => h.block k (Nat.lt_of_lt_of_le hk hn) (by omega)⟩
theorem But.drew (h : But X n w w') : But X n w w'.drew := ⟨h.os, h.tape, h.output, h.size, h.block⟩
theorem But.cell (h : But X n w w') {p : Addr} (hp : p.block < n) (hx : p.block ≠ X) : w'.cell? p = w.cell? p := World.cell?_of_block (w := w) (h.block p.block hp hx)
theorem But.alloc (h : But X n w w') (hn : n ≤ w'.heap.size) (o : Obj) : But X n w (w'.alloc o) := h.trans (but_of ((Below.refl n w').alloc hn o))
theorem But.setCell (h : But X n w w') {p : Addr} (hp : n ≤ p.block) (u : Value) : But X n w (w'.setCell p u) := h.trans (but_of ((Below.refl n w').setCell hp u))
theorem But.setX (h : But X n w w') {p : Addr} (hp : p.block = X) (u : Value) : But X n w (w'.setCell p u) :=
  h.trans ⟨rfl, rfl, rfl, by simp [World.setCell], fun k _ hx => Below.heap_setCell _ _ _ _ (by omega)⟩
theorem But.grown {row : Option Nat} (h : But X n w w') (hg : w'.grownBy w'' row) (hn : n ≤ w'.heap.size) (hr : ∀ k, row = some k → n ≤ k) : But X n w w'' :=
  h.trans (but_of ((Below.refl n w').grown hg hn hr))
theorem Blk.but {g : Nat} {t : TypeId} {cs : Array Value} (h : Blk w g t cs) (hb : But X n w w') (hg : g < n) (hx : g ≠ X) : Blk w' g t cs := (hb.block g hg hx).trans h
end

theorem RowS.but {X : Nat} {w w' : World} {S : Nat → Prop} {base : Nat} {V : Value} {ts : List T} (h : RowS w S base V ts) (hS : ∀ b, S b → b < base) (hX : X < base) (hSX : ¬ S X) (hbs : base ≤ w.heap.size) (hb : But X w.heap.size w w') : RowS w' S base V ts := by
  obtain ⟨cs, hown, hts⟩ := h
  refine ⟨cs, hown.kept (row := some X) ⟨hb.os, hb.tape, hb.output, hb.size, fun k hk hx => hb.block k hk (fun e => hx (by rw [e]))⟩ (by
    cases hV : V.ownBlock with
    | none => exact .inl rfl
    | some g => exact .inr (fun e => absurd (hown.lt X (hV.trans e)).1 (by omega))), fun i t hi => ?_⟩
  · obtain ⟨s, a1, a2, a3, a4⟩ := hts i t hi
    refine ⟨s, a1, a2, a3, a4.keep (fun b hb' => hb'.imp id fun h' => ⟨h'.1, Nat.lt_of_lt_of_le h'.2.1 hb.size, h'.2.2⟩) fun p hp => hb.cell ?_ ?_⟩
    · rcases hp with hp | hp
      · have := hS _ hp; omega
      · exact hp.2.1
    · rcases hp with hp | hp
      · intro e; rw [e] at hp; exact hSX hp
      · have := hp.1; omega

theorem row_call_but {X : Nat} {wr w1 w2 : World} {S : Nat → Prop} {base : Nat} {V : Value} {ts : List T} {x : T} {s : Value} (hrow : RowS wr S base V ts) (hS : ∀ b, S b → b < base) (hX : X < base) (hSX : ¬ S X) (hbs : base ≤ wr.heap.size) (hb1 : Below wr.heap.size wr w1)
    (hb2 : But X w1.heap.size w1 w2) (hx : argsInS w2 (orNew S w1 w2) x s) (o : Obj) :
    RowS (w2.alloc o) S base V ts ∧ argsInS (w2.alloc o) (Own S base V (w2.alloc o).heap.size) x s ∧ base ≤ (w2.alloc o).heap.size := by
  have h1 := hb1.size
  have h2 := hb2.size
  have hb : But X wr.heap.size wr w2 := (but_of hb1).trans (hb2.mono h1)
  refine ⟨(hrow.but hS hX hSX hbs hb).alloc hS (by omega) o, ?_, by simp; omega⟩
  refine hx.keep (orNew.own (by omega) (by simp) (fun g hg => Nat.lt_of_lt_of_le (hrow.lt g hg).2 h1)) fun p hp => World.cell?_alloc_lt _ _ _ ?_
  rcases hp with hp | hp
  · have := hS _ hp; omega
  · exact hp.2

theorem row_end_but {X : Nat} {wb wr w1 w2 w4 : World} {S : Nat → Prop} {V : Value} {ts : List T} {o : Obj} (hrow : RowS wr S wb.heap.size V ts) (hb : But X wb.heap.size wb wr) (hb1 : Below wr.heap.size wr w1) (hb2 : But X w1.heap.size w1 w2)
    (hg : (w2.alloc o).grownBy w4 V.ownBlock) : But X wb.heap.size wb w4 := by
  have h1 := (hb.trans ((but_of hb1).mono hb.size)).trans (hb2.mono (by have := hb1.size; have := hb.size; omega))
  exact (h1.alloc h1.size o).grown hg (by have := h1.size; simp; omega) (fun k hk => (hrow.lt k hk).1)

theorem each_end_but {X : Nat} {w wb wr : World} {S : Nat → Prop} {V a b c d : Value} {ts : List T} {k n : Int} (hrow : RowS wr S wb.heap.size V ts) (hS : ∀ b, S b → b < w.heap.size) (hbw : But X w.heap.size w wr) (hsz0 : w.heap.size + 2 ≤ wb.heap.size) (_hbz : wb.heap.size ≤ wr.heap.size) :
    argsInS ((((wr.setCell ⟨w.heap.size, 2, none⟩ a).setCell ⟨w.heap.size + 1, 0, none⟩ b).setCell ⟨w.heap.size + 1, 1, none⟩ c).setCell ⟨w.heap.size + 1, 2, none⟩ d)
      (orNew S w ((((wr.setCell ⟨w.heap.size, 2, none⟩ a).setCell ⟨w.heap.size + 1, 0, none⟩ b).setCell ⟨w.heap.size + 1, 1, none⟩ c).setCell ⟨w.heap.size + 1, 2, none⟩ d)) (.mk k n ts) V ∧
    But X w.heap.size w ((((wr.setCell ⟨w.heap.size, 2, none⟩ a).setCell ⟨w.heap.size + 1, 0, none⟩ b).setCell ⟨w.heap.size + 1, 1, none⟩ c).setCell ⟨w.heap.size + 1, 2, none⟩ d) := by
  refine ⟨hrow.term (w := w) (by omega) hS (by simp [World.setCell]) fun p hp => ?_, (((hbw.setCell (Nat.le_refl _) _).setCell (by simp) _).setCell (by simp) _).setCell (by simp) _⟩
  have h1 : p.block ≠ w.heap.size := by omega
  have h2 : p.block ≠ w.heap.size + 1 := by omega
  exact World.cell?_of_block (by rw [Below.heap_setCell _ _ _ _ h2, Below.heap_setCell _ _ _ _ h2, Below.heap_setCell _ _ _ _ h2, Below.heap_setCell _ _ _ _ h1])

end Go.Proofs.YtjboibbgigkhkaaGreatDoor

/- The reader of the document's answer: its box; what a call on it leaves. -/
namespace Go.Proofs.YtjboibbgigkhkaaGreatDoor
open Go.RowKit
set_option maxRecDepth 100000

def str (s : Str) : Value := .string ⟨s.toArray⟩

/-- the box of a reader: its text has these words; what was wrong first -/
def RBox (w : World) (R : Nat) (D : Value) (p : PS) : Prop := ∃ s : Str, s.length ≤ 1000000000000 ∧ words s = p.l ∧ Blk w R 40 #[.string ⟨s.toArray⟩, D, .int .i64 p.e]

theorem RBox.lt {w : World} {R : Nat} {D : Value} {p : PS} (h : RBox w R D p) : R < w.heap.size := by
  obtain ⟨s, -, -, h⟩ := h
  exact h.lt

/-- behind a call on a reader: what it answers; the reader -/
def ReadPost (v : Value) (p : PS) (R : Nat) (D : Value) (w : World) (e : Ending) (w' : World) : Prop := e = .returned v ∧ RBox w' R D p ∧ But R w.heap.size w w'

theorem rfail_any (w : World) (R : Nat) (D : Value) (p : PS) (c : Int) (hR : RBox w R D p) :
    Calls Tryz.prog 36 #[.pointer (some ⟨R, 0, none⟩), .int .i64 c] w (ReadPost (.tuple #[]) (p.fail c) R D w) := by
  obtain ⟨s, hs, hw, hB⟩ := hR
  have b2 := hB.cell 2
  have f2 := hB.frozen 2
  simp at b2
  by_cases h0 : p.e = 0
  · have hf : p.fail c = ⟨p.l, c⟩ := by unfold PS.fail; rw [if_pos h0]
    rw [hf]
    have hb : (p.e == 0) = true := by simpa using h0
    have HB := Lib.hid (And.intro hB hw)
    clear hB h0 hw
    go_enter Tryz.func36, Tryz.ntmps36
    go_wp2_with fail
    refine bodyPost_ret (v := .tuple #[]) (by simp [results, Tryz.results36, go_sem]) rfl ?_
    exact ⟨rfl, ⟨s, hs, HB.out.2, by have h := HB.out.1.set_ 2 (.int .i64 c); simpa using h⟩, (But.refl R w.heap.size w).setX (p := ⟨R, 2, none⟩) rfl _⟩
  · have hf : p.fail c = p := by unfold PS.fail; rw [if_neg h0]
    rw [hf]
    have hb : (p.e == 0) = false := by simpa using h0
    have HB := Lib.hid (And.intro hB hw)
    clear hB h0 hw
    go_enter Tryz.func36, Tryz.ntmps36
    go_wp2_with fail
    refine bodyPost_ret (v := .tuple #[]) (by simp [results, Tryz.results36, go_sem]) rfl ?_
    exact ⟨rfl, ⟨s, hs, HB.out.2, HB.out.1⟩, But.refl _ _ _⟩
end Go.Proofs.YtjboibbgigkhkaaGreatDoor

/- Word and kindOf of the document's answer: a kind's word; a word's kind. -/
namespace Go.Proofs.YtjboibbgigkhkaaGreatDoor
open Go.RowKit
set_option maxRecDepth 100000

theorem toList_str (l : Str) : (⟨l.toArray⟩ : ByteArray).toList = l := by rw [ByteArray.toList_eq]

def StrPost (v : Value) (w : World) (e : Ending) (w' : World) : Prop := e = .returned v ∧ Below w.heap.size w w'

set_option maxHeartbeats 1600000 in
theorem word_any (k : Nat) (h3 : 3 ≤ k) (h17 : k ≤ 17) (h5 : k ≠ 5) (w : World) :
    Calls Tryz.prog 47 #[.int .i64 k] w (StrPost (.string ⟨(word k).toArray⟩) w) := by
  have hk : k = 3 ∨ k = 4 ∨ k = 6 ∨ k = 7 ∨ k = 8 ∨ k = 9 ∨ k = 10 ∨ k = 11 ∨ k = 12 ∨ k = 13 ∨ k = 14 ∨ k = 15 ∨ k = 16 ∨ k = 17 := by omega
  clear h3 h17 h5
  rcases hk with h | h | h | h | h | h | h | h | h | h | h | h | h | h <;> subst h
  all_goals
    go_enter Tryz.func47, Tryz.ntmps47
    go_wp2
    go_ret
    exact ⟨rfl, (Below.refl _ _).alloc (Nat.le_refl _) _⟩

end Go.Proofs.YtjboibbgigkhkaaGreatDoor

/- kindOf of the document's answer: a word's kind. -/
namespace Go.Proofs.YtjboibbgigkhkaaGreatDoor
open Go.RowKit
set_option maxRecDepth 100000

theorem kindFrom_step {s : Str} {k f : Nat} : kindFrom s k (f + 1) = if k ≠ 5 ∧ word k = s then k else kindFrom s (k + 1) f := rfl

theorem kindof_any (s : Str) (w : World) :
    Calls Tryz.prog 34 #[.string ⟨s.toArray⟩] w (StrPost (.int .i64 (kindOf s)) w) := by
  go_enter Tryz.func34, Tryz.ntmps34
  go_wp2_with fail
  go_loopw [3] (fun i wr => ∃ k : Nat, 3 ≤ k ∧ k ≤ 18 ∧ i = .int .i64 k ∧ kindFrom s k (18 - k) = kindOf s ∧ Below w.heap.size w wr) (fun i _ => 18 - (intOf i).toNat)
  case atStart => exact ⟨3, by omega, by omega, rfl, rfl, Below.refl _ _⟩
  case round =>
    obtain ⟨k, h3, h18, rfl, hk, hb⟩ := hrel
    by_cases hlt : k < 18
    · obtain ⟨f, hf⟩ : ∃ f, 18 - k = f + 1 := ⟨17 - k, by omega⟩
      rw [hf, kindFrom_step] at hk
      by_cases h5 : k = 5
      · subst h5
        rw [if_neg (by simp)] at hk
        go_wp2_with fail
        go_roundw
        case rel => exact ⟨6, by omega, by omega, rfl, by rw [← hk, show 18 - 6 = f by omega], hb⟩
        case measure => simp [intOf]
      · have h5b : ((k : Int) != 5) = true := by simp; omega
        go_wp2_with fail
        refine (word_any k h3 (by omega) h5 _).mono ?_
        rintro e w1 ⟨rfl, hb1⟩
        have hb2 := hb.trans (hb1.mono hb.size)
        clear hb hb1
        by_cases he : word k = s
        · rw [if_pos ⟨h5, he⟩] at hk
          have heb : (word k == s) = true := by simpa using he
          have HK := Lib.hid hk
          clear he hk
          go_wp2_with fail
          go_ret
          exact ⟨by rw [← HK.out]; rfl, hb2⟩
        · rw [if_neg (fun h => he h.2)] at hk
          have heb : (word k == s) = false := by simpa using he
          have HK := Lib.hid hk
          clear he hk
          go_wp2_with fail
          go_roundw
          case rel => exact ⟨k + 1, by omega, by omega, by go_num, by rw [← HK.out, show 18 - (k + 1) = f by omega], hb2⟩
          case measure => simp [intOf]; omega
    · obtain rfl : k = 18 := by omega
      have HK := Lib.hid hk
      clear hk
      go_wp2_with fail
      go_ret
      exact ⟨by rw [← HK.out]; rfl, hb⟩
end Go.Proofs.YtjboibbgigkhkaaGreatDoor

/- Name of the document's answer: what is a name. -/
namespace Go.Proofs.YtjboibbgigkhkaaGreatDoor
open Go.RowKit
set_option maxRecDepth 100000

def low (c : UInt8) : Bool := decide (97 ≤ c ∧ c ≤ 122)

theorem isName_eq (s : Str) : isName s = (!(s == []) && decide (s.length ≤ 8) && !(s == [100, 101, 102]) && kindOf s == 0 && s.all low) := rfl

theorem low_iff (c : UInt8) : low c = true ↔ 97 ≤ (c.toNat : Int) ∧ (c.toNat : Int) ≤ 122 := by
  unfold low
  rw [decide_eq_true_iff, UInt8.le_iff_toNat_le, UInt8.le_iff_toNat_le]
  simp
  omega

theorem all_take_succ {s : Str} {k : Nat} (hk : k < s.length) (h : (s.take k).all low = true) (hc : low s[k] = true) : (s.take (k + 1)).all low = true := by
  rw [List.take_add_one, List.all_append, h, List.getElem?_eq_getElem hk]
  simp [hc]

theorem rname_any (s : Str) (hs : s.length ≤ 1000000000000) (w : World) :
    Calls Tryz.prog 14 #[.string ⟨s.toArray⟩] w (StrPost (.bool (isName s)) w) := by
  by_cases h1 : s = []
  · subst h1
    go_enter Tryz.func14, Tryz.ntmps14
    go_wp2_with fail
    go_ret
    exact ⟨rfl, Below.refl _ _⟩
  · have b1 : (s == []) = false := by simpa using h1
    by_cases h2 : 8 < s.length
    · have hn : isName s = false := by
        rw [isName_eq, decide_eq_false (by omega : ¬ s.length ≤ 8)]
        simp
      have hl : (8 : Int) < (s.length : Int) := by omega
      rw [hn]
      clear hn
      have H1 := Lib.hid h1
      clear h1
      go_enter Tryz.func14, Tryz.ntmps14
      go_wp2_with fail
      go_ret
      exact ⟨rfl, Below.refl _ _⟩
    · have hl : ¬ (8 : Int) < (s.length : Int) := by omega
      by_cases h3 : s = [100, 101, 102]
      · subst h3
        go_enter Tryz.func14, Tryz.ntmps14
        go_wp2_with fail
        go_ret
        exact ⟨rfl, Below.refl _ _⟩
      · have b3 : (s == [100, 101, 102]) = false := by simpa using h3
        have hN : isName s = (kindOf s == 0 && s.all low) := by
          rw [isName_eq, b1, b3, decide_eq_true (by omega : s.length ≤ 8)]
          simp
        rw [hN]
        clear hN
        have H13 := Lib.hid (And.intro h1 h3)
        clear h1 h3
        go_enter Tryz.func14, Tryz.ntmps14
        go_wp2_with fail
        refine (kindof_any s w).mono ?_
        rintro e w1 ⟨rfl, hb1⟩
        generalize kindOf s = q at *
        by_cases h4 : 0 < q
        · have hq : (q == 0) = false := by simp; omega
          have hq2 : (0 : Int) < (q : Int) := by omega
          go_wp2_with fail
          go_ret
          exact ⟨by rw [hq]; rfl, hb1⟩
        · have hq2 : ¬ (0 : Int) < (q : Int) := by omega
          obtain rfl : q = 0 := by omega
          rw [show ((0 : Nat) == 0) = true from rfl, Bool.true_and]
          have HG := Lib.hid (rfl : s.all low = s.all low)
          generalize hg : s.all low = g at *
          have HS := Lib.hid hg
          clear hg HG
          go_wp2_with fail
          go_loopw [22] (fun i wr => ∃ k : Nat, k ≤ s.length ∧ i = .int .i64 k ∧ (s.take k).all low = true ∧ Below w.heap.size w wr) (fun i _ => s.length - (intOf i).toNat)
          case atStart => exact ⟨0, by omega, rfl, rfl, hb1⟩
          case round =>
            obtain ⟨k, hk, rfl, hall, hb⟩ := hrel
            by_cases hlt : k < s.length
            · have HA := Lib.hid hall
              clear hall
              have hkb : k < (⟨s.toArray⟩ : ByteArray).size := hlt
              by_cases hc : low s[k] = true
              · obtain ⟨c1, c2⟩ : 97 ≤ ((((⟨s.toArray⟩ : ByteArray)[k]'hkb).toNat : Nat) : Int) ∧ ((((⟨s.toArray⟩ : ByteArray)[k]'hkb).toNat : Nat) : Int) ≤ 122 := (low_iff _).1 hc
                have HC := Lib.hid hc
                clear hc
                go_wp2_with fail
                go_roundw
                case rel => exact ⟨k + 1, by omega, by go_num, all_take_succ hlt HA.out HC.out, hb⟩
                case measure => simp [intOf]; omega
              · have hg : g = false := by
                  rw [← HS.out, List.all_eq_false]
                  exact ⟨s[k], List.getElem_mem _, hc⟩
                subst hg
                have hc3 : ((s[k].toNat : Nat) : Int) < 97 ∨ (97 ≤ ((s[k].toNat : Nat) : Int) ∧ (122 : Int) < ((s[k].toNat : Nat) : Int)) := by
                  rw [low_iff] at hc
                  omega
                have hc2 : ((((⟨s.toArray⟩ : ByteArray)[k]'hkb).toNat : Nat) : Int) < 97 ∨ (97 ≤ ((((⟨s.toArray⟩ : ByteArray)[k]'hkb).toNat : Nat) : Int) ∧ (122 : Int) < ((((⟨s.toArray⟩ : ByteArray)[k]'hkb).toNat : Nat) : Int)) := hc3
                clear hc3
                clear hc
                rcases hc2 with c1 | ⟨c1, c2⟩
                · go_wp2_with fail
                  go_ret
                  exact ⟨rfl, hb⟩
                · go_wp2_with fail
                  go_ret
                  exact ⟨rfl, hb⟩
            · obtain rfl : k = s.length := by omega
              rw [List.take_length, HS.out] at hall
              subst hall
              go_wp2_with fail
              go_ret
              exact ⟨rfl, hb⟩
end Go.Proofs.YtjboibbgigkhkaaGreatDoor

/- Peek of the document's answer: the next word. -/
namespace Go.Proofs.YtjboibbgigkhkaaGreatDoor
open Go.RowKit
set_option maxRecDepth 100000

/-- the word at the head of a text that begins with no blank -/
def hd (s : Str) : Str := match s with
  | [] => []
  | c :: r => if isBr c then [c] else (c :: r).takeWhile notStop

def strLen (w : World) (R : Nat) : Nat := match w.cell? ⟨R, 0, none⟩ with
  | some (.string b) => b.size
  | _ => 0

theorem strLen_of {w : World} {R : Nat} {t : TypeId} {s : Str} {D E : Value} (h : Blk w R t #[.string ⟨s.toArray⟩, D, E]) : strLen w R = s.length := by
  unfold strLen
  rw [h.cell 0]
  rfl

theorem bext (s : Str) (a b : Nat) : (⟨s.toArray⟩ : ByteArray).extract a b = ⟨((s.take b).drop a).toArray⟩ := by
  apply ByteArray.ext
  rw [ByteArray.data_extract]
  simp [List.extract_eq_take_drop, List.drop_take]

theorem takeWhile_take {α : Type} {p : α → Bool} : ∀ {s : List α} {k : Nat}, (s.take k).all p = true → (s.length ≤ k ∨ ∃ h : k < s.length, p s[k] = false) → s.takeWhile p = s.take k := by
  intro s
  induction s with
  | nil => intro k _ _; simp
  | cons c r ih =>
    intro k h1 h2
    cases k with
    | zero =>
      rcases h2 with h2 | ⟨_, h2⟩
      · simp at h2
      · simp only [List.getElem_cons_zero] at h2
        simp [h2]
    | succ k =>
      simp only [List.take_succ_cons, List.all_cons, Bool.and_eq_true] at h1
      rw [List.takeWhile_cons, h1.1, List.take_succ_cons]
      simp only [if_true]
      rw [ih h1.2]
      rcases h2 with h2 | ⟨h3, h2⟩
      · exact .inl (by simpa using h2)
      · exact .inr ⟨by simpa using h3, by simpa using h2⟩

theorem stop_iff (c : UInt8) : notStop c = true ↔ ((c.toNat : Nat) : Int) ≠ 32 ∧ ((c.toNat : Nat) : Int) ≠ 10 ∧ ((c.toNat : Nat) : Int) ≠ 40 ∧ ((c.toNat : Nat) : Int) ≠ 41 := by
  have key : ∀ n : UInt8, (c == n) = decide (((c.toNat : Nat) : Int) = ((n.toNat : Nat) : Int)) := by
    intro n
    by_cases h : c = n
    · subst h; simp
    · have : ¬ ((c.toNat : Nat) : Int) = ((n.toNat : Nat) : Int) := fun e => h (UInt8.toNat_inj.1 (by omega))
      rw [decide_eq_false this]; simpa using h
  unfold notStop isStop isBlank isBr
  rw [key 32, key 10, key 40, key 41]
  simp
  omega

theorem blank_iff (c : UInt8) : isBlank c = true ↔ ((c.toNat : Nat) : Int) = 32 ∨ ((c.toNat : Nat) : Int) = 10 := by
  have key : ∀ n : UInt8, (c == n) = decide (((c.toNat : Nat) : Int) = ((n.toNat : Nat) : Int)) := by
    intro n
    by_cases h : c = n
    · subst h; simp
    · have : ¬ ((c.toNat : Nat) : Int) = ((n.toNat : Nat) : Int) := fun e => h (UInt8.toNat_inj.1 (by omega))
      rw [decide_eq_false this]; simpa using h
  unfold isBlank
  rw [key 32, key 10]
  simp

theorem drop_blank {s : Str} (h0 : 0 < s.length) (h : isBlank s[0] = true) : (s.drop 1).dropWhile isBlank = s.dropWhile isBlank := by
  cases s with
  | nil => simp at h0
  | cons c r =>
    simp only [List.getElem_cons_zero] at h
    rw [List.dropWhile_cons, h]
    simp

theorem keep_head {s : Str} (h0 : 0 < s.length) (h : isBlank s[0] = false) : s.dropWhile isBlank = s := by
  cases s with
  | nil => simp at h0
  | cons c r =>
    simp only [List.getElem_cons_zero] at h
    rw [List.dropWhile_cons, h]
    simp

/-- the head's word, where k letters are no stop and the next one is -/
theorem hd_of {s : Str} {k : Nat} (hb : ∀ h : 0 < s.length, isBlank s[0] = false) (h : s.takeWhile notStop = s.take k) (hk : k ≤ s.length) : hd s = s.take (if k = 0 ∧ 0 < s.length then 1 else k) := by
  cases s with
  | nil => simp [hd]
  | cons c r =>
    have hc := hb (by simp)
    simp only [List.getElem_cons_zero] at hc
    unfold hd
    by_cases hbr : isBr c = true
    · have hn : notStop c = false := by simp [notStop, isStop, hbr]
      rw [List.takeWhile_cons, hn] at h
      have h0 : k = 0 := by
        cases k with
        | zero => rfl
        | succ k => simp at h
      simp [hbr, h0]
    · have hbr : isBr c = false := by simpa using hbr
      have hn : notStop c = true := by simp [notStop, isStop, hc, hbr]
      have h0 : k ≠ 0 := by
        intro e
        subst e
        rw [List.takeWhile_cons, hn] at h
        simp at h
      rw [if_neg (fun h => h0 h.1), ← h]
      simp [hbr]

theorem trim_ex (s : Str) : ∃ t, s.dropWhile isBlank = t ∧ (∀ h : 0 < t.length, isBlank (t[0]) = false) ∧ t.length ≤ s.length := by
  refine ⟨_, rfl, fun h => ?_, (List.dropWhile_sublist _).length_le⟩
  have := List.head_dropWhile_not (p := isBlank) (l := s) (by intro e; rw [e] at h; simp at h)
  rw [List.head_eq_getElem] at this
  simpa using this

theorem peek_any (w : World) (R : Nat) (s : Str) (D E : Value) (hs : s.length ≤ 1000000000000) (hR : Blk w R 40 #[.string ⟨s.toArray⟩, D, E]) :
    Calls Tryz.prog 16 #[.pointer (some ⟨R, 0, none⟩)] w
      (fun e w' => e = .returned (.string ⟨(hd (s.dropWhile isBlank)).toArray⟩) ∧ Blk w' R 40 #[.string ⟨(s.dropWhile isBlank).toArray⟩, D, E] ∧ But R w.heap.size w w') := by
  have HR := Lib.hid hR
  clear hR
  go_enter Tryz.func16, Tryz.ntmps16
  go_upto_block 0 with fail
  go_cut [] from 4 to 33 (fun wc => Blk wc R 40 #[.string ⟨(s.dropWhile isBlank).toArray⟩, D, E] ∧ But R w.heap.size w wc)
  case first =>
    go_wp2_with fail
    go_loopw [] (fun wr => ∃ s' : Str, s'.length ≤ s.length ∧ s'.dropWhile isBlank = s.dropWhile isBlank ∧ Blk wr R 40 #[.string ⟨s'.toArray⟩, D, E] ∧ But R w.heap.size w wr) (fun wr => strLen wr R)
    case atStart => exact ⟨s, Nat.le_refl _, rfl, HR.out, But.refl _ _ _⟩
    case round =>
      obtain ⟨s', hl, hd', hB, hb⟩ := hrel
      have HD := Lib.hid hd'
      have HB := Lib.hid hB
      have q0 : wr.cell? ⟨R, 0, none⟩ = some (.string ⟨s'.toArray⟩) := hB.cell 0
      have f0 := hB.frozen 0
      clear hd' hB
      by_cases h0 : 0 < s'.length
      · have hkb : 0 < (⟨s'.toArray⟩ : ByteArray).size := h0
        by_cases h1 : isBlank s'[0] = true
        · have HH := Lib.hid h1
          have hc : ((((⟨s'.toArray⟩ : ByteArray)[0]'hkb).toNat : Nat) : Int) = 32 ∨ (((((⟨s'.toArray⟩ : ByteArray)[0]'hkb).toNat : Nat) : Int) == 32) = false ∧ ¬ ((((⟨s'.toArray⟩ : ByteArray)[0]'hkb).toNat : Nat) : Int) = 32 ∧ ((((⟨s'.toArray⟩ : ByteArray)[0]'hkb).toNat : Nat) : Int) = 10 := by
            have hh := (blank_iff _).1 h1
            rcases hh with hh | hh
            · exact .inl hh
            · exact .inr ⟨by rw [beq_eq_false_iff_ne]; intro e; exact absurd (hh.symm.trans e) (by decide), by intro e; exact absurd (hh.symm.trans e) (by decide), hh⟩
          clear h1
          have hE := bext s' 1 s'.length
          have hlen : ((s'.take s'.length).drop 1).length + 1 = s'.length := by simp; omega
          have hR2 : ((s'.take s'.length).drop 1).dropWhile isBlank = s.dropWhile isBlank := by rw [List.take_length, drop_blank h0 HH.out]; exact HD.out
          have HR2 := Lib.hid hR2
          clear hR2
          rcases hc with hc | ⟨hc1, hc2, hc⟩
          · go_wp2_with fail
            go_roundw
            case rel => exact ⟨(s'.take s'.length).drop 1, by omega, HR2.out, by have h := HB.out.set_ 0 (.string ⟨((s'.take s'.length).drop 1).toArray⟩); simpa [bext] using h, hb.setX (p := ⟨R, 0, none⟩) rfl _⟩
            case measure =>
              have h := HB.out.set_ 0 (.string ⟨((s'.take s'.length).drop 1).toArray⟩)
              have h' : Blk (wr.setCell ⟨R, 0, none⟩ (.string ⟨((s'.take s'.length).drop 1).toArray⟩)) R 40 #[.string ⟨((s'.take s'.length).drop 1).toArray⟩, D, E] := by simpa using h
              have e1 := strLen_of h'
              have e2 := strLen_of HB.out
              simp at e1 e2 ⊢
              omega
          · go_wp2_with fail
            go_roundw
            case rel => exact ⟨(s'.take s'.length).drop 1, by omega, HR2.out, by have h := HB.out.set_ 0 (.string ⟨((s'.take s'.length).drop 1).toArray⟩); simpa [bext] using h, hb.setX (p := ⟨R, 0, none⟩) rfl _⟩
            case measure =>
              have h := HB.out.set_ 0 (.string ⟨((s'.take s'.length).drop 1).toArray⟩)
              have h' : Blk (wr.setCell ⟨R, 0, none⟩ (.string ⟨((s'.take s'.length).drop 1).toArray⟩)) R 40 #[.string ⟨((s'.take s'.length).drop 1).toArray⟩, D, E] := by simpa using h
              have e1 := strLen_of h'
              have e2 := strLen_of HB.out
              simp at e1 e2 ⊢
              omega
        · have hh : ¬ (((s'[0].toNat : Nat) : Int) = 32 ∨ ((s'[0].toNat : Nat) : Int) = 10) := fun h => h1 ((blank_iff _).2 h)
          have hc1 : (((((⟨s'.toArray⟩ : ByteArray)[0]'hkb).toNat : Nat) : Int) == 32) = false := by rw [beq_eq_false_iff_ne]; exact fun e => hh (.inl e)
          have hc2 : (((((⟨s'.toArray⟩ : ByteArray)[0]'hkb).toNat : Nat) : Int) == 10) = false := by rw [beq_eq_false_iff_ne]; exact fun e => hh (.inr e)
          have hc3 : ¬ ((((⟨s'.toArray⟩ : ByteArray)[0]'hkb).toNat : Nat) : Int) = 32 := fun e => hh (.inl e)
          have HH := Lib.hid (show s'.dropWhile isBlank = s' from keep_head h0 (by simpa using h1))
          clear h1 hh
          go_wp2_with fail
          go_meet
          exact ⟨by rw [← HD.out, HH.out]; exact HB.out, hb⟩
      · have hn : s' = [] := List.eq_nil_of_length_eq_zero (by omega)
        have HN := Lib.hid hn
        clear hn
        go_wp2_with fail
        go_meet
        exact ⟨by rw [← HD.out]; have h := HB.out; rw [HN.out] at h ⊢; exact h, hb⟩
  case rest =>
    obtain ⟨hB, hb⟩ := hcut
    obtain ⟨t, ht, hbl, hle⟩ := trim_ex s
    simp only [ht] at hB
    have HT := Lib.hid ht
    clear ht
    have HB := Lib.hid hB
    have HBL := Lib.hid hbl
    have q0 : wc.cell? ⟨R, 0, none⟩ = some (.string ⟨t.toArray⟩) := hB.cell 0
    have HE := Lib.hid (show ∀ k, k ≤ t.length → (⟨t.toArray⟩ : ByteArray).extract 0 k = ⟨(t.take k).toArray⟩ from fun k hk => by rw [bext]; simp)
    clear hB hbl HR
    go_upto_block 2 with fail
    go_cut [3] from 34 to 78 (fun v wd => ∃ k : Nat, k ≤ t.length ∧ v = .int .i64 k ∧ t.takeWhile notStop = t.take k ∧ wd = wc)
    case first =>
      go_wp2_with fail
      go_loopw [3] (fun i wr => ∃ k : Nat, k ≤ t.length ∧ i = .int .i64 k ∧ (t.take k).all notStop = true ∧ wr = wc) (fun i _ => t.length - (intOf i).toNat)
      case atStart => exact ⟨0, by omega, rfl, rfl, rfl⟩
      case round =>
        obtain ⟨k, hk, rfl, hall, rfl⟩ := hrel
        have HA := Lib.hid hall
        clear hall
        by_cases hlt : k < t.length
        · have hkb : k < (⟨t.toArray⟩ : ByteArray).size := hlt
          by_cases hn : notStop t[k] = true
          · have HN := Lib.hid hn
            obtain ⟨a1, a2, a3, a4⟩ := (stop_iff _).1 hn
            have c1 : (((((⟨t.toArray⟩ : ByteArray)[k]'hkb).toNat : Nat) : Int) != 32) = true := by rw [bne_iff_ne]; exact a1
            have c2 : (((((⟨t.toArray⟩ : ByteArray)[k]'hkb).toNat : Nat) : Int) != 10) = true := by rw [bne_iff_ne]; exact a2
            have c3 : (((((⟨t.toArray⟩ : ByteArray)[k]'hkb).toNat : Nat) : Int) != 40) = true := by rw [bne_iff_ne]; exact a3
            have c4 : (((((⟨t.toArray⟩ : ByteArray)[k]'hkb).toNat : Nat) : Int) != 41) = true := by rw [bne_iff_ne]; exact a4
            clear hn a1 a2 a3 a4
            go_wp2_with fail
            go_roundw
            case rel => exact ⟨k + 1, by omega, by go_num, by rw [List.take_add_one, List.all_append, HA.out, List.getElem?_eq_getElem hlt]; simp [HN.out], by first | rfl | trivial⟩
            case measure => simp [intOf]; omega
          · have HN := Lib.hid (show t.takeWhile notStop = t.take k from takeWhile_take HA.out (.inr ⟨hlt, by simpa using hn⟩))
            have hq : ((t[k].toNat : Nat) : Int) = 32 ∨ ((t[k].toNat : Nat) : Int) = 10 ∨ ((t[k].toNat : Nat) : Int) = 40 ∨ ((t[k].toNat : Nat) : Int) = 41 := by
              rw [stop_iff] at hn
              omega
            have hq2 : ((((⟨t.toArray⟩ : ByteArray)[k]'hkb).toNat : Nat) : Int) = 32 ∨ ((((⟨t.toArray⟩ : ByteArray)[k]'hkb).toNat : Nat) : Int) = 10 ∨ ((((⟨t.toArray⟩ : ByteArray)[k]'hkb).toNat : Nat) : Int) = 40 ∨ ((((⟨t.toArray⟩ : ByteArray)[k]'hkb).toNat : Nat) : Int) = 41 := hq
            clear hn hq
            rcases hq2 with c1 | c1 | c1 | c1
            all_goals
              go_wp2_with fail
              go_meet
              exact ⟨k, by omega, rfl, HN.out, rfl⟩
        · obtain rfl : k = t.length := by omega
          have HN := Lib.hid (show t.takeWhile notStop = t.take t.length from takeWhile_take HA.out (.inl (Nat.le_refl _)))
          go_wp2_with fail
          go_meet
          exact ⟨t.length, by omega, rfl, HN.out, rfl⟩
    case rest =>
      obtain ⟨k, hk, rfl, hT, rfl⟩ := hcut
      have HH := Lib.hid (hd_of HBL.out hT hk)
      clear hT
      by_cases h0 : k = 0
      · subst h0
        by_cases h1 : 0 < t.length
        · have h1' : 1 ≤ t.length := h1
          go_wp2_with fail
          go_ret
          refine ⟨?_, by rw [HT.out]; exact HB.out, hb⟩
          rw [HT.out, HH.out, if_pos (by simpa using h1), ← HE.out 1 h1']
          rfl
        · go_wp2_with fail
          go_ret
          refine ⟨?_, by rw [HT.out]; exact HB.out, hb⟩
          rw [HT.out, HH.out, if_neg (fun h => h1 h.2), ← HE.out 0 (by omega)]
          simp
      · have hkb : ((k : Int) == 0) = false := by simpa using h0
        go_wp2_with fail
        go_ret
        refine ⟨?_, by rw [HT.out]; exact HB.out, hb⟩
        rw [HT.out, HH.out, if_neg (fun h => h0 h.1), ← HE.out k hk]
        rfl
end Go.Proofs.YtjboibbgigkhkaaGreatDoor

/- Peek and W of the document's answer, by words. -/
namespace Go.Proofs.YtjboibbgigkhkaaGreatDoor
open Go.RowKit
set_option maxRecDepth 100000

theorem words_trim : ∀ s : Str, words (s.dropWhile isBlank) = words s := by
  intro s
  induction s with
  | nil => rfl
  | cons c r ih =>
    rw [List.dropWhile_cons]
    by_cases h : isBlank c = true
    · rw [if_pos h, ih, words_blank h]
    · rw [if_neg h]

theorem hd_words {t : Str} (hb : ∀ h : 0 < t.length, isBlank (t[0]) = false) : hd t = (words t).headD [] ∧ words (t.drop (hd t).length) = (words t).tail := by
  cases t with
  | nil => exact ⟨rfl, rfl⟩
  | cons c r =>
    have hc := hb (by simp)
    simp only [List.getElem_cons_zero] at hc
    by_cases hbr : isBr c = true
    · have hh : hd (c :: r) = [c] := by simp [hd, hbr]
      rw [hh, words_br hbr]
      exact ⟨rfl, rfl⟩
    · have hbr : isBr c = false := by simpa using hbr
      have hh : hd (c :: r) = (c :: r).takeWhile notStop := by simp [hd, hbr]
      have hs : isStop c = false := by simp [isStop, hc, hbr]
      rw [words_word hs, hh]
      refine ⟨rfl, ?_⟩
      have e : (c :: r).drop ((c :: r).takeWhile notStop).length = (c :: r).dropWhile notStop := by
        have h := List.takeWhile_append_dropWhile (p := notStop) (l := c :: r)
        calc (c :: r).drop ((c :: r).takeWhile notStop).length
            = ((c :: r).takeWhile notStop ++ (c :: r).dropWhile notStop).drop ((c :: r).takeWhile notStop).length := by rw [h]
          _ = (c :: r).dropWhile notStop := by rw [List.drop_left]
      rw [e]
      rfl

theorem hd_le (t : Str) : (hd t).length ≤ t.length := by
  cases t with
  | nil => simp [hd]
  | cons c r =>
    show (if isBr c then [c] else (c :: r).takeWhile notStop).length ≤ _
    split
    · simp
    · exact (List.takeWhile_sublist _).length_le

theorem take_of_words (p : PS) : p.take.1 = p.l.headD [] ∧ p.take.2 = (if p.l.headD [] = [] ∧ p.l = [] then p.fail 8 else ⟨p.l.tail, p.e⟩) := by
  obtain ⟨l, e⟩ := p
  cases l with
  | nil => exact ⟨rfl, rfl⟩
  | cons a r => exact ⟨rfl, by simp [PS.take]⟩

theorem rpeek_any (w : World) (R : Nat) (D : Value) (p : PS) (hR : RBox w R D p) :
    Calls Tryz.prog 16 #[.pointer (some ⟨R, 0, none⟩)] w (ReadPost (.string ⟨(p.l.headD []).toArray⟩) p R D w) := by
  obtain ⟨s, hs, hw, hB⟩ := hR
  refine (peek_any w R s D _ hs hB).mono ?_
  rintro e w' ⟨rfl, h1, h2⟩
  obtain ⟨t, ht, hbl, hle⟩ := trim_ex s
  rw [ht] at h1 ⊢
  have hwt : words t = p.l := by rw [← ht, words_trim, hw]
  exact ⟨by rw [(hd_words hbl).1, hwt], ⟨t, by omega, hwt, h1⟩, h2⟩

theorem rw_any (w : World) (R : Nat) (D : Value) (p : PS) (hR : RBox w R D p) :
    Calls Tryz.prog 17 #[.pointer (some ⟨R, 0, none⟩)] w (ReadPost (.string ⟨p.take.1.toArray⟩) p.take.2 R D w) := by
  obtain ⟨s, hs, hw, hB⟩ := hR
  obtain ⟨t, ht, hbl, hle⟩ := trim_ex s
  have hwt : words t = p.l := by rw [← ht, words_trim, hw]
  have hp := peek_any w R s D (.int .i64 p.e) hs hB
  rw [ht] at hp
  have HP := Lib.hid hp
  have HWT := Lib.hid hwt
  obtain ⟨hh1, hh2⟩ := hd_words hbl
  rw [hwt] at hh1 hh2
  have hlt := hd_le t
  obtain ⟨pl, pe⟩ := p
  dsimp only at hh1 hh2 hwt
  clear hB hp hbl hw HWT
  cases pl with
  | nil =>
    have h0 : hd t = [] := hh1
    have HTK := Lib.hid (show PS.take ⟨[], pe⟩ = ([], PS.fail 8 ⟨[], pe⟩) from rfl)
    rw [HTK.out]
    rw [h0] at HP
    have HWT := Lib.hid hwt
    clear hwt hh1 hh2 h0 hlt HTK
    go_enter Tryz.func17, Tryz.ntmps17
    go_wp2_with fail
    refine HP.out.mono ?_
    rintro e w1 ⟨rfl, hB1, hb1⟩
    have HB1 := Lib.hid (show RBox w1 R D ⟨[], pe⟩ from ⟨t, by omega, HWT.out, hB1⟩)
    clear hB1
    go_wp2_with fail
    refine (rfail_any w1 R D ⟨[], pe⟩ 8 HB1.out).mono ?_
    rintro e w2 ⟨rfl, ⟨s2, hs2, hw2, hB2⟩, hb2⟩
    have q0 : w2.cell? ⟨R, 0, none⟩ = some (.string ⟨s2.toArray⟩) := hB2.cell 0
    have f0 := hB2.frozen 0
    have HB2 := Lib.hid (And.intro hw2 hB2)
    have HS := Lib.hid hb1.size
    clear hw2 hB2
    go_wp2_with fail
    go_ret
    refine ⟨rfl, ⟨s2, hs2, HB2.out.1, ?_⟩, (hb1.trans (hb2.mono HS.out)).setX (p := ⟨R, 0, none⟩) rfl _⟩
    have h := HB2.out.2.set_ 0 (.string ⟨s2.toArray⟩)
    simpa [bext] using h
  | cons a r =>
    have ha : a ≠ [] := words_ne t a (by rw [hwt]; exact List.mem_cons_self ..)
    have h0 : hd t = a := hh1
    have HTK := Lib.hid (show PS.take ⟨a :: r, pe⟩ = (a, ⟨r, pe⟩) from rfl)
    rw [HTK.out]
    rw [h0] at HP hh2 hlt
    have hne : (a == []) = false := by simpa using ha
    have HR := Lib.hid hh2
    have HE := Lib.hid (bext t a.length t.length)
    clear hwt hh1 hh2 h0 HTK ha
    go_enter Tryz.func17, Tryz.ntmps17
    go_wp2_with fail
    refine HP.out.mono ?_
    rintro e w1 ⟨rfl, hB1, hb1⟩
    have q0 : w1.cell? ⟨R, 0, none⟩ = some (.string ⟨t.toArray⟩) := hB1.cell 0
    have f0 := hB1.frozen 0
    have HB1 := Lib.hid hB1
    clear hB1
    go_wp2_with fail
    go_ret
    refine ⟨rfl, ⟨t.drop a.length, by simp; omega, HR.out, ?_⟩, hb1.setX (p := ⟨R, 0, none⟩) rfl _⟩
    have h := HB1.out.set_ 0 (.string ⟨(t.drop a.length).toArray⟩)
    rw [HE.out, List.take_length]
    simpa using h
end Go.Proofs.YtjboibbgigkhkaaGreatDoor

/- Atom of the document's answer: the term of a word. -/
namespace Go.Proofs.YtjboibbgigkhkaaGreatDoor
open Go.RowKit
set_option maxRecDepth 100000

/-- a slice of texts, apart from the reader's box -/
def Strs (w : World) (R : Nat) (l : List Str) (v : Value) : Prop := ∃ A cap, v = .slice A l.length cap ∧ l.length ≤ cap ∧ cap ≤ maxLen ∧
  (l ≠ [] → ∃ b off, A = some ⟨b, off, none⟩ ∧ b < w.heap.size ∧ b ≠ R ∧ ∀ j s, l[j]? = some s → w.cell? ⟨b, off + j, none⟩ = some (.string ⟨s.toArray⟩))

theorem Strs.but {w w' : World} {R : Nat} {l : List Str} {v : Value} (h : Strs w R l v) (hb : But R w.heap.size w w') : Strs w' R l v := by
  obtain ⟨A, cap, h1, h2, h3, h4⟩ := h
  refine ⟨A, cap, h1, h2, h3, fun hne => ?_⟩
  obtain ⟨b, off, e, hlt, hR, hc⟩ := h4 hne
  exact ⟨b, off, e, Nat.lt_of_lt_of_le hlt hb.size, hR, fun j s hj => (hb.cell (p := ⟨b, _, none⟩) hlt hR).trans (hc j s hj)⟩

theorem RBox.below {w w' : World} {R : Nat} {D : Value} {p : PS} (h : RBox w R D p) (hb : Below w.heap.size w w') : RBox w' R D p := by
  have hl := h.lt
  obtain ⟨s, h1, h2, h3⟩ := h
  exact ⟨s, h1, h2, h3.below hb hl⟩

theorem fromEnd_some {l : List Str} {w : Str} {i : Nat} (hi : i < l.length) (hw : l[i] = w) (hn : ∀ j, i < j → ∀ h : j < l.length, l[j] ≠ w) : fromEnd l w = some (l.length - 1 - i) := by
  unfold fromEnd
  rw [List.findIdx?_eq_some_iff_getElem]
  refine ⟨by simp; omega, ?_, ?_⟩
  · rw [List.getElem_reverse]
    have : l.length - 1 - (l.length - 1 - i) = i := by omega
    simp [this, hw]
  · intro j hj
    rw [List.getElem_reverse]
    simp only [Bool.not_eq_true, beq_eq_false_iff_ne]
    exact hn _ (by omega) (by omega)

theorem fromEnd_none {l : List Str} {w : Str} (hn : ∀ j, ∀ h : j < l.length, l[j] ≠ w) : fromEnd l w = none := by
  unfold fromEnd
  rw [List.findIdx?_eq_none_iff]
  intro x hx
  rw [List.mem_reverse] at hx
  obtain ⟨j, hj, rfl⟩ := List.getElem_of_mem hx
  simpa using hn j hj

/-- a word that begins with U is a type of types, or wrong: what is asked of Atom there -/
def AtomU (cn : Str → Option Int) : Prop := ∀ (w : World) (R : Nat) (D bv : Value) (p : PS) (x : Str) (decls bound : List Str), x.length ≤ 1000000000000 → RBox w R D p → x.head? = some 85 →
  Calls Tryz.prog 74 #[.pointer (some ⟨R, 0, none⟩), .string ⟨x.toArray⟩, bv] w (ReadPost (.agg #[.int .i64 (atom cn decls x bound p).1.k, .int .i64 (atom cn decls x bound p).1.n, .slice none 0 0]) (atom cn decls x bound p).2 R D w)

theorem kindOf_le (s : Str) : kindOf s ≤ 17 := by
  have key : ∀ f k, k + f ≤ 18 → kindFrom s k f ≤ 17 := by
    intro f
    induction f with
    | zero => intro k _; simp [kindFrom]
    | succ f ih =>
      intro k hk
      rw [kindFrom_step]
      split
      · omega
      · exact ih _ (by omega)
  exact key 15 3 (by omega)

theorem shape_some {k : Nat} (h0 : 0 < k) (h : k ≤ 18) : ∃ l, shape k = some l := by
  have : k = 1 ∨ k = 2 ∨ k = 3 ∨ k = 4 ∨ k = 5 ∨ k = 6 ∨ k = 7 ∨ k = 8 ∨ k = 9 ∨ k = 10 ∨ k = 11 ∨ k = 12 ∨ k = 13 ∨ k = 14 ∨ k = 15 ∨ k = 16 ∨ k = 17 ∨ k = 18 := by omega
  rcases this with h | h | h | h | h | h | h | h | h | h | h | h | h | h | h | h | h | h <;> subst h <;> exact ⟨_, rfl⟩

theorem RBox.far {w : World} {R : Nat} {D : Value} {p : PS} (h : RBox w R D p) {a : Addr} (ha : R ≠ a.block) (u : Value) : RBox (w.setCell a u) R D p := by
  obtain ⟨s, h1, h2, h3⟩ := h
  exact ⟨s, h1, h2, h3.far ha u⟩

/-- the answer's box is filled -/
theorem atom_end {w w3 : World} {R : Nat} {D a b c : Value} {p : PS} (hR : RBox w3 R D p) (hb : But R w.heap.size w w3) (hRw : R < w.heap.size) :
    RBox (((w3.setCell ⟨w.heap.size, 0, none⟩ a).setCell ⟨w.heap.size, 1, none⟩ b).setCell ⟨w.heap.size, 2, none⟩ c) R D p ∧
    But R w.heap.size w (((w3.setCell ⟨w.heap.size, 0, none⟩ a).setCell ⟨w.heap.size, 1, none⟩ b).setCell ⟨w.heap.size, 2, none⟩ c) := by
  have hne : R ≠ w.heap.size := by omega
  exact ⟨((hR.far (a := ⟨w.heap.size, 0, none⟩) hne a).far (a := ⟨w.heap.size, 1, none⟩) hne b).far (a := ⟨w.heap.size, 2, none⟩) hne c, ((hb.setCell (Nat.le_refl _) _).setCell (Nat.le_refl _) _).setCell (Nat.le_refl _) _⟩

theorem shapeBytes_some {k : Int} {l : List Nat} (h : shape k = some l) : (shapeBytes k = [] ↔ l = []) := by
  unfold shapeBytes
  rw [h]
  simp

theorem atom_other (cn : Str → Option Int) (w : World) (R : Nat) (D bv : Value) (p : PS) (x : Str) (decls bound : List Str) (hx : x.length ≤ 1000000000000) (hR : RBox w R D p) (hU : x.head? ≠ some 85)
    (hD : Strs w R decls D) (hb : Strs w R bound bv) (hdl : decls.length ≤ 1000000000000) (hbl : bound.length ≤ 1000000000000) :
    Calls Tryz.prog 74 #[.pointer (some ⟨R, 0, none⟩), .string ⟨x.toArray⟩, bv] w (ReadPost (.agg #[.int .i64 (atom cn decls x bound p).1.k, .int .i64 (atom cn decls x bound p).1.n, .slice none 0 0]) (atom cn decls x bound p).2 R D w) := by
  have hat : atom cn decls x bound p = if 0 < kindOf x then (if shape (kindOf x) = some [] then (.mk (kindOf x) 0 [], p) else (T0, p.fail 2))
    else if isName x = false then (T0, p.fail 7)
    else match fromEnd bound x with
      | some i => (.mk 1 i [], p)
      | none => match fromEnd decls x with
        | some i => (.mk 18 ((decls.length : Int) - 1 - i) [], p)
        | none => (T0, p.fail 6) := by
    unfold atom
    rw [if_neg hU]
    rfl
  rw [hat]
  clear hat
  have HP := Lib.hid (And.intro hR (And.intro hD hb))
  obtain ⟨BA, bcap, rfl, -⟩ := id hb
  have hb0 := (Below.refl w.heap.size w).alloc (Nat.le_refl _) (.cells #[.int .i64 0, .int .i64 0, .slice none 0 0] 30)
  have hblk := Blk.new w 30 #[.int .i64 0, .int .i64 0, .slice none 0 0]
  have HU : x = [] ∨ ∃ h : 0 < x.length, x[0] ≠ 85 := by
    cases x with
    | nil => exact .inl rfl
    | cons c r => exact .inr ⟨by simp, fun e => hU (by simpa using e)⟩
  clear hR hD hb hU
  rcases HU with h | ⟨h, hne⟩
  · subst h
    have hv : (if 0 < kindOf [] then (if shape (kindOf []) = some [] then (T.mk (kindOf []) 0 [], p) else (T0, p.fail 2))
      else if isName [] = false then (T0, p.fail 7)
      else match fromEnd bound [] with
        | some i => (T.mk 1 i [], p)
        | none => match fromEnd decls [] with
          | some i => (T.mk 18 ((decls.length : Int) - 1 - i) [], p)
          | none => (T0, p.fail 6)) = (T0, p.fail 7) := rfl
    rw [hv]
    clear hv
    go_enter Tryz.func74, Tryz.ntmps74
    go_wp2_with fail
    refine (kindof_any [] _).mono ?_
    rintro e w1 ⟨rfl, hb1⟩
    rw [show kindOf [] = 0 from rfl]
    have hb2 := hb0.trans (hb1.mono hb0.size)
    have hs1 := hb1.size
    have hB1 := hblk.below hb1 (by simp)
    clear hb1
    go_wp2_with fail
    refine (rname_any [] (by simp) _).mono ?_
    rintro e w2 ⟨rfl, hb3⟩
    rw [show isName [] = false from rfl]
    have hb4 := hb2.trans (hb3.mono hb2.size)
    have hs2 := hb3.size
    have hB2 := hB1.below hb3 hB1.lt
    clear hb3
    have HB4 := Lib.hid hb4
    have HR2 := Lib.hid (HP.out.1.below hb4)
    clear hb2 hb4 hb0 hB1
    go_wp2_with fail
    refine (rfail_any _ R D p 7 HR2.out).mono ?_
    rintro e w3 ⟨rfl, hR3, hb5⟩
    obtain ⟨⟨d0, d1, d2⟩, e0, e1, e2⟩ := (hB2.but hb5 hB2.lt (by have := HP.out.1.lt; omega)).tri
    have HE := Lib.hid (And.intro hR3 ((but_of HB4.out).trans (hb5.mono HB4.out.size)))
    clear hR3 hb5 hB2
    go_wp2_with fail
    refine bodyPost_ret (v := .agg #[.int .i64 0, .int .i64 0, .slice none 0 0]) (by simp [results, Tryz.results74, go_sem, d0, d1, d2]) rfl ⟨rfl, (atom_end HE.out.1 HE.out.2 HP.out.1.lt).1, (atom_end HE.out.1 HE.out.2 HP.out.1.lt).2⟩
  · have hkb : 0 < (⟨x.toArray⟩ : ByteArray).size := h
    have h' : (0 : Int) < (x.length : Int) := by omega
    have hc : ¬ ((((⟨x.toArray⟩ : ByteArray)[0]'hkb).toNat : Nat) : Int) = 85 := by
      intro e
      have e2 : ((x[0].toNat : Nat) : Int) = 85 := e
      exact hne (UInt8.toNat_inj.1 (by have h85 : (85 : UInt8).toNat = 85 := rfl; rw [h85]; omega))
    have hcb : (((((⟨x.toArray⟩ : ByteArray)[0]'hkb).toNat : Nat) : Int) == 85) = false := by rw [beq_eq_false_iff_ne]; exact hc
    clear hne
    generalize hv : (if 0 < kindOf x then (if shape (kindOf x) = some [] then (T.mk (kindOf x) 0 [], p) else (T0, p.fail 2))
      else if isName x = false then (T0, p.fail 7)
      else match fromEnd bound x with
        | some i => (T.mk 1 i [], p)
        | none => match fromEnd decls x with
          | some i => (T.mk 18 ((decls.length : Int) - 1 - i) [], p)
          | none => (T0, p.fail 6)) = v
    have HV := Lib.hid hv
    clear hv
    go_enter Tryz.func74, Tryz.ntmps74
    go_wp2_with fail
    refine (kindof_any x _).mono ?_
    rintro e w1 ⟨rfl, hb1⟩
    have hb2 := hb0.trans (hb1.mono hb0.size)
    have hs1 := hb1.size
    have hB1 := hblk.below hb1 (by simp)
    have hq17 := kindOf_le x
    have HB2 := Lib.hid hb2
    obtain ⟨q, hq⟩ : ∃ q, kindOf x = q := ⟨_, rfl⟩
    rw [hq] at hq17 ⊢
    have hv := HV.out
    rw [hq] at hv
    have HV2 := Lib.hid hv
    clear hb1 hb2 hb0 hv hq HV
    by_cases hq0 : 0 < q
    · have hq0' : (0 : Int) < (q : Int) := by omega
      have hv := HV2.out
      rw [if_pos hq0] at hv
      obtain ⟨l, hl⟩ := shape_some hq0 (by omega)
      have hsb := shapeBytes_some hl
      rw [hl] at hv
      have HV3 := Lib.hid hv
      clear hv HV2 hl
      go_wp2_with fail
      refine (shape_any _ _).mono ?_
      rintro e w2 ⟨rfl, hb3⟩
      unfold shapeText
      generalize shapeBytes (q : Int) = sb at *
      have hb4 := HB2.out.trans (hb3.mono HB2.out.size)
      have hs2 := hb3.size
      have hB2 := hB1.below hb3 hB1.lt
      have HB4 := Lib.hid hb4
      have HR2 := Lib.hid (HP.out.1.below hb4)
      clear hb3 hb4 hB1
      by_cases hsn : sb = []
      · subst hsn
        have hv := HV3.out
        rw [if_pos (by rw [hsb.1 rfl])] at hv
        subst hv
        obtain ⟨⟨d0, d1, d2⟩, e0, e1, e2⟩ := hB2.tri
        clear hB2 HV3 hsb
        go_wp2_with fail
        refine bodyPost_ret (v := .agg #[.int .i64 q, .int .i64 0, .slice none 0 0]) (by simp [results, Tryz.results74, go_sem, d0, d1, d2]) rfl ⟨rfl, (atom_end HR2.out (but_of HB4.out) HP.out.1.lt).1, (atom_end HR2.out (but_of HB4.out) HP.out.1.lt).2⟩
      · have hv := HV3.out
        rw [if_neg (by simpa using fun h => hsn (hsb.2 h))] at hv
        subst hv
        have hne : sb.isEmpty = false := by simpa using hsn
        clear HV3 hsb hsn
        go_wp2_with fail
        refine (rfail_any _ R D p 2 HR2.out).mono ?_
        rintro e w3 ⟨rfl, hR3, hb5⟩
        obtain ⟨⟨d0, d1, d2⟩, e0, e1, e2⟩ := (hB2.but hb5 hB2.lt (by have := HP.out.1.lt; omega)).tri
        have HE := Lib.hid (And.intro hR3 ((but_of HB4.out).trans (hb5.mono HB4.out.size)))
        clear hR3 hb5 hB2
        go_wp2_with fail
        refine bodyPost_ret (v := .agg #[.int .i64 0, .int .i64 0, .slice none 0 0]) (by simp [results, Tryz.results74, go_sem, d0, d1, d2]) rfl ⟨rfl, (atom_end HE.out.1 HE.out.2 HP.out.1.lt).1, (atom_end HE.out.1 HE.out.2 HP.out.1.lt).2⟩
    · have hq0' : ¬ (0 : Int) < (q : Int) := by omega
      have hv := HV2.out
      rw [if_neg hq0] at hv
      have HV3 := Lib.hid hv
      clear hv HV2
      go_wp2_with fail
      refine (rname_any x hx _).mono ?_
      rintro e w2 ⟨rfl, hb3⟩
      have hb4 := HB2.out.trans (hb3.mono HB2.out.size)
      have hs2 := hb3.size
      have hB2 := hB1.below hb3 hB1.lt
      have HB4 := Lib.hid hb4
      have HR2 := Lib.hid (HP.out.1.below hb4)
      clear hb3 hb4 hB1
      cases hnm : isName x with
      | false =>
        have hv := HV3.out
        rw [if_pos hnm] at hv
        subst hv
        clear HV3 hnm
        go_wp2_with fail
        refine (rfail_any _ R D p 7 HR2.out).mono ?_
        rintro e w3 ⟨rfl, hR3, hb5⟩
        obtain ⟨⟨d0, d1, d2⟩, e0, e1, e2⟩ := (hB2.but hb5 hB2.lt (by have := HP.out.1.lt; omega)).tri
        have HE := Lib.hid (And.intro hR3 ((but_of HB4.out).trans (hb5.mono HB4.out.size)))
        clear hR3 hb5 hB2
        go_wp2_with fail
        refine bodyPost_ret (v := .agg #[.int .i64 0, .int .i64 0, .slice none 0 0]) (by simp [results, Tryz.results74, go_sem, d0, d1, d2]) rfl ⟨rfl, (atom_end HE.out.1 HE.out.2 HP.out.1.lt).1, (atom_end HE.out.1 HE.out.2 HP.out.1.lt).2⟩
      | true =>
        have hv := HV3.out
        rw [if_neg (by simp [hnm])] at hv
        have HV4 := Lib.hid hv
        clear hv HV3 hnm
        obtain ⟨DA, dcap, hDv, hd2, hd3, hd4⟩ := HP.out.2.1.but (but_of HB4.out)
        obtain ⟨BA', bcap', hBv, hb2', hb3', hb4'⟩ := HP.out.2.2.but (but_of HB4.out)
        cases hBv
        subst hDv
        have HDC := Lib.hid hd4
        have HBC := Lib.hid hb4'
        obtain ⟨d0, d1, d2⟩ := hB2.tri.1
        obtain ⟨e0, e1, e2⟩ := hB2.tri.2
        have hRW := HP.out.1.lt
        clear hd4 hb4' hblk hs1
        go_wp2_with fail
        go_loopw [10] (fun i wr => ∃ k : Nat, k ≤ bound.length ∧ i = .int .i64 ((k : Int) - 1) ∧ (∀ j, k ≤ j → ∀ h : j < bound.length, bound[j] ≠ x) ∧ wr = w2) (fun i _ => (intOf i + 1).toNat)
        case atStart => exact ⟨bound.length, Nat.le_refl _, rfl, fun j hj h => absurd h (by omega), rfl⟩
        case round =>
          obtain ⟨k, hk, rfl, hn, rfl⟩ := hrel
          have HN := Lib.hid hn
          clear hn
          rcases Nat.eq_zero_or_pos k with hk0 | hk0
          · subst hk0
            have hv := HV4.out
            rw [fromEnd_none (fun j h => HN.out j (Nat.zero_le _) h)] at hv
            have HV5 := Lib.hid hv
            clear hv HV4 HBC HN
            obtain ⟨s0, hs0, hs1, hs2⟩ := HR2.out
            have r1 := hs2.cell 1
            simp only [List.getElem?_toArray] at r1
            clear hs1 hs2
            go_wp2_with fail
            go_loopw [11] (fun i wr2 => ∃ k : Nat, k ≤ decls.length ∧ i = .int .i64 ((k : Int) - 1) ∧ (∀ j, k ≤ j → ∀ h : j < decls.length, decls[j] ≠ x) ∧ wr2 = wr) (fun i _ => (intOf i + 1).toNat)
            case atStart => exact ⟨decls.length, Nat.le_refl _, rfl, fun j hj h => absurd h (by omega), rfl⟩
            case round =>
              obtain ⟨k, hk, rfl, hn, rfl⟩ := hrel
              have HN := Lib.hid hn
              clear hn
              rcases Nat.eq_zero_or_pos k with hk0 | hk0
              · subst hk0
                have hv := HV5.out
                rw [fromEnd_none (fun j h => HN.out j (Nat.zero_le _) h)] at hv
                subst hv
                clear HV5 HDC HN
                go_wp2_with fail
                refine (rfail_any _ R (.slice DA decls.length dcap) p 6 HR2.out).mono ?_
                rintro e w3 ⟨rfl, hR3, hb5⟩
                obtain ⟨⟨d0, d1, d2⟩, e0, e1, e2⟩ := (hB2.but hb5 hB2.lt (by have := HP.out.1.lt; omega)).tri
                have HE := Lib.hid (And.intro hR3 ((but_of HB4.out).trans (hb5.mono HB4.out.size)))
                clear hR3 hb5 hB2
                go_wp2_with fail
                refine bodyPost_ret (v := .agg #[.int .i64 0, .int .i64 0, .slice none 0 0]) (by simp [results, Tryz.results74, go_sem, d0, d1, d2]) rfl ⟨rfl, (atom_end HE.out.1 HE.out.2 HP.out.1.lt).1, (atom_end HE.out.1 HE.out.2 HP.out.1.lt).2⟩
              · obtain ⟨m, rfl⟩ : ∃ m, k = m + 1 := ⟨k - 1, by omega⟩
                have hm : m < decls.length := by omega
                have hm0 : ((m + 1 : Nat) : Int) - 1 = (m : Int) := by omega
                rw [hm0]
                obtain ⟨b, off, hA, hlt, hbR, hc⟩ := HDC.out (by intro e; rw [e] at hm; simp at hm)
                subst hA
                have hcm := hc m decls[m] (List.getElem?_eq_getElem hm)
                clear hc hm0
                by_cases he : decls[m] = x
                · have heb : (decls[m] == x) = true := by simpa using he
                  have hv := HV5.out
                  rw [fromEnd_some hm he (fun j hj h => HN.out j (by omega) h)] at hv
                  subst hv
                  clear HV5 he HN
                  go_wp2_with fail
                  refine bodyPost_ret (v := .agg #[.int .i64 18, .int .i64 m, .slice none 0 0]) (by simp [results, Tryz.results74, go_sem, d0, d1, d2]) rfl ⟨?_, (atom_end HR2.out (but_of HB4.out) HP.out.1.lt).1, (atom_end HR2.out (but_of HB4.out) HP.out.1.lt).2⟩
                  rw [show (T.mk 18 ((decls.length : Int) - 1 - ((decls.length - 1 - m : Nat) : Int)) []).n = (m : Int) from by simp [T.n]; omega]
                  rfl
                · have heb : (decls[m] == x) = false := by simpa using he
                  have HEX := Lib.hid he
                  clear he
                  go_wp2_with fail
                  go_roundw
                  case rel => exact ⟨m, by omega, by go_num, fun j hj h => (by
                    rcases Nat.lt_or_ge m j with h1 | h1
                    · exact HN.out j (by omega) h
                    · obtain rfl : j = m := by omega
                      exact HEX.out), by first | rfl | trivial⟩
                  case measure => simp [intOf]
          · obtain ⟨m, rfl⟩ : ∃ m, k = m + 1 := ⟨k - 1, by omega⟩
            have hm : m < bound.length := by omega
            have hm0 : ((m + 1 : Nat) : Int) - 1 = (m : Int) := by omega
            rw [hm0]
            obtain ⟨b, off, hA, hlt, hbR, hc⟩ := HBC.out (by intro e; rw [e] at hm; simp at hm)
            subst hA
            have hcm := hc m bound[m] (List.getElem?_eq_getElem hm)
            clear hc hm0
            by_cases he : bound[m] = x
            · have heb : (bound[m] == x) = true := by simpa using he
              have hv := HV4.out
              rw [fromEnd_some hm he (fun j hj h => HN.out j (by omega) h)] at hv
              subst hv
              clear HV4 he HN
              go_wp2_with fail
              refine bodyPost_ret (v := .agg #[.int .i64 1, .int .i64 ((bound.length : Int) - 1 - m), .slice none 0 0]) (by simp [results, Tryz.results74, go_sem, d0, d1, d2]) rfl ⟨?_, (atom_end HR2.out (but_of HB4.out) HP.out.1.lt).1, (atom_end HR2.out (but_of HB4.out) HP.out.1.lt).2⟩
              rw [show (T.mk 1 ((bound.length - 1 - m : Nat) : Int) []).n = (bound.length : Int) - 1 - m from by simp [T.n]; omega]
              rfl
            · have heb : (bound[m] == x) = false := by simpa using he
              have HEX := Lib.hid he
              clear he
              go_wp2_with fail
              go_roundw
              case rel => exact ⟨m, by omega, by go_num, fun j hj h => (by
                rcases Nat.lt_or_ge m j with h1 | h1
                · exact HN.out j (by omega) h
                · obtain rfl : j = m := by omega
                  exact HEX.out), by first | rfl | trivial⟩
              case measure => simp [intOf]
end Go.Proofs.YtjboibbgigkhkaaGreatDoor

/- Lemmas for the reader's Term: what is left is a part of what was there; rows of texts. -/
namespace Go.Proofs.YtjboibbgigkhkaaGreatDoor
open Go.RowKit
set_option maxRecDepth 100000

theorem wst_len : ∀ s : Str, (wst s).1.length ≤ s.length ∧ ∀ x ∈ (wst s).2, x.length ≤ s.length := by
  intro s
  induction s with
  | nil => exact ⟨Nat.le_refl _, fun x h => by cases h⟩
  | cons c r ih =>
    have hf : ∀ x ∈ flush (wst r).1 (wst r).2, x.length ≤ r.length := by
      intro x hx
      unfold flush at hx
      split at hx
      · exact ih.2 x hx
      · cases hx with
        | head => exact ih.1
        | tail _ hx => exact ih.2 x hx
    rw [wst]
    by_cases h : isStop c = true
    · rw [if_pos h]
      refine ⟨by simp, fun x hx => ?_⟩
      dsimp only at hx
      by_cases h2 : isBr c = true
      · rw [if_pos h2] at hx
        cases hx with
        | head => simp
        | tail _ hx => have := hf x hx; simp; omega
      · rw [if_neg h2] at hx
        have := hf x hx
        simp; omega
    · rw [if_neg h]
      refine ⟨by have := ih.1; simp; omega, fun x hx => ?_⟩
      have := ih.2 x hx
      simp; omega

theorem words_len (s : Str) : ∀ x ∈ words s, x.length ≤ s.length := by
  intro x hx
  unfold words flush at hx
  split at hx
  · exact (wst_len s).2 x hx
  · cases hx with
    | head => exact (wst_len s).1
    | tail _ hx => exact (wst_len s).2 x hx

theorem RBox.len {w : World} {R : Nat} {D : Value} {p : PS} (h : RBox w R D p) : p.take.1.length ≤ 1000000000000 := by
  obtain ⟨s, h1, h2, -⟩ := h
  rw [(take_of_words p).1]
  cases hl : p.l with
  | nil => simp
  | cons a r =>
    have := words_len s a (by rw [h2, hl]; exact List.mem_cons_self ..)
    simp; omega

/-- no word begins with U -/
def noU (p : PS) : Prop := ∀ x ∈ p.l, x.head? ≠ some 85

theorem noU.sub {p q : PS} (h : noU p) (hs : q.l <:+ p.l) : noU q := fun x hx => h x (hs.subset hx)

theorem fail_l (c : Int) (p : PS) : (p.fail c).l = p.l := by unfold PS.fail; split <;> rfl
theorem take_l (p : PS) : p.take.2.l <:+ p.l := by
  obtain ⟨l, e⟩ := p
  cases l with
  | nil => simp only [PS.take]; rw [fail_l]; exact List.suffix_refl _
  | cons a r => exact List.suffix_cons ..

section
variable {cn : Str → Option Int} {decls : List Str}
theorem height_l (d : Str) (p : PS) : (height cn d p).2.l = p.l := by
  unfold height
  split
  · exact fail_l _ _
  · split
    · exact fail_l _ _
    · rfl
theorem atom_l (x : Str) (bound : List Str) (p : PS) : (atom cn decls x bound p).2.l = p.l := by
  unfold atom
  split
  · exact height_l _ _
  · split
    · split
      · rfl
      · exact fail_l _ _
    · split
      · exact fail_l _ _
      · split
        · rfl
        · split
          · rfl
          · exact fail_l _ _
theorem binders_l : ∀ (n : Nat) (b : List Str) (p : PS), (binders n b p).2.l <:+ p.l := by
  intro n
  induction n with
  | zero => intro b p; exact List.suffix_refl _
  | succ n ih =>
    intro b p
    rw [binders]
    refine (ih _ _).trans ?_
    split
    · exact take_l p
    · rw [fail_l]; exact take_l p
theorem pargs_l {g : List Str → PS → T × PS} (hg : ∀ b p, (g b p).2.l <:+ p.l) (bound : List Str) : ∀ (sh : List Nat) (p : PS), (pargs g bound sh p).2.l <:+ p.l := by
  intro sh
  induction sh with
  | nil => intro p; exact List.suffix_refl _
  | cons n r ih =>
    intro p
    rw [pargs]
    dsimp only
    refine (ih _).trans ((hg _ _).trans ?_)
    split
    · rw [fail_l]; exact binders_l n bound p
    · exact binders_l n bound p
theorem headKind_l (p : PS) : (headKind p).2.l <:+ p.l := by
  unfold headKind
  split
  · exact take_l p
  · exact List.suffix_refl _
theorem pterm_l : ∀ (f : Nat) (bound : List Str) (p : PS), (pterm cn decls f bound p).2.l <:+ p.l := by
  intro f
  induction f with
  | zero => intro b p; rw [pterm, fail_l]; exact List.suffix_refl _
  | succ f ih =>
    intro b p
    rw [pterm]
    split
    · exact List.suffix_refl _
    · split
      · rw [atom_l]; exact take_l p
      · dsimp only
        have h1 : (closed (pargs (pterm cn decls f) b ((shape (headKind p.take.2).1).getD []) (headKind p.take.2).2).2).l <:+ (pargs (pterm cn decls f) b ((shape (headKind p.take.2).1).getD []) (headKind p.take.2).2).2.l := by
          unfold closed
          split
          · exact take_l _
          · rw [fail_l]; exact take_l _
        exact h1.trans ((pargs_l ih b _ _).trans ((headKind_l _).trans (take_l p)))
end

def strc (l : List Str) : List Value := l.map fun s => .string ⟨s.toArray⟩
theorem strc_get (l : List Str) (j : Nat) : (strc l)[j]? = (l[j]?).map fun s => Value.string ⟨s.toArray⟩ := by simp [strc]
theorem strc_one (l : List Str) : ∀ u ∈ strc l, u.oneCell' = true := by
  intro u hu
  simp [strc] at hu
  obtain ⟨s, -, rfl⟩ := hu
  rfl

theorem Strs.reads {w : World} {R : Nat} {l : List Str} {A : Option Addr} {cap : Nat} (h : Strs w R l (.slice A l.length cap)) : Reads w w.heap.size 1 A l.length (strc l) := by
  obtain ⟨A', cap', e, h2, h3, h4⟩ := h
  cases e
  refine ⟨by simp [strc], fun hn => ?_⟩
  obtain ⟨b, off, e, hb, -, hc⟩ := h4 (by intro e; subst e; simp at hn)
  refine ⟨_, e, hb, fun j u hu => ?_⟩
  rw [strc_get] at hu
  cases hj : l[j]? with
  | none => rw [hj] at hu; cases hu
  | some s =>
    rw [hj] at hu
    simp only [Option.map_some, Option.some.injEq] at hu
    subst hu
    rw [Go.WideShapes.add_plain]
    exact hc j s hj

/-- a row of the call's own, of texts -/
theorem Strs.own {w : World} {R base : Nat} {l : List Str} {V : Value} (h : w.ownsRow base 9 1 V l.length (strc l)) (hR : R < base) : Strs w R l V := by
  rcases id h.2 with ⟨rfl, h0⟩ | ⟨g, cap, cur, rfl, hb, hh, hle, hm, -⟩
  · have : l = [] := List.eq_nil_of_length_eq_zero h0
    subst this
    exact ⟨none, 0, rfl, Nat.le_refl _, by unfold maxLen; omega, fun h => absurd rfl h⟩
  · refine ⟨_, cap, rfl, hle, hm, fun _ => ⟨g, 0, rfl, (h.lt g rfl).2, by omega, fun j s hj => ?_⟩⟩
    have := h.cells (g := g) rfl j (.string ⟨s.toArray⟩) (by rw [strc_get, hj]; rfl)
    rwa [Go.WideShapes.add_plain] at this

theorem own_but {w w' : World} {R base : Nat} {e : TypeId} {n : Nat} {V : Value} {xs : List Value} (h : w.ownsRow base e 1 V n xs) (hR : R < base) (hb : But R w.heap.size w w') : w'.ownsRow base e 1 V n xs := by
  refine h.kept (row := some R) ⟨hb.os, hb.tape, hb.output, hb.size, fun k hk hx => hb.block k hk (fun e => hx (by rw [e]))⟩ ?_
  cases hV : V.ownBlock with
  | none => exact .inl rfl
  | some g => exact .inr (fun e => absurd (h.lt R (hV.trans e)).1 (by omega))

theorem own_empty (w : World) (base : Nat) (hb : base ≤ w.heap.size) (e : TypeId) : (w.alloc (.cells #[] e)).ownsRow base e 1 (.slice (some ⟨w.heap.size, 0, none⟩) 0 0) 0 [] := by
  refine ⟨rfl, .inr ⟨w.heap.size, 0, #[], rfl, hb, heap_alloc_new w _, Nat.le_refl _, by unfold maxLen; omega, rfl, rfl⟩⟩
end Go.Proofs.YtjboibbgigkhkaaGreatDoor

/- How values, and what is bound, lie in memory; declarations; and that this stays. -/
namespace Go.Proofs.YtjboibbgigkhkaaGreatDoor
open Go.RowKit
set_option maxRecDepth 100000

/-- what is bound lies at e, each value as P says -/
def envAt (w : World) (P : Val → Value → Prop) : List Val → Value → Prop
  | [], e => e = .pointer none
  | v :: r, e => ∃ b p q, e = .pointer (some ⟨b, 0, none⟩) ∧ w.cell? ⟨b, 0, none⟩ = some p ∧ w.cell? ⟨b, 1, none⟩ = some q ∧ P v p ∧ envAt w P r q

/-- a closure's four cells -/
def cloAt (w : World) (P : Val → Value → Prop) (c : Clo) (s e : Value) : Prop := argsIn w w.heap.size c.1 s ∧ envAt w P c.2 e

def valAt (w : World) : Nat → Val → Value → Prop
  | 0, _, _ => False
  | d + 1, v, p => ∃ b A m B l, p = .pointer (some ⟨b, 0, none⟩) ∧
      (w.cell? ⟨b, 0, none⟩ = some (.int .i64 v.k) ∧ w.cell? ⟨b, 1, none⟩ = some (.int .i64 v.n) ∧ w.cell? ⟨b, 2, none⟩ = some (.slice A v.args.length m) ∧ w.cell? ⟨b, 3, none⟩ = some (.slice B v.bs.length l)) ∧
      (v.args ≠ [] → ∃ ab ao, A = some ⟨ab, ao, none⟩ ∧ ∀ j x, v.args[j]? = some x → ∃ q, w.cell? ⟨ab, ao + j, none⟩ = some q ∧ valAt w d x q) ∧
      (v.bs ≠ [] → ∃ bb bo, B = some ⟨bb, bo, none⟩ ∧ ∀ j c, v.bs[j]? = some c → ∃ s e, (w.cell? ⟨bb, bo + j * 4, none⟩ = some (.int .i64 c.1.k) ∧ w.cell? ⟨bb, bo + j * 4 + 1, none⟩ = some (.int .i64 c.1.n) ∧ w.cell? ⟨bb, bo + j * 4 + 2, none⟩ = some s ∧ w.cell? ⟨bb, bo + j * 4 + 3, none⟩ = some e) ∧ cloAt w (valAt w d) c s e)

theorem envAt.mono {w : World} {P Q : Val → Value → Prop} (h : ∀ v p, P v p → Q v p) : ∀ {l : List Val} {e : Value}, envAt w P l e → envAt w Q l e := by
  intro l
  induction l with
  | nil => intro e he; exact he
  | cons v r ih =>
    rintro e ⟨b, p, q, h1, h2, h3, h4, h5⟩
    exact ⟨b, p, q, h1, h2, h3, h _ _ h4, ih h5⟩
theorem cloAt.mono {w : World} {P Q : Val → Value → Prop} (h : ∀ v p, P v p → Q v p) {c : Clo} {s e : Value} (hc : cloAt w P c s e) : cloAt w Q c s e := ⟨hc.1, hc.2.mono h⟩
theorem valAt.up {w : World} : ∀ {d : Nat} {v : Val} {p : Value}, valAt w d v p → valAt w (d + 1) v p := by
  intro d
  induction d with
  | zero => intro v p h; exact h.elim
  | succ d ih =>
    rintro v p ⟨b, A, m, B, l, h1, h2, h3, h4⟩
    refine ⟨b, A, m, B, l, h1, h2, fun hn => ?_, fun hn => ?_⟩
    · obtain ⟨ab, ao, e, h⟩ := h3 hn
      exact ⟨ab, ao, e, fun j x hx => by obtain ⟨q, a1, a2⟩ := h j x hx; exact ⟨q, a1, ih a2⟩⟩
    · obtain ⟨bb, bo, e, h⟩ := h4 hn
      exact ⟨bb, bo, e, fun j c hc => by obtain ⟨s, e', a1, a2⟩ := h j c hc; exact ⟨s, e', a1, a2.mono fun _ _ => ih⟩⟩
theorem valAt.le {w : World} {d d' : Nat} {v : Val} {p : Value} (h : valAt w d v p) (hd : d ≤ d') : valAt w d' v p := by
  induction hd with
  | refl => exact h
  | step _ ih => exact ih.up

def ValAt (w : World) (v : Val) (p : Value) : Prop := ∃ d, valAt w d v p
def EnvAt (w : World) (l : List Val) (e : Value) : Prop := ∃ d, envAt w (valAt w d) l e
def CloAt (w : World) (c : Clo) (s e : Value) : Prop := argsIn w w.heap.size c.1 s ∧ EnvAt w c.2 e

theorem cell_keep {w w' : World} (hb : Below w.heap.size w w') {a : Addr} {v : Value} (h : w.cell? a = some v) : w'.cell? a = some v := (hb.cell (World.block_lt_of_cell? _ _ h)).trans h
theorem envAt.keep {w w' : World} (hb : Below w.heap.size w w') {P Q : Val → Value → Prop} (h : ∀ v p, P v p → Q v p) : ∀ {l : List Val} {e : Value}, envAt w P l e → envAt w' Q l e := by
  intro l
  induction l with
  | nil => intro e he; exact he
  | cons v r ih =>
    rintro e ⟨b, p, q, h1, h2, h3, h4, h5⟩
    exact ⟨b, p, q, h1, cell_keep hb h2, cell_keep hb h3, h _ _ h4, ih h5⟩
theorem valAt.keep {w w' : World} (hb : Below w.heap.size w w') : ∀ {d : Nat} {v : Val} {p : Value}, valAt w d v p → valAt w' d v p := by
  intro d
  induction d with
  | zero => intro v p h; exact h.elim
  | succ d ih =>
    rintro v p ⟨b, A, m, B, l, h1, ⟨k0, k1, k2, k3⟩, h3, h4⟩
    refine ⟨b, A, m, B, l, h1, ⟨cell_keep hb k0, cell_keep hb k1, cell_keep hb k2, cell_keep hb k3⟩, fun hn => ?_, fun hn => ?_⟩
    · obtain ⟨ab, ao, e, h⟩ := h3 hn
      exact ⟨ab, ao, e, fun j x hx => by obtain ⟨q, a1, a2⟩ := h j x hx; exact ⟨q, cell_keep hb a1, ih a2⟩⟩
    · obtain ⟨bb, bo, e, h⟩ := h4 hn
      exact ⟨bb, bo, e, fun j c hc => by
        obtain ⟨s, e', ⟨a0, a1, a2, a3⟩, a4, a5⟩ := h j c hc
        exact ⟨s, e', ⟨cell_keep hb a0, cell_keep hb a1, cell_keep hb a2, cell_keep hb a3⟩, a4.keep hb.size hb, a5.keep hb fun _ _ => ih⟩⟩
theorem ValAt.keep {w w' : World} {v : Val} {p : Value} (h : ValAt w v p) (hb : Below w.heap.size w w') : ValAt w' v p := let ⟨d, h⟩ := h; ⟨d, h.keep hb⟩
theorem EnvAt.keep {w w' : World} {l : List Val} {e : Value} (h : EnvAt w l e) (hb : Below w.heap.size w w') : EnvAt w' l e := let ⟨d, h⟩ := h; ⟨d, h.keep hb fun _ _ h => h.keep hb⟩
theorem CloAt.keep {w w' : World} {c : Clo} {s e : Value} (h : CloAt w c s e) (hb : Below w.heap.size w w') : CloAt w' c s e := ⟨h.1.keep hb.size hb, h.2.keep hb⟩

/-- a bound on finitely many depths -/
theorem deep_all {P : Nat → Nat → Prop} (hm : ∀ j d d', d ≤ d' → P j d → P j d') : ∀ n : Nat, (∀ j, j < n → ∃ d, P j d) → ∃ D, ∀ j, j < n → P j D := by
  intro n
  induction n with
  | zero => intro _; exact ⟨0, fun j h => by omega⟩
  | succ n ih =>
    intro h
    obtain ⟨D, hD⟩ := ih fun j hj => h j (by omega)
    obtain ⟨d, hd⟩ := h n (by omega)
    refine ⟨max D d, fun j hj => ?_⟩
    by_cases e : j = n
    · subst e; exact hm _ _ _ (Nat.le_max_right ..) hd
    · exact hm _ _ _ (Nat.le_max_left ..) (hD j (by omega))

theorem EnvAt.nil (w : World) : EnvAt w [] (.pointer none) := ⟨0, rfl⟩
theorem EnvAt.cons {w : World} {v : Val} {r : List Val} {b : Nat} {p q : Value} (h0 : w.cell? ⟨b, 0, none⟩ = some p) (h1 : w.cell? ⟨b, 1, none⟩ = some q) (hv : ValAt w v p) (hr : EnvAt w r q) : EnvAt w (v :: r) (.pointer (some ⟨b, 0, none⟩)) := by
  obtain ⟨d, hv⟩ := hv
  obtain ⟨d', hr⟩ := hr
  exact ⟨max d d', b, p, q, rfl, h0, h1, hv.le (Nat.le_max_left ..), hr.mono fun _ _ h => h.le (Nat.le_max_right ..)⟩
theorem EnvAt.uncons {w : World} {v : Val} {r : List Val} {e : Value} (h : EnvAt w (v :: r) e) : ∃ b p q, e = .pointer (some ⟨b, 0, none⟩) ∧ w.cell? ⟨b, 0, none⟩ = some p ∧ w.cell? ⟨b, 1, none⟩ = some q ∧ ValAt w v p ∧ EnvAt w r q := by
  obtain ⟨d, b, p, q, h1, h2, h3, h4, h5⟩ := h
  exact ⟨b, p, q, h1, h2, h3, ⟨d, h4⟩, ⟨d, h5⟩⟩
theorem EnvAt.form {w : World} {l : List Val} {e : Value} (h : EnvAt w l e) : ∃ a, e = .pointer a := by
  cases l with
  | nil => obtain ⟨d, h⟩ := h; exact ⟨_, h⟩
  | cons v r => obtain ⟨b, p, q, h, -⟩ := h.uncons; exact ⟨_, h⟩
theorem ValAt.form {w : World} {v : Val} {p : Value} (h : ValAt w v p) : ∃ b, p = .pointer (some ⟨b, 0, none⟩) := by
  obtain ⟨d, h⟩ := h
  cases d with
  | zero => exact h.elim
  | succ d => obtain ⟨b, A, m, B, l, h1, -⟩ := h; exact ⟨b, h1⟩

/-- a value, opened -/
theorem ValAt.open_ {w : World} {v : Val} {p : Value} (h : ValAt w v p) : ∃ b A m B l, p = .pointer (some ⟨b, 0, none⟩) ∧
    (w.cell? ⟨b, 0, none⟩ = some (.int .i64 v.k) ∧ w.cell? ⟨b, 1, none⟩ = some (.int .i64 v.n) ∧ w.cell? ⟨b, 2, none⟩ = some (.slice A v.args.length m) ∧ w.cell? ⟨b, 3, none⟩ = some (.slice B v.bs.length l)) ∧
    (v.args ≠ [] → ∃ ab ao, A = some ⟨ab, ao, none⟩ ∧ ∀ j x, v.args[j]? = some x → ∃ q, w.cell? ⟨ab, ao + j, none⟩ = some q ∧ ValAt w x q) ∧
    (v.bs ≠ [] → ∃ bb bo, B = some ⟨bb, bo, none⟩ ∧ ∀ j c, v.bs[j]? = some c → ∃ s e, (w.cell? ⟨bb, bo + j * 4, none⟩ = some (.int .i64 c.1.k) ∧ w.cell? ⟨bb, bo + j * 4 + 1, none⟩ = some (.int .i64 c.1.n) ∧ w.cell? ⟨bb, bo + j * 4 + 2, none⟩ = some s ∧ w.cell? ⟨bb, bo + j * 4 + 3, none⟩ = some e) ∧ CloAt w c s e) := by
  obtain ⟨d, h⟩ := h
  cases d with
  | zero => exact h.elim
  | succ d =>
    obtain ⟨b, A, m, B, l, h1, h2, h3, h4⟩ := h
    refine ⟨b, A, m, B, l, h1, h2, fun hn => ?_, fun hn => ?_⟩
    · obtain ⟨ab, ao, e, h⟩ := h3 hn
      exact ⟨ab, ao, e, fun j x hx => by obtain ⟨q, a1, a2⟩ := h j x hx; exact ⟨q, a1, ⟨d, a2⟩⟩⟩
    · obtain ⟨bb, bo, e, h⟩ := h4 hn
      exact ⟨bb, bo, e, fun j c hc => by obtain ⟨s, e', a1, a2⟩ := h j c hc; exact ⟨s, e', a1, a2.1, ⟨d, a2.2⟩⟩⟩

/-- a value, put together -/
theorem ValAt.mk_ {w : World} {v : Val} {b m l : Nat} {A B : Option Addr}
    (h2 : w.cell? ⟨b, 0, none⟩ = some (.int .i64 v.k) ∧ w.cell? ⟨b, 1, none⟩ = some (.int .i64 v.n) ∧ w.cell? ⟨b, 2, none⟩ = some (.slice A v.args.length m) ∧ w.cell? ⟨b, 3, none⟩ = some (.slice B v.bs.length l))
    (h3 : v.args ≠ [] → ∃ ab ao, A = some ⟨ab, ao, none⟩ ∧ ∀ j x, v.args[j]? = some x → ∃ q, w.cell? ⟨ab, ao + j, none⟩ = some q ∧ ValAt w x q)
    (h4 : v.bs ≠ [] → ∃ bb bo, B = some ⟨bb, bo, none⟩ ∧ ∀ j c, v.bs[j]? = some c → ∃ s e, (w.cell? ⟨bb, bo + j * 4, none⟩ = some (.int .i64 c.1.k) ∧ w.cell? ⟨bb, bo + j * 4 + 1, none⟩ = some (.int .i64 c.1.n) ∧ w.cell? ⟨bb, bo + j * 4 + 2, none⟩ = some s ∧ w.cell? ⟨bb, bo + j * 4 + 3, none⟩ = some e) ∧ CloAt w c s e) :
    ValAt w v (.pointer (some ⟨b, 0, none⟩)) := by
  have k3 : ∃ D, v.args ≠ [] → ∃ ab ao, A = some ⟨ab, ao, none⟩ ∧ ∀ j x, v.args[j]? = some x → ∃ q, w.cell? ⟨ab, ao + j, none⟩ = some q ∧ valAt w D x q := by
    by_cases hn : v.args = []
    · exact ⟨0, fun h => absurd hn h⟩
    · obtain ⟨ab, ao, e, h⟩ := h3 hn
      obtain ⟨D, hD⟩ := deep_all (P := fun j d => ∀ x, v.args[j]? = some x → ∃ q, w.cell? ⟨ab, ao + j, none⟩ = some q ∧ valAt w d x q)
        (fun j d d' hd hP x hx => by obtain ⟨q, a, b⟩ := hP x hx; exact ⟨q, a, b.le hd⟩) v.args.length (fun j hj => by
          obtain ⟨q, a, d, hb⟩ := h j _ (List.getElem?_eq_getElem hj)
          exact ⟨d, fun x hx => by rw [List.getElem?_eq_getElem hj] at hx; cases hx; exact ⟨q, a, hb⟩⟩)
      exact ⟨D, fun _ => ⟨ab, ao, e, fun j x hx => hD j (List.getElem?_eq_some_iff.1 hx).1 x hx⟩⟩
  have k4 : ∃ D, v.bs ≠ [] → ∃ bb bo, B = some ⟨bb, bo, none⟩ ∧ ∀ j c, v.bs[j]? = some c → ∃ s e, (w.cell? ⟨bb, bo + j * 4, none⟩ = some (.int .i64 c.1.k) ∧ w.cell? ⟨bb, bo + j * 4 + 1, none⟩ = some (.int .i64 c.1.n) ∧ w.cell? ⟨bb, bo + j * 4 + 2, none⟩ = some s ∧ w.cell? ⟨bb, bo + j * 4 + 3, none⟩ = some e) ∧ cloAt w (valAt w D) c s e := by
    by_cases hn : v.bs = []
    · exact ⟨0, fun h => absurd hn h⟩
    · obtain ⟨bb, bo, e, h⟩ := h4 hn
      obtain ⟨D, hD⟩ := deep_all (P := fun j d => ∀ c, v.bs[j]? = some c → ∃ s e, (w.cell? ⟨bb, bo + j * 4, none⟩ = some (.int .i64 c.1.k) ∧ w.cell? ⟨bb, bo + j * 4 + 1, none⟩ = some (.int .i64 c.1.n) ∧ w.cell? ⟨bb, bo + j * 4 + 2, none⟩ = some s ∧ w.cell? ⟨bb, bo + j * 4 + 3, none⟩ = some e) ∧ cloAt w (valAt w d) c s e)
        (fun j d d' hd hP x hx => by obtain ⟨s, e, a, b⟩ := hP x hx; exact ⟨s, e, a, b.mono fun _ _ h => h.le hd⟩) v.bs.length (fun j hj => by
          obtain ⟨s, e, a, hb, d, he⟩ := h j _ (List.getElem?_eq_getElem hj)
          exact ⟨d, fun x hx => by rw [List.getElem?_eq_getElem hj] at hx; cases hx; exact ⟨s, e, a, hb, he⟩⟩)
      exact ⟨D, fun _ => ⟨bb, bo, e, fun j x hx => hD j (List.getElem?_eq_some_iff.1 hx).1 x hx⟩⟩
  obtain ⟨D, k3⟩ := k3
  obtain ⟨D', k4⟩ := k4
  refine ⟨max D D' + 1, b, A, m, B, l, rfl, h2, fun hn => ?_, fun hn => ?_⟩
  · obtain ⟨ab, ao, e, h⟩ := k3 hn
    exact ⟨ab, ao, e, fun j x hx => by obtain ⟨q, a1, a2⟩ := h j x hx; exact ⟨q, a1, a2.le (Nat.le_max_left ..)⟩⟩
  · obtain ⟨bb, bo, e, h⟩ := k4 hn
    exact ⟨bb, bo, e, fun j c hc => by obtain ⟨s, e', a1, a2⟩ := h j c hc; exact ⟨s, e', a1, a2.mono fun _ _ h => h.le (Nat.le_max_right ..)⟩⟩

/-- rows that are known whole -/
theorem args_row {w : World} {g : Nat} {t : TypeId} {ps : Array Value} {xs : List Val} (h : Blk w g t ps) (hv : ∀ (j : Nat) (x : Val), xs[j]? = some x → ∃ q, ps[j]? = some q ∧ ValAt w x q) :
    ∃ ab ao, (some ⟨g, 0, none⟩ : Option Addr) = some ⟨ab, ao, none⟩ ∧ ∀ (j : Nat) (x : Val), xs[j]? = some x → ∃ q, w.cell? ⟨ab, ao + j, none⟩ = some q ∧ ValAt w x q :=
  ⟨g, 0, rfl, fun j x hx => by obtain ⟨q, h1, h2⟩ := hv j x hx; exact ⟨q, by rw [Nat.zero_add, h.cell j]; exact h1, h2⟩⟩
theorem clo_row {w : World} {g : Nat} {t : TypeId} {ps : Array Value} {bs : List Clo} (h : Blk w g t ps)
    (hv : ∀ (j : Nat) (c : Clo), bs[j]? = some c → ∃ s e, (ps[j * 4]? = some (.int .i64 c.1.k) ∧ ps[j * 4 + 1]? = some (.int .i64 c.1.n) ∧ ps[j * 4 + 2]? = some s ∧ ps[j * 4 + 3]? = some e) ∧ CloAt w c s e) :
    ∃ bb bo, (some ⟨g, 0, none⟩ : Option Addr) = some ⟨bb, bo, none⟩ ∧ ∀ (j : Nat) (c : Clo), bs[j]? = some c → ∃ s e, (w.cell? ⟨bb, bo + j * 4, none⟩ = some (.int .i64 c.1.k) ∧ w.cell? ⟨bb, bo + j * 4 + 1, none⟩ = some (.int .i64 c.1.n) ∧ w.cell? ⟨bb, bo + j * 4 + 2, none⟩ = some s ∧ w.cell? ⟨bb, bo + j * 4 + 3, none⟩ = some e) ∧ CloAt w c s e :=
  ⟨g, 0, rfl, fun j c hc => by
    obtain ⟨s, e, ⟨a0, a1, a2, a3⟩, a4⟩ := hv j c hc
    exact ⟨s, e, ⟨by rw [Nat.zero_add, h.cell]; exact a0, by rw [Nat.zero_add, h.cell]; exact a1, by rw [Nat.zero_add, h.cell]; exact a2, by rw [Nat.zero_add, h.cell]; exact a3⟩, a4⟩⟩
theorem ValAt.box {w : World} {v : Val} {b m l : Nat} {A B : Option Addr} {t : TypeId} (h : Blk w b t #[.int .i64 v.k, .int .i64 v.n, .slice A v.args.length m, .slice B v.bs.length l])
    (h3 : v.args ≠ [] → ∃ ab ao, A = some ⟨ab, ao, none⟩ ∧ ∀ j x, v.args[j]? = some x → ∃ q, w.cell? ⟨ab, ao + j, none⟩ = some q ∧ ValAt w x q)
    (h4 : v.bs ≠ [] → ∃ bb bo, B = some ⟨bb, bo, none⟩ ∧ ∀ j c, v.bs[j]? = some c → ∃ s e, (w.cell? ⟨bb, bo + j * 4, none⟩ = some (.int .i64 c.1.k) ∧ w.cell? ⟨bb, bo + j * 4 + 1, none⟩ = some (.int .i64 c.1.n) ∧ w.cell? ⟨bb, bo + j * 4 + 2, none⟩ = some s ∧ w.cell? ⟨bb, bo + j * 4 + 3, none⟩ = some e) ∧ CloAt w c s e) :
    ValAt w v (.pointer (some ⟨b, 0, none⟩)) := ValAt.mk_ ⟨h.cell 0, h.cell 1, h.cell 2, h.cell 3⟩ h3 h4
/-- a value of a kind that has nothing but a number -/
theorem val_leaf (w : World) (k n : Int) : ValAt (w.alloc (.cells #[.int .i64 k, .int .i64 n, .slice none 0 0, .slice none 0 0] 96)) (.mk k n [] []) (.pointer (some ⟨w.heap.size, 0, none⟩)) :=
  ValAt.box (v := .mk k n [] []) (Blk.new w _ _) (fun h => absurd rfl h) (fun h => absurd rfl h)
/-- of one, of two values -/
theorem val_one {w : World} {x : Val} {p : Value} (k n : Int) (hx : ValAt w x p) : ValAt ((w.alloc (.cells #[p] 63)).alloc (.cells #[.int .i64 k, .int .i64 n, .slice (some ⟨w.heap.size, 0, none⟩) 1 1, .slice none 0 0] 96)) (.mk k n [x] []) (.pointer (some ⟨w.heap.size + 1, 0, none⟩)) := by
  have hB := Blk.new (w.alloc (.cells #[p] 63)) 96 #[.int .i64 k, .int .i64 n, .slice (some ⟨w.heap.size, 0, none⟩) 1 1, .slice none 0 0]
  rw [show (w.alloc (.cells #[p] 63)).heap.size = w.heap.size + 1 by simp] at hB
  have hb := ((Below.refl w.heap.size w).alloc (Nat.le_refl _) (.cells #[p] 63)).alloc (by simp) (.cells #[.int .i64 k, .int .i64 n, .slice (some ⟨w.heap.size, 0, none⟩) 1 1, .slice none 0 0] 96)
  refine ValAt.box (v := .mk k n [x] []) hB (fun _ => args_row ((Blk.new w _ _).alloc _) fun j y hy => ?_) (fun h => absurd rfl h)
  match j, hy with
  | 0, hy => cases hy; exact ⟨p, rfl, hx.keep hb⟩
  | j + 1, hy => simp [Val.args] at hy
theorem val_two {w : World} {x y : Val} {p q : Value} (k n : Int) (hx : ValAt w x p) (hy : ValAt w y q) : ValAt ((w.alloc (.cells #[p, q] 63)).alloc (.cells #[.int .i64 k, .int .i64 n, .slice (some ⟨w.heap.size, 0, none⟩) 2 2, .slice none 0 0] 96)) (.mk k n [x, y] []) (.pointer (some ⟨w.heap.size + 1, 0, none⟩)) := by
  have hB := Blk.new (w.alloc (.cells #[p, q] 63)) 96 #[.int .i64 k, .int .i64 n, .slice (some ⟨w.heap.size, 0, none⟩) 2 2, .slice none 0 0]
  rw [show (w.alloc (.cells #[p, q] 63)).heap.size = w.heap.size + 1 by simp] at hB
  have hb := ((Below.refl w.heap.size w).alloc (Nat.le_refl _) (.cells #[p, q] 63)).alloc (by simp) (.cells #[.int .i64 k, .int .i64 n, .slice (some ⟨w.heap.size, 0, none⟩) 2 2, .slice none 0 0] 96)
  refine ValAt.box (v := .mk k n [x, y] []) hB (fun _ => args_row ((Blk.new w _ _).alloc _) fun j z hz => ?_) (fun h => absurd rfl h)
  match j, hz with
  | 0, hz => cases hz; exact ⟨p, rfl, hx.keep hb⟩
  | 1, hz => cases hz; exact ⟨q, rfl, hy.keep hb⟩
  | j + 2, hz => simp [Val.args] at hz

/-- declarations: a name, a type, a body -/
abbrev ND := Str × T × T
def DeclsAt (w : World) (ds : List ND) (v : Value) : Prop := ∃ A cap, v = .slice A ds.length cap ∧ ds.length ≤ cap ∧ cap ≤ maxLen ∧ (ds ≠ [] → ∃ b off, A = some ⟨b, off, none⟩ ∧ ∀ j d, ds[j]? = some d → ∃ s s',
  w.cell? ⟨b, off + j * 7, none⟩ = some (.string ⟨d.1.toArray⟩) ∧
  (w.cell? ⟨b, off + j * 7 + 1, none⟩ = some (.int .i64 d.2.1.k) ∧ w.cell? ⟨b, off + j * 7 + 2, none⟩ = some (.int .i64 d.2.1.n) ∧ w.cell? ⟨b, off + j * 7 + 3, none⟩ = some s) ∧
  (w.cell? ⟨b, off + j * 7 + 4, none⟩ = some (.int .i64 d.2.2.k) ∧ w.cell? ⟨b, off + j * 7 + 5, none⟩ = some (.int .i64 d.2.2.n) ∧ w.cell? ⟨b, off + j * 7 + 6, none⟩ = some s') ∧
  argsIn w w.heap.size d.2.1 s ∧ argsIn w w.heap.size d.2.2 s')
theorem DeclsAt.keep {w w' : World} {ds : List ND} {v : Value} (h : DeclsAt w ds v) (hb : Below w.heap.size w w') : DeclsAt w' ds v := by
  obtain ⟨A, cap, h1, h2, h3, h4⟩ := h
  refine ⟨A, cap, h1, h2, h3, fun hn => ?_⟩
  obtain ⟨b, off, e, h⟩ := h4 hn
  refine ⟨b, off, e, fun j d hj => ?_⟩
  obtain ⟨s, s', a0, ⟨a1, a2, a3⟩, ⟨a4, a5, a6⟩, a7, a8⟩ := h j d hj
  exact ⟨s, s', cell_keep hb a0, ⟨cell_keep hb a1, cell_keep hb a2, cell_keep hb a3⟩, ⟨cell_keep hb a4, cell_keep hb a5, cell_keep hb a6⟩, a7.keep hb.size hb, a8.keep hb.size hb⟩

/-- behind a call that answers a value -/
def VPost (v : Val) (w : World) (e : Ending) (w' : World) : Prop := ∃ p, e = .returned p ∧ ValAt w' v p ∧ Below w.heap.size w w'
end Go.Proofs.YtjboibbgigkhkaaGreatDoor

/- Declarations as a row of cells: read, copied, one more. -/
namespace Go.Proofs.YtjboibbgigkhkaaGreatDoor
open Go.RowKit
set_option maxRecDepth 100000

/-- a declaration's cells -/
def dcell (d : ND) (s s' : Value) : List Value := [.string ⟨d.1.toArray⟩, .int .i64 d.2.1.k, .int .i64 d.2.1.n, s, .int .i64 d.2.2.k, .int .i64 d.2.2.n, s']
/-- cells that are declarations' -/
def DCells (w : World) : List ND → List Value → Prop
  | [], cs => cs = []
  | d :: r, cs => ∃ s s' cs', cs = dcell d s s' ++ cs' ∧ argsIn w w.heap.size d.2.1 s ∧ argsIn w w.heap.size d.2.2 s' ∧ DCells w r cs'
theorem DCells.len {w : World} : ∀ {ds : List ND} {cs : List Value}, DCells w ds cs → cs.length = ds.length * 7
  | [], cs, h => by rw [h]; rfl
  | d :: r, cs, h => by
    obtain ⟨s, s', cs', rfl, -, -, h⟩ := h
    have := h.len
    simp [dcell]
    omega
theorem DCells.keep {w w' : World} (hb : Below w.heap.size w w') : ∀ {ds : List ND} {cs : List Value}, DCells w ds cs → DCells w' ds cs
  | [], cs, h => h
  | d :: r, cs, h => by
    obtain ⟨s, s', cs', e, h1, h2, h⟩ := h
    exact ⟨s, s', cs', e, h1.keep hb.size hb, h2.keep hb.size hb, h.keep hb⟩
theorem DCells.one {w : World} : ∀ {ds : List ND} {cs : List Value}, DCells w ds cs → ∀ u ∈ cs, u.oneCell' = true
  | [], cs, h, u, hu => by rw [h] at hu; cases hu
  | d :: r, cs, h, u, hu => by
    obtain ⟨s, s', cs', rfl, h1, h2, h⟩ := h
    obtain ⟨A, c, rfl, -⟩ := argsIn_iff.1 h1
    obtain ⟨A', c', rfl, -⟩ := argsIn_iff.1 h2
    rcases List.mem_append.1 hu with hu | hu
    · simp [dcell] at hu
      rcases hu with rfl | rfl | rfl | rfl | rfl | rfl | rfl <;> rfl
    · exact h.one u hu
theorem DCells.snoc {w : World} {d : ND} {s s' : Value} (h1 : argsIn w w.heap.size d.2.1 s) (h2 : argsIn w w.heap.size d.2.2 s') : ∀ {ds : List ND} {cs : List Value}, DCells w ds cs → DCells w (ds ++ [d]) (cs ++ dcell d s s')
  | [], cs, h => by
    rw [show cs = [] from h]
    exact ⟨s, s', [], by simp, h1, h2, rfl⟩
  | x :: r, cs, h => by
    obtain ⟨q, q', cs', rfl, a, b, h⟩ := h
    exact ⟨q, q', cs' ++ dcell d s s', by simp, a, b, h.snoc h1 h2⟩
theorem DCells.at_ {w : World} : ∀ {ds : List ND} {cs : List Value}, DCells w ds cs → ∀ (j : Nat) (d : ND), ds[j]? = some d → ∃ s s',
    (∀ i u, (dcell d s s')[i]? = some u → cs[j * 7 + i]? = some u) ∧ argsIn w w.heap.size d.2.1 s ∧ argsIn w w.heap.size d.2.2 s'
  | [], cs, h, j, d, hj => by simp at hj
  | x :: r, cs, h, 0, d, hj => by
    obtain ⟨s, s', cs', rfl, a, b, h⟩ := h
    simp at hj
    subst hj
    refine ⟨s, s', fun i u hu => ?_, a, b⟩
    have hi := (List.getElem?_eq_some_iff.1 hu).1
    rw [List.getElem?_append_left (by omega)]
    simpa using hu
  | x :: r, cs, h, j + 1, d, hj => by
    obtain ⟨s, s', cs', rfl, a, b, h⟩ := h
    obtain ⟨q, q', h1, h2, h3⟩ := h.at_ j d (by simpa using hj)
    refine ⟨q, q', fun i u hu => ?_, h2, h3⟩
    have hl : (dcell x s s').length = 7 := rfl
    rw [List.getElem?_append_right (by omega), hl, show (j + 1) * 7 + i - 7 = j * 7 + i by omega]
    exact h1 i u hu

theorem DeclsAt.of_own {w : World} {base : Nat} {t : TypeId} {V : Value} {ds : List ND} {cs : List Value} (h : w.ownsRow base t 7 V ds.length cs) (hp : DCells w ds cs) : DeclsAt w ds V := by
  rcases id h.2 with ⟨rfl, h0⟩ | ⟨g, cap, cur, rfl, -, -, hle, hm, -⟩
  · have : ds = [] := List.eq_nil_of_length_eq_zero h0
    subst this
    exact ⟨none, 0, rfl, Nat.le_refl _, by unfold maxLen; omega, fun h => absurd rfl h⟩
  · refine ⟨_, cap, rfl, hle, hm, fun hn => ⟨g, 0, rfl, fun j d hj => ?_⟩⟩
    obtain ⟨s, s', hc, a, b⟩ := hp.at_ j d hj
    have key : ∀ i u, (dcell d s s')[i]? = some u → w.cell? ⟨g, 0 + j * 7 + i, none⟩ = some u := fun i u hu => by
      have h1 := h.cells (g := g) rfl _ u (hc i u hu)
      rw [Go.WideShapes.add_plain] at h1
      rw [show 0 + j * 7 + i = 0 + (j * 7 + i) by omega]
      exact h1
    exact ⟨s, s', key 0 _ rfl, ⟨key 1 _ rfl, key 2 _ rfl, key 3 _ rfl⟩, ⟨key 4 _ rfl, key 5 _ rfl, key 6 _ rfl⟩, a, b⟩

theorem seven_cells {w : World} {b : Nat} {d : ND} {s s' : Value} : ∀ (o : Nat), (∀ i u, (dcell d s s')[i]? = some u → w.cell? ⟨b, o + i, none⟩ = some u) ↔
    (w.cell? ⟨b, o, none⟩ = some (.string ⟨d.1.toArray⟩) ∧ (w.cell? ⟨b, o + 1, none⟩ = some (.int .i64 d.2.1.k) ∧ w.cell? ⟨b, o + 2, none⟩ = some (.int .i64 d.2.1.n) ∧ w.cell? ⟨b, o + 3, none⟩ = some s) ∧
    (w.cell? ⟨b, o + 4, none⟩ = some (.int .i64 d.2.2.k) ∧ w.cell? ⟨b, o + 5, none⟩ = some (.int .i64 d.2.2.n) ∧ w.cell? ⟨b, o + 6, none⟩ = some s')) := by
  intro o
  refine ⟨fun h => ⟨h 0 _ rfl, ⟨h 1 _ rfl, h 2 _ rfl, h 3 _ rfl⟩, h 4 _ rfl, h 5 _ rfl, h 6 _ rfl⟩, fun ⟨h0, ⟨h1, h2, h3⟩, h4, h5, h6⟩ i u hu => ?_⟩
  match i, hu with
  | 0, hu => cases hu; exact h0
  | 1, hu => cases hu; exact h1
  | 2, hu => cases hu; exact h2
  | 3, hu => cases hu; exact h3
  | 4, hu => cases hu; exact h4
  | 5, hu => cases hu; exact h5
  | 6, hu => cases hu; exact h6
  | i + 7, hu => simp [dcell] at hu

/-- a list of declarations reads as its cells -/
theorem decls_cells {w : World} {b : Nat} : ∀ (ds : List ND) (o : Nat), (∀ j d, ds[j]? = some d → ∃ s s',
      w.cell? ⟨b, o + j * 7, none⟩ = some (.string ⟨d.1.toArray⟩) ∧
      (w.cell? ⟨b, o + j * 7 + 1, none⟩ = some (.int .i64 d.2.1.k) ∧ w.cell? ⟨b, o + j * 7 + 2, none⟩ = some (.int .i64 d.2.1.n) ∧ w.cell? ⟨b, o + j * 7 + 3, none⟩ = some s) ∧
      (w.cell? ⟨b, o + j * 7 + 4, none⟩ = some (.int .i64 d.2.2.k) ∧ w.cell? ⟨b, o + j * 7 + 5, none⟩ = some (.int .i64 d.2.2.n) ∧ w.cell? ⟨b, o + j * 7 + 6, none⟩ = some s') ∧
      argsIn w w.heap.size d.2.1 s ∧ argsIn w w.heap.size d.2.2 s') →
    ∃ cs, DCells w ds cs ∧ ∀ j u, cs[j]? = some u → w.cell? ⟨b, o + j, none⟩ = some u
  | [], o, _ => ⟨[], rfl, fun j u hu => by simp at hu⟩
  | d :: r, o, h => by
    obtain ⟨cs', h1, h2⟩ := decls_cells r (o + 7) fun j x hx => by
      have := h (j + 1) x (by simpa using hx)
      rwa [show o + (j + 1) * 7 = o + 7 + j * 7 by omega] at this
    obtain ⟨s, s', c0, c1, c2, a, a'⟩ := h 0 d rfl
    have key := (seven_cells (w := w) (b := b) (d := d) (s := s) (s' := s') o).2 (by simpa using ⟨c0, c1, c2⟩)
    refine ⟨dcell d s s' ++ cs', ⟨s, s', cs', rfl, a, a', h1⟩, fun j u hu => ?_⟩
    have hl : (dcell d s s').length = 7 := rfl
    by_cases hj : j < 7
    · rw [List.getElem?_append_left (by omega)] at hu
      exact key j u hu
    · rw [List.getElem?_append_right (by omega), hl] at hu
      have := h2 _ u hu
      rwa [show o + 7 + (j - 7) = o + j by omega] at this

theorem DeclsAt.reads {w : World} {ds : List ND} {A : Option Addr} {n cap : Nat} (h : DeclsAt w ds (.slice A n cap)) : n = ds.length ∧ n ≤ cap ∧ cap ≤ maxLen ∧ ∃ cs, DCells w ds cs ∧ Reads w w.heap.size 7 A n cs := by
  obtain ⟨A', cap', e, h1, h2, h3⟩ := h
  cases e
  refine ⟨rfl, h1, h2, ?_⟩
  cases ds with
  | nil => exact ⟨[], rfl, by simp, fun h => absurd h (by simp)⟩
  | cons d r =>
    obtain ⟨b, o, rfl, h4⟩ := h3 (by simp)
    obtain ⟨cs, hc, hcell⟩ := decls_cells (d :: r) o h4
    refine ⟨cs, hc, by have := hc.len; omega, fun _ => ⟨_, rfl, ?_, fun j u hu => by rw [Go.WideShapes.add_plain]; exact hcell j u hu⟩⟩
    obtain ⟨s, s', c0, -⟩ := h4 0 d rfl
    exact World.block_lt_of_cell? _ _ c0

/-- their cells, each -/
theorem DeclsAt.at_ {w : World} {ds : List ND} {A : Option Addr} {n cap j : Nat} {d : ND} (h : DeclsAt w ds (.slice A n cap)) (hj : ds[j]? = some d) : ∃ b off S m S' m', A = some ⟨b, off, none⟩ ∧
    w.cell? ⟨b, off + j * 7, none⟩ = some (.string ⟨d.1.toArray⟩) ∧
    (w.cell? ⟨b, off + j * 7 + 1, none⟩ = some (.int .i64 d.2.1.k) ∧ w.cell? ⟨b, off + j * 7 + 2, none⟩ = some (.int .i64 d.2.1.n) ∧ w.cell? ⟨b, off + j * 7 + 3, none⟩ = some (.slice S d.2.1.al.length m)) ∧
    (w.cell? ⟨b, off + j * 7 + 4, none⟩ = some (.int .i64 d.2.2.k) ∧ w.cell? ⟨b, off + j * 7 + 5, none⟩ = some (.int .i64 d.2.2.n) ∧ w.cell? ⟨b, off + j * 7 + 6, none⟩ = some (.slice S' d.2.2.al.length m')) ∧
    argsIn w w.heap.size d.2.1 (.slice S d.2.1.al.length m) ∧ argsIn w w.heap.size d.2.2 (.slice S' d.2.2.al.length m') := by
  obtain ⟨A', cap', e, h1, h2, h3⟩ := h
  cases e
  obtain ⟨b, o, rfl, h4⟩ := h3 (by intro e; rw [e] at hj; simp at hj)
  obtain ⟨s, s', c0, c1, c2, a, a'⟩ := h4 j d hj
  obtain ⟨S, m, rfl, -⟩ := argsIn_iff.1 a
  obtain ⟨S', m', rfl, -⟩ := argsIn_iff.1 a'
  exact ⟨b, o, S, m, S', m', rfl, c0, c1, c2, a, a'⟩
end Go.Proofs.YtjboibbgigkhkaaGreatDoor

