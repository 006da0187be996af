/- term.Uses: each, with the function that tells, in a box, whether a variable was met. -/
import Derived.Test.YtjboibbgigkhkaaDoorLift
import Derived.Test.YtjboibbgigkhkaaDoorSame
namespace Go.Proofs.YtjboibbgigkhkaaDoor
open Go.RowKit
set_option maxRecDepth 100000

/-- what lies below n stands, but for one block -/
structure But (X n : Nat) (w w' : World) : Prop where
  os : w'.os = w.os
  tape : w'.tape = w.tape
  output : w'.output = w.output
  size : w.heap.size ≤ w'.heap.size
  block : ∀ k, k < n → k ≠ X → w'.heap[k]? = w.heap[k]?

section
variable {X n : Nat} {w w' w'' : World}
theorem but_of (h : Below n w w') : But X n w w' := ⟨h.os, h.tape, h.output, h.size, fun k hk _ => h.block k hk⟩
theorem But.refl (X n : Nat) (w : World) : But X n w w := ⟨rfl, rfl, rfl, Nat.le_refl _, fun _ _ _ => rfl⟩
theorem But.trans (h : But X n w w') (k : But X n w' w'') : But X n w w'' :=
  ⟨k.os.trans h.os, k.tape.trans h.tape, k.output.trans h.output, Nat.le_trans h.size k.size, fun i hi hx => (k.block i hi hx).trans (h.block i hi hx)⟩
theorem But.mono {n' : Nat} (h : But X n w w') (hn : n' ≤ n) : But X n' w w' := ⟨h.os, h.tape, h.output, h.size, fun k hk hx => h.block k (Nat.lt_of_lt_of_le hk hn) hx⟩
theorem But.below {n' : Nat} (h : But X n w w') (hn : n' ≤ n) (hX : n' ≤ X) : Below n' w w' := ⟨h.os, h.tape, h.output, h.size, fun k hk => h.block k (Nat.lt_of_lt_of_le hk hn) (by omega)⟩
theorem But.drew (h : But X n w w') : But X n w w'.drew := ⟨h.os, h.tape, h.output, h.size, h.block⟩
theorem But.cell (h : But X n w w') {p : Addr} (hp : p.block < n) (hx : p.block ≠ X) : w'.cell? p = w.cell? p := World.cell?_of_block (w := w) (h.block p.block hp hx)
theorem But.alloc (h : But X n w w') (hn : n ≤ w'.heap.size) (o : Obj) : But X n w (w'.alloc o) := h.trans (but_of ((Below.refl n w').alloc hn o))
theorem But.setCell (h : But X n w w') {p : Addr} (hp : n ≤ p.block) (u : Value) : But X n w (w'.setCell p u) := h.trans (but_of ((Below.refl n w').setCell hp u))
theorem But.setX (h : But X n w w') {p : Addr} (hp : p.block = X) (u : Value) : But X n w (w'.setCell p u) :=
  h.trans ⟨rfl, rfl, rfl, by simp [World.setCell], fun k _ hx => Below.heap_setCell _ _ _ _ (by omega)⟩
theorem But.grown {row : Option Nat} (h : But X n w w') (hg : w'.grownBy w'' row) (hn : n ≤ w'.heap.size) (hr : ∀ k, row = some k → n ≤ k) : But X n w w'' :=
  h.trans (but_of ((Below.refl n w').grown hg hn hr))
theorem Blk.but {g : Nat} {t : TypeId} {cs : Array Value} (h : Blk w g t cs) (hb : But X n w w') (hg : g < n) (hx : g ≠ X) : Blk w' g t cs := (hb.block g hg hx).trans h
end

theorem RowS.but {X : Nat} {w w' : World} {S : Nat → Prop} {base : Nat} {V : Value} {ts : List T} (h : RowS w S base V ts) (hS : ∀ b, S b → b < base) (hX : X < base) (hSX : ¬ S X) (hbs : base ≤ w.heap.size) (hb : But X w.heap.size w w') : RowS w' S base V ts := by
  obtain ⟨cs, hown, hts⟩ := h
  refine ⟨cs, hown.kept (row := some X) ⟨hb.os, hb.tape, hb.output, hb.size, fun k hk hx => hb.block k hk (fun e => hx (by rw [e]))⟩ (by
    cases hV : V.ownBlock with
    | none => exact .inl rfl
    | some g => exact .inr (fun e => absurd (hown.lt X (hV.trans e)).1 (by omega))), fun i t hi => ?_⟩
  · obtain ⟨s, a1, a2, a3, a4⟩ := hts i t hi
    refine ⟨s, a1, a2, a3, a4.keep (fun b hb' => hb'.imp id fun h' => ⟨h'.1, Nat.lt_of_lt_of_le h'.2.1 hb.size, h'.2.2⟩) fun p hp => hb.cell ?_ ?_⟩
    · rcases hp with hp | hp
      · have := hS _ hp; omega
      · exact hp.2.1
    · rcases hp with hp | hp
      · intro e; rw [e] at hp; exact hSX hp
      · have := hp.1; omega

theorem row_call_but {X : Nat} {wr w1 w2 : World} {S : Nat → Prop} {base : Nat} {V : Value} {ts : List T} {x : T} {s : Value} (hrow : RowS wr S base V ts) (hS : ∀ b, S b → b < base) (hX : X < base) (hSX : ¬ S X) (hbs : base ≤ wr.heap.size) (hb1 : Below wr.heap.size wr w1)
    (hb2 : But X w1.heap.size w1 w2) (hx : argsInS w2 (orNew S w1 w2) x s) (o : Obj) :
    RowS (w2.alloc o) S base V ts ∧ argsInS (w2.alloc o) (Own S base V (w2.alloc o).heap.size) x s ∧ base ≤ (w2.alloc o).heap.size := by
  have h1 := hb1.size
  have h2 := hb2.size
  have hb : But X wr.heap.size wr w2 := (but_of hb1).trans (hb2.mono h1)
  refine ⟨(hrow.but hS hX hSX hbs hb).alloc hS (by omega) o, ?_, by simp; omega⟩
  refine hx.keep (orNew.own (by omega) (by simp) (fun g hg => Nat.lt_of_lt_of_le (hrow.lt g hg).2 h1)) fun p hp => World.cell?_alloc_lt _ _ _ ?_
  rcases hp with hp | hp
  · have := hS _ hp; omega
  · exact hp.2

theorem row_end_but {X : Nat} {wb wr w1 w2 w4 : World} {S : Nat → Prop} {V : Value} {ts : List T} {o : Obj} (hrow : RowS wr S wb.heap.size V ts) (hb : But X wb.heap.size wb wr) (hb1 : Below wr.heap.size wr w1) (hb2 : But X w1.heap.size w1 w2)
    (hg : (w2.alloc o).grownBy w4 V.ownBlock) : But X wb.heap.size wb w4 := by
  have h1 := (hb.trans ((but_of hb1).mono hb.size)).trans (hb2.mono (by have := hb1.size; have := hb.size; omega))
  exact (h1.alloc h1.size o).grown hg (by have := h1.size; simp; omega) (fun k hk => (hrow.lt k hk).1)

theorem each_end_but {X : Nat} {w wb wr : World} {S : Nat → Prop} {V a b c d : Value} {ts : List T} {k n : Int} (hrow : RowS wr S wb.heap.size V ts) (hS : ∀ b, S b → b < w.heap.size) (hbw : But X w.heap.size w wr) (hsz0 : w.heap.size + 2 ≤ wb.heap.size) (hbz : wb.heap.size ≤ wr.heap.size) :
    argsInS ((((wr.setCell ⟨w.heap.size, 2, none⟩ a).setCell ⟨w.heap.size + 1, 0, none⟩ b).setCell ⟨w.heap.size + 1, 1, none⟩ c).setCell ⟨w.heap.size + 1, 2, none⟩ d)
      (orNew S w ((((wr.setCell ⟨w.heap.size, 2, none⟩ a).setCell ⟨w.heap.size + 1, 0, none⟩ b).setCell ⟨w.heap.size + 1, 1, none⟩ c).setCell ⟨w.heap.size + 1, 2, none⟩ d)) (.mk k n ts) V ∧
    But X w.heap.size w ((((wr.setCell ⟨w.heap.size, 2, none⟩ a).setCell ⟨w.heap.size + 1, 0, none⟩ b).setCell ⟨w.heap.size + 1, 1, none⟩ c).setCell ⟨w.heap.size + 1, 2, none⟩ d) := by
  refine ⟨hrow.term (w := w) (by omega) hS (by simp [World.setCell]) fun p hp => ?_, (((hbw.setCell (Nat.le_refl _) _).setCell (by simp) _).setCell (by simp) _).setCell (by simp) _⟩
  have h1 : p.block ≠ w.heap.size := by omega
  have h2 : p.block ≠ w.heap.size + 1 := by omega
  exact World.cell?_of_block (by rw [Below.heap_setCell _ _ _ _ h2, Below.heap_setCell _ _ _ _ h2, Below.heap_setCell _ _ _ _ h2, Below.heap_setCell _ _ _ _ h1])

/-- a call that gives a term back, and has told in a box -/
def UsesPost (t : T) (c : Bool) (S : Nat → Prop) (B : Nat) (w : World) (e : Ending) (w' : World) : Prop :=
  ∃ s, e = .returned (.agg #[.int .i64 t.k, .int .i64 t.n, s]) ∧ argsInS w' (orNew S w w') t s ∧ But B w.heap.size w w' ∧ Blk w' B 4 #[.bool c]

theorem blk_ne {w : World} {B : Nat} {t : TypeId} {c : Bool} {p : Addr} {y : Int} (h : Blk w B t #[.bool c]) (hp : w.cell? p = some (.int .i64 y)) (hs : p.spot = none) : p.block ≠ B := by
  obtain ⟨b, o, s⟩ := p
  intro e
  dsimp only at e hs
  subst e
  subst hs
  rw [h.cell o] at hp
  match o, hp with
  | 0, hp => simp at hp
  | o + 1, hp => simp at hp

theorem usesL_snoc (m : Int) : ∀ {al : List T} {l : List Nat} {i : Int} {j y : Nat} {x : T}, al[j]? = some x → l[j]? = some y → usesL m (al.take (j + 1)) l i = (usesL m (al.take j) l i || usesT m x (i + (y : Nat))) := by
  intro al
  induction al with
  | nil => intro l i j y x h _; simp at h
  | cons a r ih =>
    intro l i j y x h hl
    cases l with
    | nil => simp at hl
    | cons z l =>
      cases j with
      | zero =>
        simp only [List.getElem?_cons_zero, Option.some.injEq] at h hl
        subst h hl
        simp [usesL]
      | succ j =>
        simp only [List.getElem?_cons_succ] at h hl
        have := ih (i := i) h hl
        simp only [List.take_succ_cons, usesL, List.tail_cons, List.headD_cons] at this ⊢
        rw [this, Bool.or_assoc]

set_option maxHeartbeats 400000 in
theorem uses1_any (k n i m : Int) (c : Bool) (A : Option Addr) (len cap B C : Nat) (w : World) (hB : Blk w B 4 #[.bool c]) (hC : w.cell? ⟨C, 0, none⟩ = some (.int .i64 m)) (hCB : C ≠ B) (hCw : C < w.heap.size) (h0 : 0 ≤ n) (h1 : n ≤ 1000000000000) (h2 : 0 ≤ i) (h3 : i ≤ 1000000000000) :
    Calls Tryd.prog 28 #[.agg #[.int .i64 k, .int .i64 n, .slice A len cap], .int .i64 i, .pointer (some ⟨B, 0, none⟩), .pointer (some ⟨C, 0, none⟩)] w
      fun e w' => e = .returned (.agg #[.int .i64 k, .int .i64 n, .slice A len cap]) ∧ But B w.heap.size w w' ∧ Blk w' B 4 #[.bool (c || decide (n - i = m))] := by
  have hwr : IntKind.i64.wrap (n - i) = n - i := IntWalk.i64_in _ (by omega)
  have b0 := hB.cell 0
  have b1 := hB.frozen 0
  have hBl := hB.lt
  have hb0 := ((Below.refl w.heap.size w).alloc (Nat.le_refl _) (.cells #[.int .i64 k, .int .i64 n, .slice A len cap] 24)).alloc (by simp) (.cells #[.int .i64 0, .int .i64 0, .slice none 0 0] 24)
  cases c with
  | false =>
    have he : ((n - i) == m) = decide (n - i = m) := rfl
    go_enter Tryd.func28, Tryd.ntmps28
    go_wp2_with fail
    refine bodyPost_ret (v := .agg #[.int .i64 k, .int .i64 n, .slice A len cap]) (by simp [results, Tryd.results28, go_sem]) rfl ⟨rfl, ?_, ?_⟩
    · exact (((But.refl B w.heap.size w).setX (p := ⟨B, 0, none⟩) rfl _).alloc (by simp) _).alloc (by simp) _
    · exact ((hB.set_ 0 _).alloc _).alloc _
  | true =>
    go_enter Tryd.func28, Tryd.ntmps28
    go_wp2_with fail
    refine bodyPost_ret (v := .agg #[.int .i64 k, .int .i64 n, .slice A len cap]) (by simp [results, Tryd.results28, go_sem]) rfl ⟨rfl, ?_, ?_⟩
    · exact (((But.refl B w.heap.size w).setX (p := ⟨B, 0, none⟩) rfl _).alloc (by simp) _).alloc (by simp) _
    · exact ((hB.set_ 0 _).alloc _).alloc _

set_option maxHeartbeats 1600000 in
theorem each_uses (S : Nat → Prop) (B C : Nat) (m : Int) (hCB : C ≠ B) (hSB0 : ¬ S B) (M : Int) (hM : M ≤ 1000000000000) : ∀ (f : Nat) (t : T) (i : Int) (w : World) (s : Value) (c : Bool), okT M f t → argsInS w S t s → (∀ b, S b → b < w.heap.size) → 0 ≤ i → i + 2 * f ≤ 1000000000000 →
    Blk w B 4 #[.bool c] → w.cell? ⟨C, 0, none⟩ = some (.int .i64 m) → C < w.heap.size →
    Calls Tryd.prog 26 #[.agg #[.int .i64 t.k, .int .i64 t.n, s], .int .i64 i, .func (.func 28) #[] #[.pointer (some ⟨B, 0, none⟩), .pointer (some ⟨C, 0, none⟩)]] w (UsesPost t (c || usesT m t i) S B w) := by
  intro f
  induction f with
  | zero => intro t i w s c h; exact h.elim
  | succ f ih =>
  intro t i w s c hok hs hS hi0 hi1 hB hcC hCw
  obtain ⟨A, cap, rfl, q1, q2, q3⟩ := argsInS_iff.1 hs
  obtain ⟨hn0, hn1, ⟨l, hl, hll⟩, hch⟩ := hok
  unfold maxLen at q2
  by_cases hk : t.k = 1
  · have hal := shape_one_nil hk ⟨l, hl, hll⟩
    rw [usesT_eq, if_pos hk]
    have hBl := hB.lt
    by_cases hn : i ≤ t.n
    · have HP := Lib.hid (And.intro hs (And.intro hS (And.intro hal hB)))
      have hkb : (t.k == 1) = true := by simpa using hk
      have hnb : decide (i ≤ t.n) = true := by simpa using hn
      clear hs hS hal q3 ih hch hk hl hll hB
      go_enter Tryd.func26, Tryd.ntmps26
      go_wp2_with fail
      have hb0 := ((Below.refl w.heap.size w).alloc (Nat.le_refl _) (.cells #[.int .i64 t.k, .int .i64 t.n, .slice A t.al.length cap] 24)).alloc (by simp) (.cells #[.int .i64 0, .int .i64 0, .slice none 0 0] 24)
      with_reducible refine (uses1_any t.k t.n i m c A t.al.length cap B C _ (HP.out.2.2.2.below hb0 hBl) ((hb0.cell (p := ⟨C, 0, none⟩) hCw).trans hcC) hCB (Nat.lt_of_lt_of_le hCw hb0.size) hn0 (by omega) hi0 (by omega)).mono ?_
      rintro e w1 ⟨rfl, hb1, hB1⟩
      have hbw := (but_of (X := B) hb0).trans (hb1.mono hb0.size)
      have hBr := ((Blk.new (w.alloc (.cells #[.int .i64 t.k, .int .i64 t.n, .slice A t.al.length cap] 24)) 24 #[.int .i64 0, .int .i64 0, .slice none 0 0]).but hb1 (by simp) (by simp; omega))
      have hBr' : Blk w1 (w.heap.size + 1) 24 #[.int .i64 0, .int .i64 0, .slice none 0 0] := by simpa using hBr
      obtain ⟨⟨d0, d1, d2⟩, e0, e1, e2⟩ := hBr'.tri
      have HB := Lib.hid (And.intro hbw hB1)
      clear hb1 hb0 hbw hBr hBr' hB1
      go_wp2_with fail
      refine bodyPost_ret (v := .agg #[.int .i64 t.k, .int .i64 t.n, .slice A t.al.length cap]) (by simp [results, Tryd.results26, go_sem, d0, d1, d2]) rfl
        ⟨_, rfl, args_nil HP.out.1 HP.out.2.2.1 rfl, (((HB.out.1.setCell (by simp) _).setCell (by simp) _).setCell (by simp) _), ?_⟩
      rw [hnb, Bool.true_and]
      exact ((HB.out.2.far (by simp; omega) _).far (by simp; omega) _).far (by simp; omega) _
    · have HP := Lib.hid (And.intro hs (And.intro hS (And.intro hal hB)))
      have hkb : (t.k == 1) = true := by simpa using hk
      have hnb : decide (i ≤ t.n) = false := by simpa using hn
      clear hs hS hal q3 ih hch hk hl hll hB
      go_enter Tryd.func26, Tryd.ntmps26
      go_wp2_with fail
      refine bodyPost_ret (v := .agg #[.int .i64 t.k, .int .i64 t.n, .slice A t.al.length cap]) (by simp [results, Tryd.results26, go_sem]) rfl ⟨_, rfl, ?_, ?_, ?_⟩
      · exact args_nil HP.out.1 HP.out.2.2.1 rfl
      · exact but_of (((Below.refl _ _).alloc (Nat.le_refl _) _).alloc (by simp) _)
      · exact (HP.out.2.2.2.alloc _).alloc _
  · have hU : usesT m t i = usesL m t.al l i := by rw [usesT_eq, if_neg hk, hl]; rfl
    rw [hU]
    have hBl := hB.lt
    have hkb : (t.k == 1) = false := by simpa using hk
    have Q3 := Lib.hid q3
    have HL := Lib.hid hl
    have HLL := Lib.hid hll
    have IH := Lib.hid ih
    have HCH := Lib.hid hch
    have HS := Lib.hid hS
    have HBB := Lib.hid hB
    have hl4 := shape_len4 hl
    clear hs hS q3 ih hch hk hl hll hB hU
    go_enter Tryd.func26, Tryd.ntmps26
    go_wp2_with fail
    refine (binds_of HL.out _).mono ?_
    rintro e wb ⟨LA, lcap, rfl, hli, hbb⟩
    obtain ⟨hBt, hBr, hb0, hsz0⟩ := two_box hbb
    obtain ⟨⟨t0, t1, t2⟩, -⟩ := hBt.tri
    have HLI := Lib.hid hli
    have HB := Lib.hid (And.intro hBt hBr)
    have hBb := HBB.out.below hb0 hBl
    clear hli hBt hBr hbb
    go_wp2_with fail
    have hrow0 := RowS.nil wb S wb.heap.size
    go_loopw [9, 33] (fun v iv wr => ∃ j : Nat, j ≤ t.al.length ∧ iv = .int .i64 j ∧ RowS wr S wb.heap.size v (t.al.take j) ∧ But B wb.heap.size wb wr ∧ Blk wr B 4 #[.bool (c || usesL m (t.al.take j) l i)]) (fun _ iv _ => t.al.length - (intOf iv).toNat)
    case atStart => exact ⟨0, by omega, rfl, hrow0, But.refl _ _ _, by simpa [usesL] using hBb⟩
    case round =>
      obtain ⟨j, hj, rfl, hrow, hb, hBl2⟩ := hrel
      have hBlw : B < w.heap.size := hBl
      have hBwb : B < wb.heap.size := by omega
      by_cases hlt : j < t.al.length
      · obtain ⟨x, hx⟩ := length_getElem hlt
        have hlt' : j < l.length := by rw [← HLL.out]; exact hlt
        obtain ⟨y, hy⟩ := length_getElem hlt'
        have hy2 : y ≤ 2 := shape_le HL.out y (List.mem_of_getElem? hy)
        obtain ⟨b, off, hA, hSb, hc⟩ := Q3.out (by intro e; rw [e] at hx; simp at hx)
        subst hA
        obtain ⟨A1, cap1, c1, c2, c3, c4⟩ := hc.at_ hx
        have hbw : But B w.heap.size w wr := (but_of hb0).trans (hb.mono hb0.size)
        have hbS := HS.out b hSb
        have hbB : b ≠ B := fun e => hSB0 (e ▸ hSb)
        rw [← hbw.cell (p := ⟨b, _, none⟩) hbS hbB] at c1 c2 c3
        obtain ⟨LA', lcap', hle, hlc⟩ := HLI.out
        obtain ⟨lb, loff, hLA, hlb, lc⟩ := hlc j y hy
        cases hle
        subst hLA
        have hlB : lb ≠ B := blk_ne hBb lc rfl
        rw [← hb.cell (p := ⟨lb, _, none⟩) hlb hlB] at lc
        obtain ⟨AV, capV, hV⟩ := hrow.form
        rw [List.length_take, Nat.min_eq_left (by omega)] at hV
        have hVlt := hrow.lt
        have hlb2 : lb < wr.heap.size := Nat.lt_of_lt_of_le hlb hb.size
        have hat := usesL_snoc m hx hy (i := i)
        have hxm := List.mem_of_getElem? hx
        have HROW := Lib.hid hrow
        have HAT := Lib.hid (And.intro hx hat)
        have HVL := Lib.hid hVlt
        subst hV
        have hb1 : Below wr.heap.size wr (wr.alloc (.cells #[.int .i64 x.k, .int .i64 x.n, .slice A1 x.al.length cap1] 24)) := (Below.refl _ _).alloc (Nat.le_refl _) _
        have hw1 := hbw.trans (but_of (hb1.mono hbw.size))
        have hih := IH.out x (i + (y : Nat)) (wr.alloc (.cells #[.int .i64 x.k, .int .i64 x.n, .slice A1 x.al.length cap1] 24)).drew _ (c || usesL m (t.al.take j) l i) (HCH.out x hxm) (c4.keep (fun _ h => h) (fun p hp => hw1.drew.cell (HS.out _ hp) (fun e => hSB0 (e ▸ hp)))) (fun b hb => Nat.lt_of_lt_of_le (HS.out b hb) hw1.size) (by omega) (by omega) (hBl2.alloc _).drew ((hw1.cell (p := ⟨C, 0, none⟩) hCw hCB).trans hcC) (Nat.lt_of_lt_of_le hCw hw1.size)
        have lc1 := (hb1.cell (p := ⟨lb, _, none⟩) hlb2).trans lc
        obtain ⟨⟨p0, p1, p2⟩, -⟩ := (Blk.new wr 24 #[.int .i64 x.k, .int .i64 x.n, .slice A1 x.al.length cap1]).tri
        have hG : wr.heap.size < (wr.alloc (.cells #[.int .i64 x.k, .int .i64 x.n, .slice A1 x.al.length cap1] 24)).heap.size := by simp
        have HIH := Lib.hid hih
        have HB1 := Lib.hid hb1.drew
        have HG := Lib.hid hG
        have HSB := Lib.hid (fun b (hb : S b) => Nat.lt_of_lt_of_le (HS.out b hb) (show w.heap.size ≤ wb.heap.size by omega))
        have HBZ := Lib.hid hb.size
        have hlb3 : lb < (wr.alloc (.cells #[.int .i64 x.k, .int .i64 x.n, .slice A1 x.al.length cap1] 24)).heap.size := Nat.lt_of_lt_of_le hlb2 HB1.out.size
        have HLB := Lib.hid hlb3
        have HLB0 := Lib.hid hlb
        have HBW := Lib.hid hBwb
        have HNB := Lib.hid (And.intro (show wr.heap.size ≠ B by have := hb.size; omega) hlB)
        have HLEN := Lib.hid (show (t.al.take j).length ≤ 2000000000 by rw [List.length_take]; omega)
        clear hrow hat hx hy hc hlc hVlt hih hb1 hw1 hG hlb3 lc hBl2
        go_wp2_with fail
        generalize wr.alloc (.cells #[.int .i64 x.k, .int .i64 x.n, .slice A1 x.al.length cap1] 24) = w1 at *
        clear c1 c2 c3 c4
        have hwr : IntKind.i64.wrap (i + (y : Int)) = i + (y : Int) := IntWalk.i64_in _ (by omega)
        go_region_held3 (fun w' => w'.cell? ⟨wr.heap.size, 0, none⟩ = some (.int .i64 x.k) ∧ w'.cell? ⟨wr.heap.size, 1, none⟩ = some (.int .i64 x.n) ∧ w'.cell? ⟨wr.heap.size, 2, none⟩ = some (.slice A1 x.al.length cap1) ∧ w'.cell? ⟨lb, loff + j, none⟩ = some (.int .i64 (y : Nat))) (go_keep)
          (first
            | ((with_reducible refine (HIH.out).mono ?_); rintro e w2 ⟨s2, rfl, hx2, hb2, hB2⟩; (obtain ⟨A2, cap2, rfl, -⟩ := argsInS_iff.1 hx2); (have k0 := (hb2.cell (p := ⟨wr.heap.size, 0, none⟩) HG.out HNB.out.1 : _ = w1.cell? _).trans p0); (have k1 := (hb2.cell (p := ⟨wr.heap.size, 1, none⟩) HG.out HNB.out.1 : _ = w1.cell? _).trans p1); (have k2 := (hb2.cell (p := ⟨wr.heap.size, 2, none⟩) HG.out HNB.out.1 : _ = w1.cell? _).trans p2); (have k3 := (hb2.cell (p := ⟨lb, loff + j, none⟩) HLB.out HNB.out.2 : _ = w1.cell? _).trans lc1); (have HX2 := Lib.hid hx2); (have HB2 := Lib.hid hb2); (have HBB2 := Lib.hid hB2); (have HRC := Lib.hid (row_call_but HROW.out HSB.out HBW.out hSB0 HBZ.out HB1.out hb2 hx2 (.cells #[.int .i64 x.k, .int .i64 x.n, .slice A2 x.al.length cap2] 24))); (have hG2 := Nat.lt_of_lt_of_le HG.out hb2.size); (have hL2 := Nat.lt_of_lt_of_le HLB.out hb2.size); clear hx2 hb2 hB2)
            | ((refine step_append_term _ rfl (.tmp 38) (.tmp 48) rfl S wb.heap.size HSB.out HRC.out.2.2 (.slice AV j capV) (t.al.take j) rfl HRC.out.1 HLEN.out x (.slice A2 x.al.length cap2) HRC.out.2.1 ⟨w2.heap.size, 0, none⟩ 1 rfl (new_term w2 (.int .i64 x.k) (.int .i64 x.n) (.slice A2 x.al.length cap2) 24 w2.heap.size rfl) ?_); intro V' w4 hrow4 hg4 _; (have HR4 := Lib.hid hrow4); (have HBB4 := Lib.hid ((HBB2.out.alloc (.cells #[.int .i64 x.k, .int .i64 x.n, .slice A2 x.al.length cap2] 24)).grown hg4 (fun e => Nat.lt_irrefl _ (Nat.lt_of_lt_of_le HBW.out (HVL.out _ e.symm).1)))); (have HE4 := Lib.hid (row_end_but HROW.out hb HB1.out HB2.out hg4)); (have x0 := hg4.cell (a := ⟨wr.heap.size, 0, none⟩) ((World.cell?_alloc_lt _ _ _ hG2).trans k0) (fun e => Nat.lt_irrefl _ (HVL.out _ e.symm).2)); (have x1 := hg4.cell (a := ⟨wr.heap.size, 1, none⟩) ((World.cell?_alloc_lt _ _ _ hG2).trans k1) (fun e => Nat.lt_irrefl _ (HVL.out _ e.symm).2)); (have x2 := hg4.cell (a := ⟨wr.heap.size, 2, none⟩) ((World.cell?_alloc_lt _ _ _ hG2).trans k2) (fun e => Nat.lt_irrefl _ (HVL.out _ e.symm).2)); (have x3 := hg4.cell (a := ⟨lb, loff + j, none⟩) ((World.cell?_alloc_lt _ _ _ hL2).trans k3) (fun e => Nat.lt_irrefl _ (Nat.lt_of_lt_of_le HLB0.out (HVL.out _ e.symm).1))); clear hrow4 hg4)
            | fail)
        clear hwr
        obtain ⟨AV4, capV4, hV4⟩ := HR4.out.form
        subst hV4
        go_wp2_with fail
        go_roundw
        case rel => exact ⟨j + 1, by omega, by go_num, by rw [take_snoc_at HAT.out.1]; exact HR4.out, HE4.out, by rw [HAT.out.2, ← Bool.or_assoc]; exact HBB4.out⟩
        case measure => simp [intOf]; omega
      · obtain rfl : j = t.al.length := by omega
        obtain ⟨AV, capV, hV⟩ := hrow.form
        rw [List.take_length] at hrow hV hBl2
        have HBB3 := Lib.hid hBl2
        have HROW := Lib.hid hrow
        subst hV
        obtain ⟨hBt, hBr⟩ := HB.out
        have hBt2 := hBt.but hb (by omega) (by omega)
        have hBr2 := hBr.but hb (by omega) (by omega)
        have hbw : But B w.heap.size w wr := (but_of hb0).trans (hb.mono hb0.size)
        obtain ⟨⟨d0, d1, d2⟩, e0, e1, e2⟩ := hBt2.tri
        obtain ⟨⟨r0, r1, r2⟩, g0, g1, g2⟩ := hBr2.tri
        have HBZ := Lib.hid hb.size
        have hgr : w.heap.size + 1 < wr.heap.size := by have := hb.size; omega
        clear hrow hBl2 hBt hBr hBt2 hBr2 t0 t1 t2
        go_wp2_with fail
        refine bodyPost_ret (v := .agg #[.int .i64 t.k, .int .i64 t.n, .slice AV t.al.length capV]) (by simp [results, Tryd.results26, go_sem, r0, r1, r2, d0, d1, d2]) rfl ⟨_, rfl, ?_, (each_end_but (k := t.k) (n := t.n) HROW.out HS.out hbw hsz0 HBZ.out).2, ?_⟩
        · have h := (each_end_but (k := t.k) (n := t.n) HROW.out HS.out hbw hsz0 HBZ.out (a := .slice AV t.al.length capV) (b := .int .i64 t.k) (c := .int .i64 t.n) (d := .slice AV t.al.length capV)).1
          rw [T.eta] at h
          exact h
        · exact (((HBB3.out.far (by simp; omega) _).far (by simp; omega) _).far (by simp; omega) _).far (by simp; omega) _

set_option maxHeartbeats 400000 in
theorem uses_any (S : Nat → Prop) (m : Int) (M : Int) (hM : M ≤ 1000000000000) (f : Nat) (t : T) (w : World) (s : Value) (hok : okT M f t) (hf : 2 * f ≤ 1000000000000) (hs : argsInS w S t s) (hS : ∀ b, S b → b < w.heap.size) :
    Calls Tryd.prog 10 #[.agg #[.int .i64 t.k, .int .i64 t.n, s], .int .i64 m] w (BoolPost (usesT m t 0) w) := by
  obtain ⟨A, cap, rfl, q1, q2, q3⟩ := argsInS_iff.1 hs
  have HP := Lib.hid (And.intro hs (And.intro hS hok))
  clear hs hS q1 q2 q3 hok
  go_enter Tryd.func10, Tryd.ntmps10
  go_wp2_with fail
  have hb0 := (((Below.refl w.heap.size w).alloc (Nat.le_refl _) (.cells #[.int .i64 t.k, .int .i64 t.n, .slice A t.al.length cap] 24)).alloc (by simp) (.cells #[.int .i64 m] 3)).alloc (by simp; omega) (.cells #[.bool false] 4)
  have hB : Blk (((w.alloc (.cells #[.int .i64 t.k, .int .i64 t.n, .slice A t.al.length cap] 24)).alloc (.cells #[.int .i64 m] 3)).alloc (.cells #[.bool false] 4)) (w.heap.size + 1 + 1) 4 #[.bool false] := by
    have h := Blk.new ((w.alloc (.cells #[.int .i64 t.k, .int .i64 t.n, .slice A t.al.length cap] 24)).alloc (.cells #[.int .i64 m] 3)) 4 #[.bool false]
    simpa using h
  have hC : (((w.alloc (.cells #[.int .i64 t.k, .int .i64 t.n, .slice A t.al.length cap] 24)).alloc (.cells #[.int .i64 m] 3)).alloc (.cells #[.bool false] 4)).cell? ⟨w.heap.size + 1, 0, none⟩ = some (.int .i64 m) := by
    have h := ((Blk.new (w.alloc (.cells #[.int .i64 t.k, .int .i64 t.n, .slice A t.al.length cap] 24)) 3 #[.int .i64 m]).alloc (.cells #[.bool false] 4)).cell 0
    simpa using h
  refine (each_uses S (w.heap.size + 1 + 1) (w.heap.size + 1) m (by omega) (fun h => absurd (HP.out.2.1 _ h) (by omega)) M hM f t 0 _ _ false HP.out.2.2 (HP.out.1.keep (fun _ h => h) (fun p hp => hb0.cell (HP.out.2.1 _ hp))) (fun b hb => Nat.lt_of_lt_of_le (HP.out.2.1 b hb) hb0.size) (Int.le_refl _) (by omega) hB hC (by simp)).mono ?_
  rintro e w1 ⟨s1, rfl, hx, hb1, hB1⟩
  have hbw : Below w.heap.size w w1 := hb0.trans (hb1.below hb0.size (by omega))
  have b0 := hB1.cell 0
  simp only [Bool.false_or] at b0
  obtain ⟨A1, cap1, rfl, -⟩ := argsInS_iff.1 hx
  clear hB hC hB1 hb1 hb0 hx
  go_wp2_with fail
  go_ret
  exact ⟨rfl, hbw⟩
end Go.Proofs.YtjboibbgigkhkaaDoor
