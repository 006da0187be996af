/- term.Lift: each, with the function that lifts a variable. -/
import Derived.Test.YtjboibbgigkhkaaDoorEachL
import Derived.StillTailTactics
import Derived.Deep.DeepCutAuto
import Derived.Deep.CutBlock
import Derived.Deep.RegionHeld3
import Derived.BigRegion
import Derived.IntWalk
namespace Go.Proofs.YtjboibbgigkhkaaDoor
open Go.RowKit
set_option maxRecDepth 100000

/-- three cells of a block that is known whole, none frozen -/
theorem Blk.tri {w : World} {g : Nat} {t : TypeId} {a b c : Value} (h : Blk w g t #[a, b, c]) :
    (w.cell? ⟨g, 0, none⟩ = some a ∧ w.cell? ⟨g, 1, none⟩ = some b ∧ w.cell? ⟨g, 2, none⟩ = some c) ∧ (w.frozen? ⟨g, 0, none⟩ = false ∧ w.frozen? ⟨g, 1, none⟩ = false ∧ w.frozen? ⟨g, 2, none⟩ = false) :=
  ⟨⟨h.cell 0, h.cell 1, h.cell 2⟩, h.frozen 0, h.frozen 1, h.frozen 2⟩

set_option maxHeartbeats 400000 in
theorem lift1_any (k n i by_ : Int) (A : Option Addr) (m cap B : Nat) (w : World) (hc : w.cell? ⟨B, 0, none⟩ = some (.int .i64 by_)) (hB : B < w.heap.size) (h0 : 0 ≤ n) (h1 : n ≤ 1000000000000) (h2 : 0 ≤ by_) (h3 : by_ ≤ 1000000000000) :
    Calls Tryd.prog 27 #[.agg #[.int .i64 k, .int .i64 n, .slice A m cap], .int .i64 i, .pointer (some ⟨B, 0, none⟩)] w
      fun e w' => e = .returned (.agg #[.int .i64 k, .int .i64 (n + by_), .slice A m cap]) ∧ Below w.heap.size w w' := by
  go_enter Tryd.func27, Tryd.ntmps27
  go_wp2
  refine bodyPost_ret (v := .agg #[.int .i64 k, .int .i64 (n + by_), .slice A m cap]) (by simp [results, Tryd.results27, go_sem]) rfl ⟨rfl, ?_⟩
  exact ((Below.refl _ _).alloc (Nat.le_refl _) _).alloc (by simp) _

set_option maxHeartbeats 1600000 in
theorem each_lift (S : Nat → Prop) (by_ : Int) (B : Nat) (h2 : 0 ≤ by_) (h3 : by_ ≤ 1000000000000) (M : Int) (hM : M ≤ 1000000000000) : ∀ (f : Nat) (t : T) (i : Int) (w : World) (s : Value), okT M f t → argsInS w S t s → (∀ b, S b → b < w.heap.size) → 0 ≤ i → i + 2 * f ≤ 1000000000000 →
    w.cell? ⟨B, 0, none⟩ = some (.int .i64 by_) → B < w.heap.size →
    Calls Tryd.prog 26 #[.agg #[.int .i64 t.k, .int .i64 t.n, s], .int .i64 i, .func (.func 27) #[] #[.pointer (some ⟨B, 0, none⟩)]] w (TermPost (liftT by_ t i) S w) := by
  intro f
  induction f with
  | zero => intro t i w s h; exact h.elim
  | succ f ih =>
  intro t i w s hok hs hS hi0 hi1 hcB hB
  obtain ⟨A, cap, rfl, q1, q2, q3⟩ := argsInS_iff.1 hs
  obtain ⟨hn0, hn1, ⟨l, hl, hll⟩, hch⟩ := hok
  unfold maxLen at q2
  by_cases hk : t.k = 1
  · have hal := shape_one_nil hk ⟨l, hl, hll⟩
    by_cases hn : i ≤ t.n
    · rw [liftT_var hk hn]
      have HP := Lib.hid (And.intro hs (And.intro hS hal))
      have hkb : (t.k == 1) = true := by simpa using hk
      have hnb : decide (i ≤ t.n) = true := by simpa using hn
      clear hs hS hal q3 ih hch hk hl hll
      go_enter Tryd.func26, Tryd.ntmps26
      go_wp2_with fail
      with_reducible refine (lift1_any t.k t.n i by_ A t.al.length cap B _ ?_ ?_ hn0 (by omega) h2 h3).mono ?_
      case refine_1 => rw [World.cell?_alloc_lt _ _ _ (by simp; omega), World.cell?_alloc_lt _ _ _ hB]; exact hcB
      case refine_2 => simp; omega
      rintro e w1 ⟨rfl, hb1⟩
      obtain ⟨hBt, hBr, hb0, hsz0⟩ := two_box hb1
      obtain ⟨⟨d0, d1, d2⟩, e0, e1, e2⟩ := hBr.tri
      clear hb1
      go_wp2_with fail
      refine bodyPost_ret (v := .agg #[.int .i64 t.k, .int .i64 (t.n + by_), .slice A t.al.length cap]) (by simp [results, Tryd.results26, go_sem, d0, d1, d2]) rfl ⟨_, rfl, ?_, ?_⟩
      · exact args_nil HP.out.1 HP.out.2.2 rfl
      · exact ((hb0.setCell (by simp) _).setCell (by simp) _).setCell (by simp) _
    · rw [liftT_low hk hn]
      have HP := Lib.hid (And.intro hs (And.intro hS hal))
      have hkb : (t.k == 1) = true := by simpa using hk
      have hnb : decide (i ≤ t.n) = false := by simpa using hn
      clear hs hS hal q3 ih hch hk hl hll
      go_enter Tryd.func26, Tryd.ntmps26
      go_wp2_with fail
      refine bodyPost_ret (v := .agg #[.int .i64 t.k, .int .i64 t.n, .slice A t.al.length cap]) (by simp [results, Tryd.results26, go_sem]) rfl ⟨_, rfl, ?_, ?_⟩
      · exact args_nil HP.out.1 HP.out.2.2 rfl
      · exact ((Below.refl _ _).alloc (Nat.le_refl _) _).alloc (by simp) _
  · rw [liftT_args hk hl]
    have hkb : (t.k == 1) = false := by simpa using hk
    have Q3 := Lib.hid q3
    have HL := Lib.hid hl
    have HLL := Lib.hid hll
    have IH := Lib.hid ih
    have HCH := Lib.hid hch
    have HS := Lib.hid hS
    have hl4 := shape_len4 hl
    clear hs hS q3 ih hch hk hl hll
    go_enter Tryd.func26, Tryd.ntmps26
    go_wp2_with fail
    refine (binds_of HL.out _).mono ?_
    rintro e wb ⟨LA, lcap, rfl, hli, hbb⟩
    obtain ⟨hBt, hBr, hb0, hsz0⟩ := two_box hbb
    obtain ⟨⟨t0, t1, t2⟩, -⟩ := hBt.tri
    have HLI := Lib.hid hli
    have HB := Lib.hid (And.intro hBt hBr)
    clear hli hBt hBr hbb
    go_wp2_with fail
    have hrow0 := RowS.nil wb S wb.heap.size
    go_loopw [9, 33] (fun v iv wr => ∃ j : Nat, j ≤ t.al.length ∧ iv = .int .i64 j ∧ RowS wr S wb.heap.size v ((liftL by_ t.al l i).take j) ∧ Below wb.heap.size wb wr) (fun _ iv _ => t.al.length - (intOf iv).toNat)
    case atStart => exact ⟨0, by omega, rfl, hrow0, Below.refl _ _⟩
    case round =>
      obtain ⟨j, hj, rfl, hrow, hb⟩ := hrel
      by_cases hlt : j < t.al.length
      · obtain ⟨x, hx⟩ := length_getElem hlt
        have hlt' : j < l.length := by rw [← HLL.out]; exact hlt
        obtain ⟨y, hy⟩ := length_getElem hlt'
        have hy2 : y ≤ 2 := shape_le HL.out y (List.mem_of_getElem? hy)
        obtain ⟨b, off, hA, hSb, hc⟩ := Q3.out (by intro e; rw [e] at hx; simp at hx)
        subst hA
        obtain ⟨A1, cap1, c1, c2, c3, c4⟩ := hc.at_ hx
        have hbw : Below w.heap.size w wr := hb0.trans (hb.mono hb0.size)
        have hbS := HS.out b hSb
        rw [← hbw.cell (p := ⟨b, _, none⟩) hbS] at c1 c2 c3
        obtain ⟨LA', lcap', hle, hlc⟩ := HLI.out
        obtain ⟨lb, loff, hLA, hlb, lc⟩ := hlc j y hy
        cases hle
        subst hLA
        rw [← hb.cell (p := ⟨lb, _, none⟩) hlb] at lc
        obtain ⟨AV, capV, hV⟩ := hrow.form
        rw [List.length_take, liftL_len, Nat.min_eq_left (by omega)] at hV
        have hVlt := hrow.lt
        have hlb2 : lb < wr.heap.size := Nat.lt_of_lt_of_le hlb hb.size
        have hat := liftL_at by_ hx hy (i := i)
        have hxm := List.mem_of_getElem? hx
        have HROW := Lib.hid hrow
        have HAT := Lib.hid hat
        have HVL := Lib.hid hVlt
        subst hV
        have hb1 : Below wr.heap.size wr (wr.alloc (.cells #[.int .i64 x.k, .int .i64 x.n, .slice A1 x.al.length cap1] 24)) := (Below.refl _ _).alloc (Nat.le_refl _) _
        have hw1 := hbw.trans (hb1.mono hbw.size)
        have hih := IH.out x (i + (y : Nat)) (wr.alloc (.cells #[.int .i64 x.k, .int .i64 x.n, .slice A1 x.al.length cap1] 24)).drew _ (HCH.out x hxm) (c4.keep (fun _ h => h) (fun p hp => hw1.drew.cell (HS.out _ hp))) (fun b hb => Nat.lt_of_lt_of_le (HS.out b hb) hw1.size) (by omega) (by omega) ((hw1.cell (p := ⟨B, 0, none⟩) hB).trans hcB) (Nat.lt_of_lt_of_le hB hw1.size)
        have lc1 := (hb1.cell (p := ⟨lb, _, none⟩) hlb2).trans lc
        obtain ⟨⟨p0, p1, p2⟩, -⟩ := (Blk.new wr 24 #[.int .i64 x.k, .int .i64 x.n, .slice A1 x.al.length cap1]).tri
        have hG : wr.heap.size < (wr.alloc (.cells #[.int .i64 x.k, .int .i64 x.n, .slice A1 x.al.length cap1] 24)).heap.size := by simp
        have HIH := Lib.hid hih
        have HB1 := Lib.hid hb1.drew
        have HG := Lib.hid hG
        have HSB := Lib.hid (fun b (hb : S b) => Nat.lt_of_lt_of_le (HS.out b hb) (show w.heap.size ≤ wb.heap.size by omega))
        have HBZ := Lib.hid hb.size
        have hlb3 : lb < (wr.alloc (.cells #[.int .i64 x.k, .int .i64 x.n, .slice A1 x.al.length cap1] 24)).heap.size := Nat.lt_of_lt_of_le hlb2 HB1.out.size
        have HLB := Lib.hid hlb3
        have HLB0 := Lib.hid hlb
        have HLEN := Lib.hid (show ((liftL by_ t.al l i).take j).length ≤ 2000000000 by rw [List.length_take]; omega)
        clear hrow hat hx hy hc hlc hVlt hih hb1 hw1 hG hlb3 lc
        go_wp2_with fail
        generalize wr.alloc (.cells #[.int .i64 x.k, .int .i64 x.n, .slice A1 x.al.length cap1] 24) = w1 at *
        clear c1 c2 c3 c4
        have hwr : IntKind.i64.wrap (i + (y : Int)) = i + (y : Int) := IntWalk.i64_in _ (by omega)
        go_region_held3 (fun w' => w'.cell? ⟨wr.heap.size, 0, none⟩ = some (.int .i64 x.k) ∧ w'.cell? ⟨wr.heap.size, 1, none⟩ = some (.int .i64 x.n) ∧ w'.cell? ⟨wr.heap.size, 2, none⟩ = some (.slice A1 x.al.length cap1) ∧ w'.cell? ⟨lb, loff + j, none⟩ = some (.int .i64 (y : Nat))) (go_keep)
          (first
            | ((with_reducible refine (HIH.out).mono ?_); rintro e w2 ⟨s2, rfl, hx2, hb2⟩; (obtain ⟨A2, cap2, rfl, -⟩ := argsInS_iff.1 hx2); (have k0 := (hb2.cell (p := ⟨wr.heap.size, 0, none⟩) HG.out : _ = w1.cell? _).trans p0); (have k1 := (hb2.cell (p := ⟨wr.heap.size, 1, none⟩) HG.out : _ = w1.cell? _).trans p1); (have k2 := (hb2.cell (p := ⟨wr.heap.size, 2, none⟩) HG.out : _ = w1.cell? _).trans p2); (have k3 := (hb2.cell (p := ⟨lb, loff + j, none⟩) HLB.out : _ = w1.cell? _).trans lc1); (have HX2 := Lib.hid hx2); (have HB2 := Lib.hid hb2); (have HRC := Lib.hid (row_call HROW.out HSB.out HBZ.out HB1.out hb2 hx2 (.cells #[.int .i64 (liftT by_ x (i + (y : Nat))).k, .int .i64 (liftT by_ x (i + (y : Nat))).n, .slice A2 (liftT by_ x (i + (y : Nat))).al.length cap2] 24))); (have hG2 := Nat.lt_of_lt_of_le HG.out hb2.size); (have hL2 := Nat.lt_of_lt_of_le HLB.out hb2.size); clear hx2 hb2)
            | ((refine step_append_term _ rfl (.tmp 38) (.tmp 48) rfl S wb.heap.size HSB.out HRC.out.2.2 (.slice AV j capV) ((liftL by_ t.al l i).take j) rfl HRC.out.1 HLEN.out (liftT by_ x (i + (y : Nat))) (.slice A2 (liftT by_ x (i + (y : Nat))).al.length cap2) HRC.out.2.1 ⟨w2.heap.size, 0, none⟩ 1 rfl (new_term w2 (.int .i64 (liftT by_ x (i + (y : Nat))).k) (.int .i64 (liftT by_ x (i + (y : Nat))).n) (.slice A2 (liftT by_ x (i + (y : Nat))).al.length cap2) 24 w2.heap.size rfl) ?_); intro V' w4 hrow4 hg4 _; (have HR4 := Lib.hid hrow4); (have HE4 := Lib.hid (row_end HROW.out hb HB1.out HB2.out hg4)); (have x0 := hg4.cell (a := ⟨wr.heap.size, 0, none⟩) ((World.cell?_alloc_lt _ _ _ hG2).trans k0) (fun e => Nat.lt_irrefl _ (HVL.out _ e.symm).2)); (have x1 := hg4.cell (a := ⟨wr.heap.size, 1, none⟩) ((World.cell?_alloc_lt _ _ _ hG2).trans k1) (fun e => Nat.lt_irrefl _ (HVL.out _ e.symm).2)); (have x2 := hg4.cell (a := ⟨wr.heap.size, 2, none⟩) ((World.cell?_alloc_lt _ _ _ hG2).trans k2) (fun e => Nat.lt_irrefl _ (HVL.out _ e.symm).2)); (have x3 := hg4.cell (a := ⟨lb, loff + j, none⟩) ((World.cell?_alloc_lt _ _ _ hL2).trans k3) (fun e => Nat.lt_irrefl _ (Nat.lt_of_lt_of_le HLB0.out (HVL.out _ e.symm).1))); clear hrow4 hg4)
            | fail)
        clear hwr
        obtain ⟨AV4, capV4, hV4⟩ := HR4.out.form
        subst hV4
        go_wp2_with fail
        go_roundw
        case rel => exact ⟨j + 1, by omega, by go_num, by rw [take_snoc_at HAT.out]; exact HR4.out, HE4.out⟩
        case measure => simp [intOf]; omega
      · obtain rfl : j = t.al.length := by omega
        obtain ⟨AV, capV, hV⟩ := hrow.form
        have hfull : (liftL by_ t.al l i).take t.al.length = liftL by_ t.al l i := List.take_of_length_le (by rw [liftL_len]; exact Nat.le_refl _)
        rw [hfull] at hrow hV
        rw [liftL_len] at hV
        have HROW := Lib.hid hrow
        subst hV
        obtain ⟨hBt, hBr⟩ := HB.out
        have hBt2 := hBt.below hb (by omega)
        have hBr2 := hBr.below hb (by omega)
        have hbw : Below w.heap.size w wr := hb0.trans (hb.mono hb0.size)
        obtain ⟨⟨d0, d1, d2⟩, e0, e1, e2⟩ := hBt2.tri
        obtain ⟨⟨r0, r1, r2⟩, g0, g1, g2⟩ := hBr2.tri
        have HBZ := Lib.hid hb.size
        have hgr : w.heap.size + 1 < wr.heap.size := by have := hb.size; omega
        clear hrow hfull hBt hBr hBt2 hBr2 t0 t1 t2
        go_wp2_with fail
        refine bodyPost_ret (v := .agg #[.int .i64 t.k, .int .i64 t.n, .slice AV t.al.length capV]) (by simp [results, Tryd.results26, go_sem, r0, r1, r2, d0, d1, d2]) rfl ⟨_, rfl, (each_end HROW.out HS.out hbw hsz0 HBZ.out).1, (each_end (k := t.k) (n := t.n) HROW.out HS.out hbw hsz0 HBZ.out).2⟩

set_option maxHeartbeats 400000 in
theorem lift_any (S : Nat → Prop) (by_ last : Int) (h2 : 0 ≤ by_) (h3 : by_ ≤ 1000000000000) (M : Int) (hM : M ≤ 1000000000000) (f : Nat) (t : T) (w : World) (s : Value) (hok : okT M f t) (hs : argsInS w S t s) (hS : ∀ b, S b → b < w.heap.size) (h0 : 0 ≤ last) (h1 : last + 2 * f ≤ 1000000000000) :
    Calls Tryd.prog 9 #[.agg #[.int .i64 t.k, .int .i64 t.n, s], .int .i64 by_, .int .i64 last] w (TermPost (liftT by_ t last) S w) := by
  obtain ⟨A, cap, rfl, q1, q2, q3⟩ := argsInS_iff.1 hs
  have HP := Lib.hid (And.intro hs (And.intro hS hok))
  clear hs hS q1 q2 q3 hok
  go_enter Tryd.func9, Tryd.ntmps9
  go_wp2_with fail
  have hb0 := (((Below.refl w.heap.size w).alloc (Nat.le_refl _) (.cells #[.int .i64 t.k, .int .i64 t.n, .slice A t.al.length cap] 24)).alloc (by simp) (.cells #[.int .i64 by_] 3)).alloc (by simp; omega) (.cells #[.int .i64 0, .int .i64 0, .slice none 0 0] 24)
  refine (each_lift S by_ (w.heap.size + 1) h2 h3 M hM f t last _ _ HP.out.2.2 (HP.out.1.keep (fun _ h => h) (fun p hp => hb0.cell (HP.out.2.1 _ hp))) (fun b hb => Nat.lt_of_lt_of_le (HP.out.2.1 b hb) hb0.size) h0 h1 ?_ ?_).mono ?_
  case refine_1 => rw [World.cell?_alloc_lt _ _ _ (by simp), World.cell?_alloc_at _ _ _ _ (by simp)]; rfl
  case refine_2 => simp
  rintro e w1 ⟨s1, rfl, hx, hb1⟩
  have hr := (Blk.new ((w.alloc (.cells #[.int .i64 t.k, .int .i64 t.n, .slice A t.al.length cap] 24)).alloc (.cells #[.int .i64 by_] 3)) 24 #[.int .i64 0, .int .i64 0, .slice none 0 0]).below hb1 (by simp)
  have hr' : Blk w1 (w.heap.size + 1 + 1) 24 #[.int .i64 0, .int .i64 0, .slice none 0 0] := by simpa using hr
  obtain ⟨⟨d0, d1, d2⟩, e0, e1, e2⟩ := hr'.tri
  obtain ⟨A1, cap1, rfl, -⟩ := argsInS_iff.1 hx
  have hb2 := hb0.trans (hb1.mono hb0.size)
  have HX := Lib.hid hx
  have HB := Lib.hid hb2
  have hsz := hb1.size
  simp at hsz
  clear hb0 hb1 hb2 hr hr' hx
  go_wp2_with fail
  refine bodyPost_ret (v := .agg #[.int .i64 (liftT by_ t last).k, .int .i64 (liftT by_ t last).n, .slice A1 (liftT by_ t last).al.length cap1]) (by simp [results, Tryd.results9, go_sem, d0, d1, d2]) rfl
    ⟨_, rfl, (term_out HX.out HP.out.2.1 (by omega) (by simp) HB.out).1, (term_out HX.out HP.out.2.1 (by omega) (by simp) HB.out).2⟩
end Go.Proofs.YtjboibbgigkhkaaDoor
