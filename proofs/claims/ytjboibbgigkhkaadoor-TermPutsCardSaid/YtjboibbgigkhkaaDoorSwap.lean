/- sklaw1.swap: the two that were bound last change places. -/
import Derived.Test.YtjboibbgigkhkaaDoorLift
import Derived.Test.YtjboibbgigkhkaaDoorLook
namespace Go.Proofs.YtjboibbgigkhkaaDoor
open Go.RowKit
set_option maxRecDepth 100000

set_option maxHeartbeats 1600000 in
theorem swap_any (S : Nat → Prop) (M : Int) (hM : M ≤ 1000000000000) : ∀ (f : Nat) (t : T) (i : Int) (w : World) (s : Value), okT M f t → argsInS w S t s → (∀ b, S b → b < w.heap.size) → 0 ≤ i → i + 2 * f ≤ 1000000000000 →
    Calls Tryd.prog 14 #[.agg #[.int .i64 t.k, .int .i64 t.n, s], .int .i64 i] w (TermPost (swapT t i) S w) := by
  intro f
  induction f with
  | zero => intro t i w s h; exact h.elim
  | succ f ih =>
  intro t i w s hok hs hS hi0 hi1
  obtain ⟨A, cap, rfl, q1, q2, q3⟩ := argsInS_iff.1 hs
  obtain ⟨hn0, hn1, ⟨l, hl, hll⟩, hch⟩ := hok
  unfold maxLen at q2
  by_cases hk : t.k = 1
  · have hal := shape_one_nil hk ⟨l, hl, hll⟩
    rw [swapT_eq, if_pos hk]
    have HP := Lib.hid (And.intro hs (And.intro hS hal))
    have hkb : (t.k == 1) = true := by simpa using hk
    clear hs hS hal q3 ih hch hk hl hll
    by_cases hn : t.n = i
    · rw [if_pos hn]
      have hnb : (t.n == i) = true := by simpa using hn
      have hwr : IntKind.i64.wrap (i + 1) = i + 1 := IntWalk.i64_in _ (by omega)
      clear hn
      go_enter Tryd.func14, Tryd.ntmps14
      go_wp2_with fail
      refine bodyPost_ret (v := .agg #[.int .i64 t.k, .int .i64 (i + 1), .slice A t.al.length cap]) (by simp [results, Tryd.results14, go_sem]) rfl ⟨_, rfl, ?_, ?_⟩
      · exact args_nil HP.out.1 HP.out.2.2 rfl
      · exact ((Below.refl _ _).alloc (Nat.le_refl _) _).alloc (by simp) _
    · rw [if_neg hn]
      have hnb : (t.n == i) = false := by simpa using hn
      have hwr : IntKind.i64.wrap (i + 1) = i + 1 := IntWalk.i64_in _ (by omega)
      clear hn
      by_cases hn1 : t.n = i + 1
      · rw [if_pos hn1]
        have hnb1 : (t.n == i + 1) = true := by simpa using hn1
        clear hn1
        go_enter Tryd.func14, Tryd.ntmps14
        go_wp2_with fail
        refine bodyPost_ret (v := .agg #[.int .i64 t.k, .int .i64 i, .slice A t.al.length cap]) (by simp [results, Tryd.results14, go_sem]) rfl ⟨_, rfl, ?_, ?_⟩
        · exact args_nil HP.out.1 HP.out.2.2 rfl
        · exact ((Below.refl _ _).alloc (Nat.le_refl _) _).alloc (by simp) _
      · rw [if_neg hn1]
        have hnb1 : (t.n == i + 1) = false := by simpa using hn1
        clear hn1
        go_enter Tryd.func14, Tryd.ntmps14
        go_wp2_with fail
        refine bodyPost_ret (v := .agg #[.int .i64 t.k, .int .i64 t.n, .slice A t.al.length cap]) (by simp [results, Tryd.results14, go_sem]) rfl ⟨_, rfl, ?_, ?_⟩
        · exact args_nil HP.out.1 HP.out.2.2 rfl
        · exact ((Below.refl _ _).alloc (Nat.le_refl _) _).alloc (by simp) _
  · rw [swapT_args hk hl]
    have hkb : (t.k == 1) = false := by simpa using hk
    have Q3 := Lib.hid q3
    have HL := Lib.hid hl
    have HLL := Lib.hid hll
    have IH := Lib.hid ih
    have HCH := Lib.hid hch
    have HS := Lib.hid hS
    have hl4 := shape_len4 hl
    clear hs hS q3 ih hch hk hl hll
    go_enter Tryd.func14, Tryd.ntmps14
    go_wp2_with fail
    refine (shape_any _ _).mono ?_
    rintro e wb ⟨rfl, hbb⟩
    obtain ⟨x1, -, x3⟩ := shape_text HL.out
    have X1 := Lib.hid x1
    have X3 := Lib.hid x3
    have hS4 : (shapeText t.k).size ≤ 4 := by rw [x1]; exact hl4
    clear x1 x3
    generalize shapeText t.k = ST at *
    obtain ⟨hBt, hBr, hb0, hsz0⟩ := two_box hbb
    obtain ⟨⟨t0, t1, t2⟩, -⟩ := hBt.tri
    have HB := Lib.hid (And.intro hBt hBr)
    clear hBt hBr hbb
    go_wp2_with fail
    have hrow0 := RowS.nil wb S wb.heap.size
    go_loopw [6, 33] (fun v iv wr => ∃ j : Nat, j ≤ t.al.length ∧ iv = .int .i64 j ∧ RowS wr S wb.heap.size v ((swapL t.al l i).take j) ∧ Below wb.heap.size wb wr) (fun _ iv _ => t.al.length - (intOf iv).toNat)
    case atStart => exact ⟨0, by omega, rfl, hrow0, Below.refl _ _⟩
    case round =>
      obtain ⟨j, hj, rfl, hrow, hb⟩ := hrel
      by_cases hlt : j < t.al.length
      · obtain ⟨x, hx⟩ := length_getElem hlt
        have hlt' : j < l.length := by rw [← HLL.out]; exact hlt
        obtain ⟨y, hy⟩ := length_getElem hlt'
        have hy2 : y ≤ 2 := shape_le HL.out y (List.mem_of_getElem? hy)
        obtain ⟨b, off, hA, hSb, hc⟩ := Q3.out (by intro e; rw [e] at hx; simp at hx)
        subst hA
        obtain ⟨A1, cap1, c1, c2, c3, c4⟩ := hc.at_ hx
        have hbw : Below w.heap.size w wr := hb0.trans (hb.mono hb0.size)
        have hbS := HS.out b hSb
        rw [← hbw.cell (p := ⟨b, _, none⟩) hbS] at c1 c2 c3
        obtain ⟨hi, hch⟩ := X3.out j y hy
        have hw8 : IntKind.u8.wrap (48 + (y : Int) - 48) = (y : Int) := by
          have h1 : IntKind.u8.wrap (48 + (y : Int) - 48) = IntKind.u8.wrap (y : Int) := by congr 1; omega
          rw [h1]
          have : y = 0 ∨ y = 1 ∨ y = 2 := by omega
          rcases this with h | h | h <;> subst h <;> rfl
        have hw64 : IntKind.i64.wrap (y : Int) = (y : Int) := IntWalk.i64_in _ (by omega)
        obtain ⟨AV, capV, hV⟩ := hrow.form
        rw [List.length_take, swapL_len, Nat.min_eq_left (by omega)] at hV
        have hVlt := hrow.lt
        have hat := swapL_at hx hy (i := i)
        have hxm := List.mem_of_getElem? hx
        have HROW := Lib.hid hrow
        have HAT := Lib.hid hat
        have HVL := Lib.hid hVlt
        subst hV
        have hb1 : Below wr.heap.size wr (wr.alloc (.cells #[.int .i64 x.k, .int .i64 x.n, .slice A1 x.al.length cap1] 24)) := (Below.refl _ _).alloc (Nat.le_refl _) _
        have hw1 := hbw.trans (hb1.mono hbw.size)
        have hih := IH.out x (i + (y : Nat)) (wr.alloc (.cells #[.int .i64 x.k, .int .i64 x.n, .slice A1 x.al.length cap1] 24)).drew _ (HCH.out x hxm) (c4.keep (fun _ h => h) (fun p hp => hw1.drew.cell (HS.out _ hp))) (fun b hb => Nat.lt_of_lt_of_le (HS.out b hb) hw1.size) (by omega) (by omega)
        obtain ⟨⟨p0, p1, p2⟩, -⟩ := (Blk.new wr 24 #[.int .i64 x.k, .int .i64 x.n, .slice A1 x.al.length cap1]).tri
        have hG : wr.heap.size < (wr.alloc (.cells #[.int .i64 x.k, .int .i64 x.n, .slice A1 x.al.length cap1] 24)).heap.size := by simp
        have HIH := Lib.hid hih
        have HB1 := Lib.hid hb1.drew
        have HG := Lib.hid hG
        have HSB := Lib.hid (fun b (hb : S b) => Nat.lt_of_lt_of_le (HS.out b hb) (show w.heap.size ≤ wb.heap.size by omega))
        have HBZ := Lib.hid hb.size
        have HLEN := Lib.hid (show ((swapL t.al l i).take j).length ≤ 2000000000 by rw [List.length_take]; omega)
        clear hrow hat hx hy hc hVlt hih hb1 hw1 hG
        go_wp2_with fail
        generalize wr.alloc (.cells #[.int .i64 x.k, .int .i64 x.n, .slice A1 x.al.length cap1] 24) = w1 at *
        clear c1 c2 c3 c4
        have hwr : IntKind.i64.wrap (i + (y : Int)) = i + (y : Int) := IntWalk.i64_in _ (by omega)
        go_region_held3 (fun w' => w'.cell? ⟨wr.heap.size, 0, none⟩ = some (.int .i64 x.k) ∧ w'.cell? ⟨wr.heap.size, 1, none⟩ = some (.int .i64 x.n) ∧ w'.cell? ⟨wr.heap.size, 2, none⟩ = some (.slice A1 x.al.length cap1)) (go_keep)
          (first
            | ((with_reducible refine (HIH.out).mono ?_); rintro e w2 ⟨s2, rfl, hx2, hb2⟩; (obtain ⟨A2, cap2, rfl, -⟩ := argsInS_iff.1 hx2); (have k0 := (hb2.cell (p := ⟨wr.heap.size, 0, none⟩) HG.out : _ = w1.cell? _).trans p0); (have k1 := (hb2.cell (p := ⟨wr.heap.size, 1, none⟩) HG.out : _ = w1.cell? _).trans p1); (have k2 := (hb2.cell (p := ⟨wr.heap.size, 2, none⟩) HG.out : _ = w1.cell? _).trans p2); (have HX2 := Lib.hid hx2); (have HB2 := Lib.hid hb2); (have HRC := Lib.hid (row_call HROW.out HSB.out HBZ.out HB1.out hb2 hx2 (.cells #[.int .i64 (swapT x (i + (y : Nat))).k, .int .i64 (swapT x (i + (y : Nat))).n, .slice A2 (swapT x (i + (y : Nat))).al.length cap2] 24))); (have hG2 := Nat.lt_of_lt_of_le HG.out hb2.size); clear hx2 hb2)
            | ((refine step_append_term _ rfl (.tmp 38) (.tmp 48) rfl S wb.heap.size HSB.out HRC.out.2.2 (.slice AV j capV) ((swapL t.al l i).take j) rfl HRC.out.1 HLEN.out (swapT x (i + (y : Nat))) (.slice A2 (swapT x (i + (y : Nat))).al.length cap2) HRC.out.2.1 ⟨w2.heap.size, 0, none⟩ 1 rfl (new_term w2 (.int .i64 (swapT x (i + (y : Nat))).k) (.int .i64 (swapT x (i + (y : Nat))).n) (.slice A2 (swapT x (i + (y : Nat))).al.length cap2) 24 w2.heap.size rfl) ?_); intro V' w4 hrow4 hg4 _; (have HR4 := Lib.hid hrow4); (have HE4 := Lib.hid (row_end HROW.out hb HB1.out HB2.out hg4)); (have x0 := hg4.cell (a := ⟨wr.heap.size, 0, none⟩) ((World.cell?_alloc_lt _ _ _ hG2).trans k0) (fun e => Nat.lt_irrefl _ (HVL.out _ e.symm).2)); (have x1 := hg4.cell (a := ⟨wr.heap.size, 1, none⟩) ((World.cell?_alloc_lt _ _ _ hG2).trans k1) (fun e => Nat.lt_irrefl _ (HVL.out _ e.symm).2)); (have x2 := hg4.cell (a := ⟨wr.heap.size, 2, none⟩) ((World.cell?_alloc_lt _ _ _ hG2).trans k2) (fun e => Nat.lt_irrefl _ (HVL.out _ e.symm).2)); clear hrow4 hg4)
            | fail)
        clear hwr
        obtain ⟨AV4, capV4, hV4⟩ := HR4.out.form
        subst hV4
        go_wp2_with fail
        go_roundw
        case rel => exact ⟨j + 1, by omega, by go_num, by rw [take_snoc_at HAT.out]; exact HR4.out, HE4.out⟩
        case measure => simp [intOf]; omega
      · obtain rfl : j = t.al.length := by omega
        obtain ⟨AV, capV, hV⟩ := hrow.form
        have hfull : (swapL t.al l i).take t.al.length = swapL t.al l i := List.take_of_length_le (by rw [swapL_len]; exact Nat.le_refl _)
        rw [hfull] at hrow hV
        rw [swapL_len] at hV
        have HROW := Lib.hid hrow
        subst hV
        obtain ⟨hBt, hBr⟩ := HB.out
        have hBt2 := hBt.below hb (by omega)
        have hBr2 := hBr.below hb (by omega)
        have hbw : Below w.heap.size w wr := hb0.trans (hb.mono hb0.size)
        obtain ⟨⟨d0, d1, d2⟩, e0, e1, e2⟩ := hBt2.tri
        obtain ⟨⟨r0, r1, r2⟩, g0, g1, g2⟩ := hBr2.tri
        have HBZ := Lib.hid hb.size
        have hgr : w.heap.size + 1 < wr.heap.size := by have := hb.size; omega
        clear hrow hfull hBt hBr hBt2 hBr2 t0 t1 t2
        go_wp2_with fail
        refine bodyPost_ret (v := .agg #[.int .i64 t.k, .int .i64 t.n, .slice AV t.al.length capV]) (by simp [results, Tryd.results14, go_sem, r0, r1, r2, d0, d1, d2]) rfl ⟨_, rfl, (each_end HROW.out HS.out hbw hsz0 HBZ.out).1, (each_end (k := t.k) (n := t.n) HROW.out HS.out hbw hsz0 HBZ.out).2⟩

end Go.Proofs.YtjboibbgigkhkaaDoor
