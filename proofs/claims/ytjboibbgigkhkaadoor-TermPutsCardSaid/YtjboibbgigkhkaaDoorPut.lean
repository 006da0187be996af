/- term.Put: each, with the function that puts a term in a variable's place. -/
import Derived.Test.YtjboibbgigkhkaaDoorLift
namespace Go.Proofs.YtjboibbgigkhkaaDoor
open Go.RowKit
set_option maxRecDepth 100000

/-- the box of the term that is put -/
def Ubox (w : World) (S : Nat → Prop) (B : Nat) (u : T) (A : Option Addr) (cap : Nat) : Prop :=
  (w.cell? ⟨B, 0, none⟩ = some (.int .i64 u.k) ∧ w.cell? ⟨B, 1, none⟩ = some (.int .i64 u.n) ∧ w.cell? ⟨B, 2, none⟩ = some (.slice A u.al.length cap)) ∧ B < w.heap.size ∧ argsInS w S u (.slice A u.al.length cap)
theorem Ubox.below {w w' : World} {S : Nat → Prop} {B : Nat} {u : T} {A : Option Addr} {cap : Nat} (h : Ubox w S B u A cap) (hS : ∀ b, S b → b < w.heap.size) (hb : Below w.heap.size w w') : Ubox w' S B u A cap :=
  ⟨⟨(hb.cell (p := ⟨B, 0, none⟩) h.2.1).trans h.1.1, (hb.cell (p := ⟨B, 1, none⟩) h.2.1).trans h.1.2.1, (hb.cell (p := ⟨B, 2, none⟩) h.2.1).trans h.1.2.2⟩, Nat.lt_of_lt_of_le h.2.1 hb.size, h.2.2.keep (fun _ h => h) (fun p hp => hb.cell (hS _ hp))⟩

set_option maxHeartbeats 400000 in
theorem put1_any (S : Nat → Prop) (M : Int) (hM : M ≤ 1000000000000) (fu : Nat) (u : T) (hu : okT M fu u) (hfu : 2 * fu ≤ 1000000000000) (AU : Option Addr) (capU B : Nat) (t : T) (i : Int) (A : Option Addr) (cap : Nat) (w : World)
    (hB : Ubox w S B u AU capU) (hS : ∀ b, S b → b < w.heap.size) (hs : argsInS w S t (.slice A t.al.length cap)) (hk : t.k = 1) (hal : t.al = []) (hi : 0 ≤ i) (hn : i ≤ t.n) (h1 : t.n ≤ 1000000000000) :
    Calls Tryd.prog 29 #[.agg #[.int .i64 t.k, .int .i64 t.n, .slice A t.al.length cap], .int .i64 i, .pointer (some ⟨B, 0, none⟩)] w (TermPost (putT u t i) S w) := by
  have HP := Lib.hid (And.intro hs (And.intro hS (And.intro hal (And.intro hu hB))))
  obtain ⟨⟨b0, b1, b2⟩, hBl, -⟩ := hB
  clear hs hS hu
  by_cases he : t.n = i
  · rw [putT_at hk he]
    have heb : (t.n == i) = true := by simpa using he
    clear hal hk he
    go_enter Tryd.func29, Tryd.ntmps29
    go_wp2_with fail
    have hb0 := ((Below.refl w.heap.size w).alloc (Nat.le_refl _) (.cells #[.int .i64 t.k, .int .i64 t.n, .slice A t.al.length cap] 24)).alloc (by simp) (.cells #[.int .i64 0, .int .i64 0, .slice none 0 0] 24)
    refine (lift_any S i 0 hi (by omega) M hM fu u _ _ HP.out.2.2.2.1 (HP.out.2.2.2.2.below HP.out.2.1 hb0).2.2 (fun b hb => Nat.lt_of_lt_of_le (HP.out.2.1 b hb) hb0.size) (Int.le_refl _) (by omega)).mono ?_
    rintro e w1 ⟨s1, rfl, hx, hb1⟩
    have hr := (Blk.new (w.alloc (.cells #[.int .i64 t.k, .int .i64 t.n, .slice A t.al.length cap] 24)) 24 #[.int .i64 0, .int .i64 0, .slice none 0 0]).below hb1 (by simp)
    have hr' : Blk w1 (w.heap.size + 1) 24 #[.int .i64 0, .int .i64 0, .slice none 0 0] := by simpa using hr
    obtain ⟨⟨d0, d1, d2⟩, e0, e1, e2⟩ := hr'.tri
    obtain ⟨A1, cap1, rfl, -⟩ := argsInS_iff.1 hx
    have hb2 := hb0.trans (hb1.mono hb0.size)
    have HX := Lib.hid hx
    have HB := Lib.hid hb2
    have hsz := hb1.size
    simp at hsz
    clear hb0 hb1 hb2 hr hr' hx b0 b1 b2
    go_wp2_with fail
    refine bodyPost_ret (v := .agg #[.int .i64 (liftT i u 0).k, .int .i64 (liftT i u 0).n, .slice A1 (liftT i u 0).al.length cap1]) (by simp [results, Tryd.results29, go_sem, d0, d1, d2]) rfl
      ⟨_, rfl, (term_out HX.out HP.out.2.1 (by omega) (by simp) HB.out).1, (term_out HX.out HP.out.2.1 (by omega) (by simp) HB.out).2⟩
  · rw [putT_over hk (by omega)]
    clear hal hk
    have hne : (t.n == i) = false := by simpa using he
    have hwr : IntKind.i64.wrap (t.n - 1) = t.n - 1 := IntWalk.i64_in _ (by omega)
    go_enter Tryd.func29, Tryd.ntmps29
    go_wp2_with fail
    refine bodyPost_ret (v := .agg #[.int .i64 t.k, .int .i64 (t.n - 1), .slice A t.al.length cap]) (by simp [results, Tryd.results29, go_sem]) rfl ⟨_, rfl, ?_, ?_⟩
    · exact args_nil HP.out.1 HP.out.2.2.1 rfl
    · exact ((Below.refl _ _).alloc (Nat.le_refl _) _).alloc (by simp) _

set_option maxHeartbeats 1600000 in
theorem each_put (S : Nat → Prop) (M : Int) (hM : M ≤ 1000000000000) (fu : Nat) (u : T) (hu : okT M fu u) (hfu : 2 * fu ≤ 1000000000000) (AU : Option Addr) (capU B : Nat) : ∀ (f : Nat) (t : T) (i : Int) (w : World) (s : Value), okT M f t → argsInS w S t s → (∀ b, S b → b < w.heap.size) → 0 ≤ i → i + 2 * f ≤ 1000000000000 →
    Ubox w S B u AU capU →
    Calls Tryd.prog 26 #[.agg #[.int .i64 t.k, .int .i64 t.n, s], .int .i64 i, .func (.func 29) #[] #[.pointer (some ⟨B, 0, none⟩)]] w (TermPost (putT u t i) S w) := by
  intro f
  induction f with
  | zero => intro t i w s h; exact h.elim
  | succ f ih =>
  intro t i w s hok hs hS hi0 hi1 hcB
  obtain ⟨A, cap, rfl, q1, q2, q3⟩ := argsInS_iff.1 hs
  obtain ⟨hn0, hn1, ⟨l, hl, hll⟩, hch⟩ := hok
  unfold maxLen at q2
  by_cases hk : t.k = 1
  · have hal := shape_one_nil hk ⟨l, hl, hll⟩
    by_cases hn : i ≤ t.n
    · have HP := Lib.hid (And.intro hs (And.intro hS (And.intro hal (And.intro hk hcB))))
      have hkb : (t.k == 1) = true := by simpa using hk
      have hnb : decide (i ≤ t.n) = true := by simpa using hn
      clear hs hS hal q3 ih hch hk hl hll hcB
      go_enter Tryd.func26, Tryd.ntmps26
      go_wp2_with fail
      have hb0 := ((Below.refl w.heap.size w).alloc (Nat.le_refl _) (.cells #[.int .i64 t.k, .int .i64 t.n, .slice A t.al.length cap] 24)).alloc (by simp) (.cells #[.int .i64 0, .int .i64 0, .slice none 0 0] 24)
      with_reducible refine (put1_any S M hM fu u hu hfu AU capU B t i A cap _ (HP.out.2.2.2.2.below HP.out.2.1 hb0) (fun b hb => Nat.lt_of_lt_of_le (HP.out.2.1 b hb) hb0.size) (HP.out.1.keep (fun _ h => h) (fun p hp => hb0.cell (HP.out.2.1 _ hp))) HP.out.2.2.2.1 HP.out.2.2.1 hi0 hn (by omega)).mono ?_
      rintro e w1 ⟨s1, rfl, hx, hb1⟩
      obtain ⟨A1, cap1, rfl, -⟩ := argsInS_iff.1 hx
      have hb2 := hb0.trans (hb1.mono hb0.size)
      obtain ⟨hBt, hBr, -, hsz0⟩ := two_box hb1
      obtain ⟨⟨d0, d1, d2⟩, e0, e1, e2⟩ := hBr.tri
      have HX := Lib.hid hx
      have HB := Lib.hid hb2
      clear hb1 hb0 hb2 hx
      go_wp2_with fail
      refine bodyPost_ret (v := .agg #[.int .i64 (putT u t i).k, .int .i64 (putT u t i).n, .slice A1 (putT u t i).al.length cap1]) (by simp [results, Tryd.results26, go_sem, d0, d1, d2]) rfl
        ⟨_, rfl, (term_out HX.out HP.out.2.1 (by omega) (by simp) HB.out).1, (term_out HX.out HP.out.2.1 (by omega) (by simp) HB.out).2⟩
    · rw [putT_low hk hn]
      have HP := Lib.hid (And.intro hs (And.intro hS hal))
      have hkb : (t.k == 1) = true := by simpa using hk
      have hnb : decide (i ≤ t.n) = false := by simpa using hn
      clear hs hS hal q3 ih hch hk hl hll
      go_enter Tryd.func26, Tryd.ntmps26
      go_wp2_with fail
      refine bodyPost_ret (v := .agg #[.int .i64 t.k, .int .i64 t.n, .slice A t.al.length cap]) (by simp [results, Tryd.results26, go_sem]) rfl ⟨_, rfl, ?_, ?_⟩
      · exact args_nil HP.out.1 HP.out.2.2 rfl
      · exact ((Below.refl _ _).alloc (Nat.le_refl _) _).alloc (by simp) _
  · rw [putT_args hk hl]
    have hkb : (t.k == 1) = false := by simpa using hk
    have Q3 := Lib.hid q3
    have HL := Lib.hid hl
    have HLL := Lib.hid hll
    have IH := Lib.hid ih
    have HCH := Lib.hid hch
    have HS := Lib.hid hS
    have HCB := Lib.hid hcB
    have hl4 := shape_len4 hl
    clear hs hS q3 ih hch hk hl hll hcB
    go_enter Tryd.func26, Tryd.ntmps26
    go_wp2_with fail
    refine (binds_of HL.out _).mono ?_
    rintro e wb ⟨LA, lcap, rfl, hli, hbb⟩
    obtain ⟨hBt, hBr, hb0, hsz0⟩ := two_box hbb
    obtain ⟨⟨t0, t1, t2⟩, -⟩ := hBt.tri
    have HLI := Lib.hid hli
    have HB := Lib.hid (And.intro hBt hBr)
    clear hli hBt hBr hbb
    go_wp2_with fail
    have hrow0 := RowS.nil wb S wb.heap.size
    go_loopw [9, 33] (fun v iv wr => ∃ j : Nat, j ≤ t.al.length ∧ iv = .int .i64 j ∧ RowS wr S wb.heap.size v ((putL u t.al l i).take j) ∧ Below wb.heap.size wb wr) (fun _ iv _ => t.al.length - (intOf iv).toNat)
    case atStart => exact ⟨0, by omega, rfl, hrow0, Below.refl _ _⟩
    case round =>
      obtain ⟨j, hj, rfl, hrow, hb⟩ := hrel
      by_cases hlt : j < t.al.length
      · obtain ⟨x, hx⟩ := length_getElem hlt
        have hlt' : j < l.length := by rw [← HLL.out]; exact hlt
        obtain ⟨y, hy⟩ := length_getElem hlt'
        have hy2 : y ≤ 2 := shape_le HL.out y (List.mem_of_getElem? hy)
        obtain ⟨b, off, hA, hSb, hc⟩ := Q3.out (by intro e; rw [e] at hx; simp at hx)
        subst hA
        obtain ⟨A1, cap1, c1, c2, c3, c4⟩ := hc.at_ hx
        have hbw : Below w.heap.size w wr := hb0.trans (hb.mono hb0.size)
        have hbS := HS.out b hSb
        rw [← hbw.cell (p := ⟨b, _, none⟩) hbS] at c1 c2 c3
        obtain ⟨LA', lcap', hle, hlc⟩ := HLI.out
        obtain ⟨lb, loff, hLA, hlb, lc⟩ := hlc j y hy
        cases hle
        subst hLA
        rw [← hb.cell (p := ⟨lb, _, none⟩) hlb] at lc
        obtain ⟨AV, capV, hV⟩ := hrow.form
        rw [List.length_take, putL_len, Nat.min_eq_left (by omega)] at hV
        have hVlt := hrow.lt
        have hlb2 : lb < wr.heap.size := Nat.lt_of_lt_of_le hlb hb.size
        have hat := putL_at u hx hy (i := i)
        have hxm := List.mem_of_getElem? hx
        have HROW := Lib.hid hrow
        have HAT := Lib.hid hat
        have HVL := Lib.hid hVlt
        subst hV
        have hb1 : Below wr.heap.size wr (wr.alloc (.cells #[.int .i64 x.k, .int .i64 x.n, .slice A1 x.al.length cap1] 24)) := (Below.refl _ _).alloc (Nat.le_refl _) _
        have hw1 := hbw.trans (hb1.mono hbw.size)
        have hih := IH.out x (i + (y : Nat)) (wr.alloc (.cells #[.int .i64 x.k, .int .i64 x.n, .slice A1 x.al.length cap1] 24)).drew _ (HCH.out x hxm) (c4.keep (fun _ h => h) (fun p hp => hw1.drew.cell (HS.out _ hp))) (fun b hb => Nat.lt_of_lt_of_le (HS.out b hb) hw1.size) (by omega) (by omega) (HCB.out.below HS.out hw1.drew)
        have lc1 := (hb1.cell (p := ⟨lb, _, none⟩) hlb2).trans lc
        obtain ⟨⟨p0, p1, p2⟩, -⟩ := (Blk.new wr 24 #[.int .i64 x.k, .int .i64 x.n, .slice A1 x.al.length cap1]).tri
        have hG : wr.heap.size < (wr.alloc (.cells #[.int .i64 x.k, .int .i64 x.n, .slice A1 x.al.length cap1] 24)).heap.size := by simp
        have HIH := Lib.hid hih
        have HB1 := Lib.hid hb1.drew
        have HG := Lib.hid hG
        have HSB := Lib.hid (fun b (hb : S b) => Nat.lt_of_lt_of_le (HS.out b hb) (show w.heap.size ≤ wb.heap.size by omega))
        have HBZ := Lib.hid hb.size
        have hlb3 : lb < (wr.alloc (.cells #[.int .i64 x.k, .int .i64 x.n, .slice A1 x.al.length cap1] 24)).heap.size := Nat.lt_of_lt_of_le hlb2 HB1.out.size
        have HLB := Lib.hid hlb3
        have HLB0 := Lib.hid hlb
        have HLEN := Lib.hid (show ((putL u t.al l i).take j).length ≤ 2000000000 by rw [List.length_take]; omega)
        clear hrow hat hx hy hc hlc hVlt hih hb1 hw1 hG hlb3 lc
        go_wp2_with fail
        generalize wr.alloc (.cells #[.int .i64 x.k, .int .i64 x.n, .slice A1 x.al.length cap1] 24) = w1 at *
        clear c1 c2 c3 c4
        have hwr : IntKind.i64.wrap (i + (y : Int)) = i + (y : Int) := IntWalk.i64_in _ (by omega)
        go_region_held3 (fun w' => w'.cell? ⟨wr.heap.size, 0, none⟩ = some (.int .i64 x.k) ∧ w'.cell? ⟨wr.heap.size, 1, none⟩ = some (.int .i64 x.n) ∧ w'.cell? ⟨wr.heap.size, 2, none⟩ = some (.slice A1 x.al.length cap1) ∧ w'.cell? ⟨lb, loff + j, none⟩ = some (.int .i64 (y : Nat))) (go_keep)
          (first
            | ((with_reducible refine (HIH.out).mono ?_); rintro e w2 ⟨s2, rfl, hx2, hb2⟩; (obtain ⟨A2, cap2, rfl, -⟩ := argsInS_iff.1 hx2); (have k0 := (hb2.cell (p := ⟨wr.heap.size, 0, none⟩) HG.out : _ = w1.cell? _).trans p0); (have k1 := (hb2.cell (p := ⟨wr.heap.size, 1, none⟩) HG.out : _ = w1.cell? _).trans p1); (have k2 := (hb2.cell (p := ⟨wr.heap.size, 2, none⟩) HG.out : _ = w1.cell? _).trans p2); (have k3 := (hb2.cell (p := ⟨lb, loff + j, none⟩) HLB.out : _ = w1.cell? _).trans lc1); (have HX2 := Lib.hid hx2); (have HB2 := Lib.hid hb2); (have HRC := Lib.hid (row_call HROW.out HSB.out HBZ.out HB1.out hb2 hx2 (.cells #[.int .i64 (putT u x (i + (y : Nat))).k, .int .i64 (putT u x (i + (y : Nat))).n, .slice A2 (putT u x (i + (y : Nat))).al.length cap2] 24))); (have hG2 := Nat.lt_of_lt_of_le HG.out hb2.size); (have hL2 := Nat.lt_of_lt_of_le HLB.out hb2.size); clear hx2 hb2)
            | ((refine step_append_term _ rfl (.tmp 38) (.tmp 48) rfl S wb.heap.size HSB.out HRC.out.2.2 (.slice AV j capV) ((putL u t.al l i).take j) rfl HRC.out.1 HLEN.out (putT u x (i + (y : Nat))) (.slice A2 (putT u x (i + (y : Nat))).al.length cap2) HRC.out.2.1 ⟨w2.heap.size, 0, none⟩ 1 rfl (new_term w2 (.int .i64 (putT u x (i + (y : Nat))).k) (.int .i64 (putT u x (i + (y : Nat))).n) (.slice A2 (putT u x (i + (y : Nat))).al.length cap2) 24 w2.heap.size rfl) ?_); intro V' w4 hrow4 hg4 _; (have HR4 := Lib.hid hrow4); (have HE4 := Lib.hid (row_end HROW.out hb HB1.out HB2.out hg4)); (have x0 := hg4.cell (a := ⟨wr.heap.size, 0, none⟩) ((World.cell?_alloc_lt _ _ _ hG2).trans k0) (fun e => Nat.lt_irrefl _ (HVL.out _ e.symm).2)); (have x1 := hg4.cell (a := ⟨wr.heap.size, 1, none⟩) ((World.cell?_alloc_lt _ _ _ hG2).trans k1) (fun e => Nat.lt_irrefl _ (HVL.out _ e.symm).2)); (have x2 := hg4.cell (a := ⟨wr.heap.size, 2, none⟩) ((World.cell?_alloc_lt _ _ _ hG2).trans k2) (fun e => Nat.lt_irrefl _ (HVL.out _ e.symm).2)); (have x3 := hg4.cell (a := ⟨lb, loff + j, none⟩) ((World.cell?_alloc_lt _ _ _ hL2).trans k3) (fun e => Nat.lt_irrefl _ (Nat.lt_of_lt_of_le HLB0.out (HVL.out _ e.symm).1))); clear hrow4 hg4)
            | fail)
        clear hwr
        obtain ⟨AV4, capV4, hV4⟩ := HR4.out.form
        subst hV4
        go_wp2_with fail
        go_roundw
        case rel => exact ⟨j + 1, by omega, by go_num, by rw [take_snoc_at HAT.out]; exact HR4.out, HE4.out⟩
        case measure => simp [intOf]; omega
      · obtain rfl : j = t.al.length := by omega
        obtain ⟨AV, capV, hV⟩ := hrow.form
        have hfull : (putL u t.al l i).take t.al.length = putL u t.al l i := List.take_of_length_le (by rw [putL_len]; exact Nat.le_refl _)
        rw [hfull] at hrow hV
        rw [putL_len] at hV
        have HROW := Lib.hid hrow
        subst hV
        obtain ⟨hBt, hBr⟩ := HB.out
        have hBt2 := hBt.below hb (by omega)
        have hBr2 := hBr.below hb (by omega)
        have hbw : Below w.heap.size w wr := hb0.trans (hb.mono hb0.size)
        obtain ⟨⟨d0, d1, d2⟩, e0, e1, e2⟩ := hBt2.tri
        obtain ⟨⟨r0, r1, r2⟩, g0, g1, g2⟩ := hBr2.tri
        have HBZ := Lib.hid hb.size
        have hgr : w.heap.size + 1 < wr.heap.size := by have := hb.size; omega
        clear hrow hfull hBt hBr hBt2 hBr2 t0 t1 t2
        go_wp2_with fail
        refine bodyPost_ret (v := .agg #[.int .i64 t.k, .int .i64 t.n, .slice AV t.al.length capV]) (by simp [results, Tryd.results26, go_sem, r0, r1, r2, d0, d1, d2]) rfl ⟨_, rfl, (each_end HROW.out HS.out hbw hsz0 HBZ.out).1, (each_end (k := t.k) (n := t.n) HROW.out HS.out hbw hsz0 HBZ.out).2⟩

set_option maxHeartbeats 400000 in
theorem put_any (S : Nat → Prop) (M : Int) (hM : M ≤ 1000000000000) (f fu : Nat) (t u : T) (w : World) (s su : Value) (hok : okT M f t) (hf : 2 * f ≤ 1000000000000) (hu : okT M fu u) (hfu : 2 * fu ≤ 1000000000000) (hs : argsInS w S t s) (hsu : argsInS w S u su) (hS : ∀ b, S b → b < w.heap.size) :
    Calls Tryd.prog 12 #[.agg #[.int .i64 t.k, .int .i64 t.n, s], .agg #[.int .i64 u.k, .int .i64 u.n, su]] w (TermPost (putT u t 0) S w) := by
  obtain ⟨A, cap, rfl, q1, q2, q3⟩ := argsInS_iff.1 hs
  obtain ⟨AU, capU, rfl, r1, r2, r3⟩ := argsInS_iff.1 hsu
  have HP := Lib.hid (And.intro hs (And.intro hS (And.intro hok (And.intro hu hsu))))
  clear hs hS q1 q2 q3 hok r1 r2 r3 hu hsu
  go_enter Tryd.func12, Tryd.ntmps12
  go_wp2_with fail
  have hb0 := (((Below.refl w.heap.size w).alloc (Nat.le_refl _) (.cells #[.int .i64 t.k, .int .i64 t.n, .slice A t.al.length cap] 24)).alloc (by simp) (.cells #[.int .i64 u.k, .int .i64 u.n, .slice AU u.al.length capU] 24)).alloc (by simp; omega) (.cells #[.int .i64 0, .int .i64 0, .slice none 0 0] 24)
  have hU : Ubox (((w.alloc (.cells #[.int .i64 t.k, .int .i64 t.n, .slice A t.al.length cap] 24)).alloc (.cells #[.int .i64 u.k, .int .i64 u.n, .slice AU u.al.length capU] 24)).alloc (.cells #[.int .i64 0, .int .i64 0, .slice none 0 0] 24)) S (w.heap.size + 1) u AU capU := by
    have h := ((Blk.new (w.alloc (.cells #[.int .i64 t.k, .int .i64 t.n, .slice A t.al.length cap] 24)) 24 #[.int .i64 u.k, .int .i64 u.n, .slice AU u.al.length capU]).alloc (.cells #[.int .i64 0, .int .i64 0, .slice none 0 0] 24)).tri.1
    exact ⟨by simpa using h, by simp, HP.out.2.2.2.2.keep (fun _ h => h) (fun p hp => hb0.cell (HP.out.2.1 _ hp))⟩
  refine (each_put S M hM fu u HP.out.2.2.2.1 hfu AU capU (w.heap.size + 1) f t 0 _ _ HP.out.2.2.1 (HP.out.1.keep (fun _ h => h) (fun p hp => hb0.cell (HP.out.2.1 _ hp))) (fun b hb => Nat.lt_of_lt_of_le (HP.out.2.1 b hb) hb0.size) (Int.le_refl _) (by omega) hU).mono ?_
  rintro e w1 ⟨s1, rfl, hx, hb1⟩
  have hr := (Blk.new ((w.alloc (.cells #[.int .i64 t.k, .int .i64 t.n, .slice A t.al.length cap] 24)).alloc (.cells #[.int .i64 u.k, .int .i64 u.n, .slice AU u.al.length capU] 24)) 24 #[.int .i64 0, .int .i64 0, .slice none 0 0]).below hb1 (by simp)
  have hr' : Blk w1 (w.heap.size + 1 + 1) 24 #[.int .i64 0, .int .i64 0, .slice none 0 0] := by simpa using hr
  obtain ⟨⟨d0, d1, d2⟩, e0, e1, e2⟩ := hr'.tri
  obtain ⟨A1, cap1, rfl, -⟩ := argsInS_iff.1 hx
  have hb2 := hb0.trans (hb1.mono hb0.size)
  have HX := Lib.hid hx
  have HB := Lib.hid hb2
  have hsz := hb1.size
  simp at hsz
  clear hb0 hb1 hb2 hr hr' hx hU
  go_wp2_with fail
  refine bodyPost_ret (v := .agg #[.int .i64 (putT u t 0).k, .int .i64 (putT u t 0).n, .slice A1 (putT u t 0).al.length cap1]) (by simp [results, Tryd.results12, go_sem, d0, d1, d2]) rfl
    ⟨_, rfl, (term_out HX.out HP.out.2.1 (by omega) (by simp) HB.out).1, (term_out HX.out HP.out.2.1 (by omega) (by simp) HB.out).2⟩
end Go.Proofs.YtjboibbgigkhkaaDoor
