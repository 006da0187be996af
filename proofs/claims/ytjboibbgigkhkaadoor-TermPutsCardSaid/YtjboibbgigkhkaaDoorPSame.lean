/- term.Same: slices.EqualFunc over the arguments, with itself. -/
import Derived.Test.YtjboibbgigkhkaaDoorSame
import Derived.IntWalk
namespace Go.Proofs.YtjboibbgigkhkaaDoor
set_option maxRecDepth 100000
open Go.RowKit

/-- two boxes above, made anew: what lay below stands -/
theorem two_new {w wr w2 : World} {o o' : Obj} (hb : Below w.heap.size w wr) (h2 : Below ((wr.alloc o).alloc o').heap.size ((wr.alloc o).alloc o') w2) : Below w.heap.size w w2 :=
  ((hb.alloc hb.size o).alloc (by have := hb.size; simp; omega) o').trans (h2.mono (by have := hb.size; simp; omega))

set_option maxHeartbeats 1000000 in
theorem eqfunc_any (al : List T) (ih : ∀ x ∈ al, ∀ (b : T) (w : World) (s s' : Value), argsIn w w.heap.size x s → argsIn w w.heap.size b s' →
    Calls Tryd.prog 23 #[.agg #[.int .i64 x.k, .int .i64 x.n, s], .agg #[.int .i64 b.k, .int .i64 b.n, s']] w (BoolPost (sameT x b) w))
    (bl : List T) (ka na kb nb : Int) (w : World) (s s' : Value) (hs : argsIn w w.heap.size (.mk ka na al) s) (hs' : argsIn w w.heap.size (.mk kb nb bl) s') :
    Calls Tryd.prog 43 #[s, s', .func (.func 23) #[] #[]] w (BoolPost (al.length == bl.length && sameL al bl) w) := by
  obtain ⟨A, cap, rfl, h1, h2, h3⟩ := argsIn_iff.1 hs
  obtain ⟨A', cap', rfl, h1', h2', h3'⟩ := argsIn_iff.1 hs'
  simp only [T.al] at h1 h3 h1' h3' ⊢
  unfold maxLen at h2 h2'
  have IH := Lib.hid ih
  have H3 := Lib.hid h3
  have H3' := Lib.hid h3'
  clear ih h3 h3' hs hs'
  by_cases cl : al.length = bl.length
  · have HCL := Lib.hid cl
    have clb : ((al.length : Int) != (bl.length : Int)) = false := by simp [cl]
    have HE := Lib.hid (show (al.length == bl.length && sameL al bl) = sameL al bl from by simp [cl])
    clear cl
    go_enter Tryd.func43, Tryd.ntmps43
    go_wp2_with fail
    go_loopw [17] (fun i wr => ∃ k : Nat, k ≤ al.length ∧ i = .int .i64 k ∧ Hid (sameL (al.drop k) (bl.drop k) = sameL al bl) ∧ Below w.heap.size w wr) (fun i _ => al.length - (intOf i).toNat)
    case atStart => exact ⟨0, by omega, rfl, Lib.hid rfl, Below.refl _ _⟩
    case round =>
      obtain ⟨k, hk, rfl, hL, hb⟩ := hrel
      by_cases hlt : k < al.length
      · have hlt' : k < bl.length := by rw [← HCL.out]; exact hlt
        obtain ⟨x, hx⟩ := length_getElem hlt
        obtain ⟨y, hy⟩ := length_getElem hlt'
        obtain ⟨b, off, hA, hbb, hc⟩ := H3.out (by intro e; rw [e] at hx; simp at hx)
        obtain ⟨b', off', hA', hbb', hc'⟩ := H3'.out (by intro e; rw [e] at hy; simp at hy)
        obtain ⟨A1, cap1, c1, c2, c3, c4⟩ := hc.at_ hx
        obtain ⟨A2, cap2, d1, d2, d3, d4⟩ := hc'.at_ hy
        have hb0 := hb.alloc hb.size (.cells #[.int .i64 x.k, .int .i64 x.n, .slice A1 x.al.length cap1] 24)
        have hb1 := hb0.alloc hb0.size (.cells #[.int .i64 y.k, .int .i64 y.n, .slice A2 y.al.length cap2] 24)
        have e1 := (hb0.cell (p := ⟨b', off' + k * 3, none⟩) hbb').trans d1
        have e2 := (hb0.cell (p := ⟨b', off' + k * 3 + 1, none⟩) hbb').trans d2
        have e3 := (hb0.cell (p := ⟨b', off' + k * 3 + 2, none⟩) hbb').trans d3
        rw [← hb.cell (p := ⟨b, _, none⟩) hbb] at c1 c2 c3
        subst hA hA'
        have hxm := List.mem_of_getElem? hx
        have hLs := sameL_step hx hy
        rw [hL.out] at hLs
        have HLS := Lib.hid hLs
        have HCALL := Lib.hid (IH.out x hxm y _ _ _ (c4.keep hb1.size hb1) (d4.keep hb1.size hb1))
        clear hc hc' hx hy hLs hL hb0 hb1
        go_wp2_with fail
        refine HCALL.out.mono ?_
        rintro e w2 ⟨rfl, hb2⟩
        have hb3 := two_new hb hb2
        clear hb2 c1 c2 c3 c4 d1 d2 d3 d4 e1 e2 e3 HCALL
        by_cases hz : sameT x y = true
        · have hLs := HLS.out
          rw [hz, Bool.true_and] at hLs
          have HLs2 := Lib.hid hLs
          clear hLs HLS
          generalize sameT x y = q at *
          subst hz
          go_wp2_with fail
          go_roundw
          case rel => exact ⟨k + 1, by omega, by go_num, Lib.hid HLs2.out.symm, hb3⟩
          case measure => simp [intOf]; omega
        · have hz2 : sameT x y = false := by simpa using hz
          have hLs := HLS.out
          rw [hz2, Bool.false_and] at hLs
          have HLs2 := Lib.hid hLs
          clear HLS hz hLs
          generalize sameT x y = q at *
          subst hz2
          go_wp2_with fail
          go_ret
          exact ⟨by rw [HE.out, HLs2.out]; rfl, hb3⟩
      · obtain rfl : k = al.length := by omega
        have h0 := hL.out
        rw [List.drop_eq_nil_of_le (Nat.le_refl _)] at h0
        have H0 := Lib.hid h0
        clear hL h0
        go_wp2_with fail
        go_ret
        exact ⟨by rw [HE.out, ← H0.out]; rfl, hb⟩
  · have clb : ((al.length : Int) != (bl.length : Int)) = true := by simp; omega
    have HE := Lib.hid (show (al.length == bl.length && sameL al bl) = false from by simp [cl])
    clear cl
    go_enter Tryd.func43, Tryd.ntmps43
    go_wp2_with fail
    go_ret
    exact ⟨by rw [HE.out]; rfl, Below.refl _ _⟩

set_option maxHeartbeats 1000000 in
theorem psame_any (a : T) : ∀ (b : T) (w : World) (s s' : Value), argsIn w w.heap.size a s → argsIn w w.heap.size b s' →
    Calls Tryd.prog 23 #[.agg #[.int .i64 a.k, .int .i64 a.n, s], .agg #[.int .i64 b.k, .int .i64 b.n, s']] w (BoolPost (sameT a b) w) := by
  induction a using T.ind_args with
  | _ a ih =>
  intro b w s s' hs hs'
  obtain ⟨A, cap, rfl, h1, h2, h3⟩ := argsIn_iff.1 hs
  obtain ⟨A', cap', rfl, h1', h2', h3'⟩ := argsIn_iff.1 hs'
  unfold maxLen at h2 h2'
  have hR := sameT_eq a b
  have HSS := Lib.hid (And.intro hs hs')
  have IH := Lib.hid ih
  clear ih h3 h3' hs hs'
  have hbn := ((Below.refl w.heap.size w).alloc (Nat.le_refl _) (.cells #[.int .i64 a.k, .int .i64 a.n, .slice A a.al.length cap] 24)).alloc (by simp) (.cells #[.int .i64 b.k, .int .i64 b.n, .slice A' b.al.length cap'] 24)
  by_cases ck : a.k = b.k
  · have ckb : (a.k == b.k) = true := by simpa using ck
    by_cases cn : a.n = b.n
    · have cnb : (a.n == b.n) = true := by simpa using cn
      have HR := Lib.hid (show sameT a b = (a.al.length == b.al.length && sameL a.al b.al) from by rw [hR, ckb, cnb]; simp)
      have HCALL := Lib.hid (eqfunc_any a.al IH.out b.al a.k a.n b.k b.n _ (.slice A a.al.length cap) (.slice A' b.al.length cap') (by rw [T.eta]; exact HSS.out.1.keep hbn.size hbn) (by rw [T.eta]; exact HSS.out.2.keep hbn.size hbn))
      clear hR ck cn
      go_enter Tryd.func23, Tryd.ntmps23
      go_wp2_with fail
      refine HCALL.out.mono ?_
      rintro e w2 ⟨rfl, hb2⟩
      have hb3 := hbn.trans (hb2.mono hbn.size)
      clear hb2 HCALL
      obtain ⟨q, hq⟩ : ∃ q, (a.al.length == b.al.length && sameL a.al b.al) = q := ⟨_, rfl⟩
      rw [hq]
      have HR2 := Lib.hid (HR.out.trans hq)
      clear hq HR
      go_wp2_with fail
      go_ret
      exact ⟨by rw [HR2.out]; rfl, hb3⟩
    · have cnb : (a.n == b.n) = false := by simpa using cn
      have HR := Lib.hid (show sameT a b = false from by rw [hR, cnb]; simp)
      clear hR ck cn
      go_enter Tryd.func23, Tryd.ntmps23
      go_wp2_with fail
      go_ret
      exact ⟨by rw [HR.out]; rfl, hbn⟩
  · have ckb : (a.k == b.k) = false := by simpa using ck
    have HR := Lib.hid (show sameT a b = false from by rw [hR, ckb]; simp)
    clear hR ck
    go_enter Tryd.func23, Tryd.ntmps23
    go_wp2_with fail
    go_ret
    exact ⟨by rw [HR.out]; rfl, hbn⟩
end Go.Proofs.YtjboibbgigkhkaaDoor
