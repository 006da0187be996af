/- text.Parse: the term of a text, by the program's own reader. -/
import Derived.Test.YtjboibbgigkhkaaDoorPTerm
import Derived.Test.YtjboibbgigkhkaaDoorPWords
import Derived.Test.YtjboibbgigkhkaaDoorPrintP
namespace Go.Proofs.YtjboibbgigkhkaaDoor
open Go.RowKit
set_option maxRecDepth 100000

theorem pbox_new {w : World} {base : Nat} {V D : Value} {l : List Str} (h : w.ownsRow base 9 1 V l.length (strc l)) (hl : l.length ≤ 1000000000000) (hb : 0 < base) :
    ∃ L, PBox (w.alloc (.cells #[V, D, .int .i64 0] 60)) w.heap.size L D ⟨l, 0⟩ := by
  have hs := (Strs.own (R := 0) h hb).any (R' := w.heap.size) (Nat.le_refl _)
  have hB := Blk.new w 60 #[V, D, .int .i64 0]
  have hb0 := (Below.refl w.heap.size w).alloc (Nat.le_refl _) (.cells #[V, D, .int .i64 0] 60)
  rcases id h.2 with ⟨rfl, h0⟩ | ⟨g, cap, cur, rfl, hgb, hh, hle, hm, -⟩
  · have : l = [] := List.eq_nil_of_length_eq_zero h0
    subst this
    exact ⟨w.heap.size, none, 0, hs.but (but_of hb0), ⟨by simp, by simp, fun h => absurd rfl h⟩, hB⟩
  · have hg := (h.lt g rfl).2
    exact ⟨g, _, cap, hs.but (but_of hb0), ⟨hl, by simp; omega, fun _ => ⟨0, rfl⟩⟩, hB⟩

/-- the answer's box is filled, behind the reader's term -/
theorem parse_fin' {w w4 : World} {n lo : Nat} {t : T} {s a b c : Value} (h : argsInS w4 (fun b => lo ≤ b ∧ b < n) t s) (hlo : w.heap.size < lo) (hn : n ≤ w4.heap.size) :
    argsInS (((w4.setCell ⟨w.heap.size, 0, none⟩ a).setCell ⟨w.heap.size, 1, none⟩ b).setCell ⟨w.heap.size, 2, none⟩ c) (orNew nowhere w (((w4.setCell ⟨w.heap.size, 0, none⟩ a).setCell ⟨w.heap.size, 1, none⟩ b).setCell ⟨w.heap.size, 2, none⟩ c)) t s := by
  refine h.keep (fun b hb => .inr ⟨by omega, by simp [World.setCell]; omega⟩) fun p hp => ?_
  have h1 : p.block ≠ w.heap.size := by have := hp.1; omega
  exact World.cell?_of_block (by rw [Below.heap_setCell _ _ _ _ h1, Below.heap_setCell _ _ _ _ h1, Below.heap_setCell _ _ _ _ h1])

set_option maxHeartbeats 400000 in
theorem pparse_any (decls bound : List Str) (s : Str) (w : World) (bv D : Value) (hV : Vars w) (hs : s.length ≤ 1000000000000) (hD : Strs w w.heap.size decls D) (hb : Strs w w.heap.size bound bv)
    (hdl : decls.length ≤ 1000000000000) (hbl : bound.length ≤ 1000000000000) :
    Calls Tryd.prog 19 #[.string ⟨s.toArray⟩, bv, D] w (ParsePost (parse canon decls s bound) w) := by
  obtain ⟨BA, bcap, rfl, -⟩ := id hb
  obtain ⟨DA, dcap, rfl, -⟩ := id hD
  have hblk := Blk.new w 24 #[.int .i64 0, .int .i64 0, .slice none 0 0]
  have hb0 := (Below.refl w.heap.size w).alloc (Nat.le_refl _) (.cells #[.int .i64 0, .int .i64 0, .slice none 0 0] 24)
  by_cases h1 : 1500 < s.length
  · have hp : parse canon decls s bound = (T0, 4) := by unfold parse; rw [if_pos h1]
    rw [hp]
    have h1' : (1500 : Int) < (s.length : Int) := by omega
    clear hp hb hD hV
    go_enter Tryd.func19, Tryd.ntmps19
    go_wp2_with fail
    refine bodyPost_ret (v := .tuple #[.agg #[.int .i64 0, .int .i64 0, .slice none 0 0], .int .i64 4]) (by simp [results, Tryd.results19, go_sem]) rfl ⟨_, rfl, args_none _ _ _ _, ?_⟩
    exact hb0
  · have h1' : ¬ (1500 : Int) < (s.length : Int) := by omega
    by_cases h2 : 8 < bound.length
    · have hp : parse canon decls s bound = (T0, 5) := by unfold parse; rw [if_neg h1, if_pos h2]
      rw [hp]
      have h2' : (8 : Int) < (bound.length : Int) := by omega
      clear hp hb hD hV
      go_enter Tryd.func19, Tryd.ntmps19
      go_wp2_with fail
      refine bodyPost_ret (v := .tuple #[.agg #[.int .i64 0, .int .i64 0, .slice none 0 0], .int .i64 5]) (by simp [results, Tryd.results19, go_sem]) rfl ⟨_, rfl, args_none _ _ _ _, ?_⟩
      exact hb0
    · have h2' : ¬ (8 : Int) < (bound.length : Int) := by omega
      have hpb := parse_body (cn := canon) (decls := decls) h1 h2
      obtain ⟨⟨t, q⟩, hq⟩ : ∃ a, pterm canon decls 24 bound ⟨words s, 0⟩ = a := ⟨_, rfl⟩
      rw [hq] at hpb
      dsimp only at hpb
      have HPB := Lib.hid hpb
      have HQ := Lib.hid hq
      have HB := Lib.hid (And.intro hV (And.intro hD hb))
      have hw8 := hV.1
      have hsl : s.length ≤ 1500 := by omega
      clear hpb hq hb hD hV
      go_enter Tryd.func19, Tryd.ntmps19
      go_wp2_with fail
      refine (pwordsof_any s (by omega) _).mono ?_
      rintro e w1 ⟨V, rfl, hown, hb1⟩
      have hB1 := hblk.below hb1 hblk.lt
      have HB1 := Lib.hid (hb0.trans (hb1.mono hb0.size))
      have hs1 := hb1.size
      simp at hs1
      obtain ⟨L, hL⟩ := pbox_new (D := .slice DA decls.length dcap) hown (Nat.le_trans (words_count s) (by omega)) (by simp)
      have HL := Lib.hid hL
      have hVF : ∃ A cap, V = .slice A (words s).length cap := by
        rcases id hown.2 with ⟨rfl, h0⟩ | ⟨g, cap, cur, rfl, -⟩
        · exact ⟨_, _, by rw [h0]⟩
        · exact ⟨_, _, rfl⟩
      obtain ⟨VA, vcap, rfl⟩ := hVF
      clear hown hL hb1 hb0 hblk
      go_wp2_with fail
      have hb2 := HB1.out.alloc HB1.out.size (.cells #[.slice VA (words s).length vcap, .slice DA decls.length dcap, .int .i64 0] 60)
      have hB2 := hB1.alloc (.cells #[.slice VA (words s).length vcap, .slice DA decls.length dcap, .int .i64 0] 60)
      have hcall := pt_any decls w1.heap.size L DA dcap hdl (by omega) 24 1 bound ⟨words s, 0⟩ _ _ (HB.out.1.below hb2) HL.out ((HB.out.2.1.any (R' := w1.heap.size) (by omega)).but (but_of hb2)) ((HB.out.2.2.any (R' := w1.heap.size) (by omega)).but (but_of hb2))
        (fun x hx => Nat.le_trans (words_len s x hx) (by omega)) (by omega) (by omega) (by omega)
      rw [HQ.out] at hcall
      have HB2 := Lib.hid hb2
      generalize hwg : w1.alloc (.cells #[.slice VA (words s).length vcap, .slice DA decls.length dcap, .int .i64 0] 60) = wg at *
      have hsg : w1.heap.size + 1 = wg.heap.size := by rw [← hwg]; simp
      have HCALL := Lib.hid (show Calls Tryd.prog 39 _ _ (fun e w' => ∃ s, e = .returned (.agg #[.int .i64 t.k, .int .i64 t.n, s]) ∧ argsInS w' (orNew nowhere _ w') t s ∧ PBox w' _ L _ q ∧ But _ _ _ w') from hcall)
      clear hwg hcall hB1 hb2
      refine HCALL.out.mono ?_
      rintro e w2 ⟨s2, rfl, hx, hR2, hbt⟩
      obtain ⟨A2, cap2, rfl, -⟩ := argsInS_iff.1 hx
      have hB2' := hB2.but hbt hB2.lt (by omega)
      have hbw := (but_of (X := w1.heap.size) HB2.out).trans (hbt.mono HB2.out.size)
      have hs2 := hbt.size
      have hx2 : argsInS w2 (fun b => wg.heap.size ≤ b ∧ b < w2.heap.size) t (.slice A2 t.al.length cap2) := hx.keep (fun b hb => hb.elim (fun h => h.elim) (fun h => h)) (fun _ _ => rfl)
      have HX := Lib.hid hx2
      have hRlt := hR2.lt
      have hB3 := hB2'.alloc (.cells #[.int .i64 t.k, .int .i64 t.n, .slice A2 t.al.length cap2] 24)
      have hR3 := hR2.below ((Below.refl w2.heap.size w2).alloc (Nat.le_refl _) (.cells #[.int .i64 t.k, .int .i64 t.n, .slice A2 t.al.length cap2] 24))
      have hT3 := Blk.new w2 24 #[.int .i64 t.k, .int .i64 t.n, .slice A2 t.al.length cap2]
      have hb3 := hbw.alloc hbw.size (.cells #[.int .i64 t.k, .int .i64 t.n, .slice A2 t.al.length cap2] 24)
      have HB3 := Lib.hid hb3
      have HR3 := Lib.hid hR3
      have HX3 := Lib.hid (show argsInS (w2.alloc (.cells #[.int .i64 t.k, .int .i64 t.n, .slice A2 t.al.length cap2] 24)) (fun b => wg.heap.size ≤ b ∧ b < w2.heap.size) t (.slice A2 t.al.length cap2) from HX.out.keep (fun _ h => h) (fun p hp => World.cell?_alloc_lt _ _ _ hp.2))
      obtain ⟨qA, qcap, -, -, hBq⟩ := hR3
      have r2 := hBq.cell 2
      have r0 := hBq.cell 0
      simp only [List.getElem?_toArray, List.getElem?_cons_succ, List.getElem?_cons_zero] at r2 r0
      clear hx hx2 hbw hR2 hbt HCALL hB2 hB2' hb3 hBq HL HX
      by_cases he : q.e = 0
      · have heb : (q.e == 0) = true := by simpa using he
        by_cases hl : q.l = []
        · have hp := HPB.out
          rw [ended_ok hl, if_neg (by simpa using he)] at hp
          have HP := Lib.hid hp
          rw [hl] at r0
          simp only [List.length_nil] at r0
          obtain ⟨⟨t0, t1, t2⟩, -⟩ := hT3.tri
          obtain ⟨⟨d0, d1, d2⟩, e0, e1, e2⟩ := hB3.tri
          have heb3 : (q.e != 0) = false := by simpa using he
          clear hT3 hB3 he hl hp
          go_wp2_with fail
          refine bodyPost_ret (v := .tuple #[.agg #[.int .i64 t.k, .int .i64 t.n, .slice A2 t.al.length cap2], .int .i64 0]) (by simp [results, Tryd.results19, go_sem, d0, d1, d2]) rfl ?_
          rw [HP.out]
          refine ⟨_, rfl, parse_fin' HX3.out (by omega) (by simp), ?_⟩
          exact (((HB3.out.below (Nat.le_refl _) (by omega)).setCell (by simp) _).setCell (by simp) _).setCell (by simp) _
        · have hp := HPB.out
          rw [ended_more he hl, if_pos (by simp)] at hp
          have HP := Lib.hid hp
          have hlen : 0 < q.l.length := by cases h : q.l with
            | nil => exact absurd h hl
            | cons a r => simp
          have hleni : (0 : Int) < (q.l.length : Int) := by omega
          have hff : (q.fail 2).e = 2 := by unfold PS.fail; rw [if_pos he]
          have HFF := Lib.hid hff
          clear hp hl hff he
          go_wp2_with fail
          refine (pfail_any _ _ _ _ q 2 HR3.out).mono ?_
          rintro e w5 ⟨rfl, hR5, hb5⟩
          have hB5 := hB3.but hb5 hB3.lt (by omega)
          have HB5 := Lib.hid (HB3.out.trans (hb5.mono HB3.out.size))
          obtain ⟨qA5, qcap5, -, -, hBq2⟩ := hR5
          have r3 := hBq2.cell 2
          rw [HFF.out] at r3
          simp only [List.getElem?_toArray, List.getElem?_cons_succ, List.getElem?_cons_zero] at r3
          obtain ⟨⟨d0, d1, d2⟩, e0, e1, e2⟩ := hB5.tri
          have hs5 := hb5.size
          simp at hs5
          clear hb5 hB3 hB5 hBq2 r2 r0 hT3
          go_wp2_with fail
          go_region
          all_goals go_wp2_with fail
          all_goals (
            refine bodyPost_ret (v := .tuple #[.agg #[.int .i64 0, .int .i64 0, .slice none 0 0], .int .i64 2]) (by simp [results, Tryd.results19, go_sem, d0, d1, d2]) rfl ?_
            rw [HP.out]
            refine ⟨_, rfl, args_none _ _ _ _, ?_⟩
            exact Below.drew ((((HB5.out.below (Nat.le_refl _) (by omega)).setCell (by simp) _).setCell (by simp) _).setCell (by simp) _))
      · have heb : (q.e == 0) = false := by simpa using he
        have heb2 : (q.e != 0) = true := by simpa using he
        have hp := HPB.out
        rw [ended_err he, if_pos he] at hp
        have HP := Lib.hid hp
        clear hp he
        obtain ⟨⟨d0, d1, d2⟩, e0, e1, e2⟩ := hB3.tri
        clear hB3 hT3
        go_wp2_with fail
        go_region
        all_goals go_wp2_with fail
        all_goals (
          refine bodyPost_ret (v := .tuple #[.agg #[.int .i64 0, .int .i64 0, .slice none 0 0], .int .i64 q.e]) (by simp [results, Tryd.results19, go_sem, d0, d1, d2]) rfl ?_
          rw [HP.out]
          refine ⟨_, rfl, args_none _ _ _ _, ?_⟩
          exact Below.drew ((((HB3.out.below (Nat.le_refl _) (by omega)).setCell (by simp) _).setCell (by simp) _).setCell (by simp) _))
end Go.Proofs.YtjboibbgigkhkaaDoor
