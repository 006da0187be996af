/- Parse of the document's answer: the term of a text. -/
import Derived.Test.YtjboibbgigkhkaaDoorRTerm
namespace Go.Proofs.YtjboibbgigkhkaaDoor
open Go.RowKit
set_option maxRecDepth 100000

theorem Strs.any {w : World} {R R' : Nat} {l : List Str} {v : Value} (h : Strs w R l v) (hR : w.heap.size ≤ R') : Strs w R' l v := by
  obtain ⟨A, cap, h1, h2, h3, h4⟩ := h
  exact ⟨A, cap, h1, h2, h3, fun hne => by
    obtain ⟨b, off, e, hlt, -, hc⟩ := h4 hne
    exact ⟨b, off, e, hlt, by omega, hc⟩⟩

/-- behind Parse: the term, what is wrong -/
def ParsePost (r : T × Int) (w : World) (e : Ending) (w' : World) : Prop :=
  ∃ s, e = .returned (.tuple #[.agg #[.int .i64 r.1.k, .int .i64 r.1.n, s], .int .i64 r.2]) ∧ argsInS w' (orNew nowhere w w') r.1 s ∧ Below w.heap.size w w'

theorem ended_err {p : PS} (h : p.e ≠ 0) : ended p = p := by unfold ended; rw [if_neg (fun h' => h h'.1)]
theorem ended_ok {p : PS} (h : p.l = []) : ended p = p := by unfold ended; rw [if_neg (fun h' => h'.2 h)]
theorem ended_more {p : PS} (h : p.e = 0) (hl : p.l ≠ []) : ended p = ⟨p.l, 2⟩ := by unfold ended; rw [if_pos ⟨h, hl⟩, PS.fail, if_pos h]

theorem parse_body {cn : Str → Option Int} {decls bound : List Str} {s : Str} (h1 : ¬ 1500 < s.length) (h2 : ¬ 8 < bound.length) : parse cn decls s bound =
    if (ended (pterm cn decls 24 bound ⟨words s, 0⟩).2).e ≠ 0 then (T0, (ended (pterm cn decls 24 bound ⟨words s, 0⟩).2).e) else ((pterm cn decls 24 bound ⟨words s, 0⟩).1, 0) := by
  unfold parse
  rw [if_neg h1, if_neg h2]

theorem parse_fin {w w4 : World} {n : Nat} {t : T} {s a b c : Value} (h : argsInS w4 (fun b => w.heap.size + 2 ≤ b ∧ b < n) t s) (hn : n ≤ w4.heap.size) :
    argsInS (((w4.setCell ⟨w.heap.size, 0, none⟩ a).setCell ⟨w.heap.size, 1, none⟩ b).setCell ⟨w.heap.size, 2, none⟩ c) (orNew nowhere w (((w4.setCell ⟨w.heap.size, 0, none⟩ a).setCell ⟨w.heap.size, 1, none⟩ b).setCell ⟨w.heap.size, 2, none⟩ c)) t s := by
  refine h.keep (fun b hb => .inr ⟨by omega, by simp [World.setCell]; omega⟩) fun p hp => ?_
  have h1 : p.block ≠ w.heap.size := by have := hp.1; omega
  exact World.cell?_of_block (by rw [Below.heap_setCell _ _ _ _ h1, Below.heap_setCell _ _ _ _ h1, Below.heap_setCell _ _ _ _ h1])

set_option maxHeartbeats 400000 in
theorem rparse_any (cn : Str → Option Int) (decls bound : List Str) (s : Str) (w : World) (bv D : Value) (hU : AtomU cn ∨ noU ⟨words s, 0⟩) (hs : s.length ≤ 1000000000000) (hD : Strs w w.heap.size decls D) (hb : Strs w w.heap.size bound bv)
    (hdl : decls.length ≤ 1000000000000) (hbl : bound.length ≤ 1000000000000) :
    Calls Tryd.prog 41 #[.string ⟨s.toArray⟩, bv, D] w (ParsePost (parse cn decls s bound) w) := by
  obtain ⟨BA, bcap, rfl, -⟩ := id hb
  obtain ⟨DA, dcap, rfl, -⟩ := id hD
  have hblk := Blk.new w 24 #[.int .i64 0, .int .i64 0, .slice none 0 0]
  have hb0 := (Below.refl w.heap.size w).alloc (Nat.le_refl _) (.cells #[.int .i64 0, .int .i64 0, .slice none 0 0] 24)
  by_cases h1 : 1500 < s.length
  · have hp : parse cn decls s bound = (T0, 4) := by unfold parse; rw [if_pos h1]
    rw [hp]
    have h1' : (1500 : Int) < (s.length : Int) := by omega
    clear hp hb hD hU
    go_enter Tryd.func41, Tryd.ntmps41
    go_wp2_with fail
    refine bodyPost_ret (v := .tuple #[.agg #[.int .i64 0, .int .i64 0, .slice none 0 0], .int .i64 4]) (by simp [results, Tryd.results41, go_sem]) rfl ⟨_, rfl, args_none _ _ _ _, ?_⟩
    exact hb0
  · have h1' : ¬ (1500 : Int) < (s.length : Int) := by omega
    by_cases h2 : 8 < bound.length
    · have hp : parse cn decls s bound = (T0, 5) := by unfold parse; rw [if_neg h1, if_pos h2]
      rw [hp]
      have h2' : (8 : Int) < (bound.length : Int) := by omega
      clear hp hb hD hU
      go_enter Tryd.func41, Tryd.ntmps41
      go_wp2_with fail
      refine bodyPost_ret (v := .tuple #[.agg #[.int .i64 0, .int .i64 0, .slice none 0 0], .int .i64 5]) (by simp [results, Tryd.results41, go_sem]) rfl ⟨_, rfl, args_none _ _ _ _, ?_⟩
      exact hb0
    · have h2' : ¬ (8 : Int) < (bound.length : Int) := by omega
      have hpb := parse_body (cn := cn) (decls := decls) h1 h2
      have hb1 := hb0.alloc (by simp) (.cells #[.string ⟨s.toArray⟩, .slice DA decls.length dcap, .int .i64 0] 84)
      have hR1 : RBox ((w.alloc (.cells #[.int .i64 0, .int .i64 0, .slice none 0 0] 24)).alloc (.cells #[.string ⟨s.toArray⟩, .slice DA decls.length dcap, .int .i64 0] 84)) (w.heap.size + 1) (.slice DA decls.length dcap) ⟨words s, 0⟩ := by
        refine ⟨s, hs, rfl, ?_⟩
        have h := Blk.new (w.alloc (.cells #[.int .i64 0, .int .i64 0, .slice none 0 0] 24)) 84 #[.string ⟨s.toArray⟩, .slice DA decls.length dcap, .int .i64 0]
        simpa using h
      have hB1 := hblk.alloc (.cells #[.string ⟨s.toArray⟩, .slice DA decls.length dcap, .int .i64 0] 84)
      have hD1 := (hD.any (R' := w.heap.size + 1) (by omega)).but (but_of hb1)
      have hb2 := (hb.any (R' := w.heap.size + 1) (by omega)).but (but_of hb1)
      have hcall := rterm_any cn decls (w.heap.size + 1) (.slice DA decls.length dcap) hdl 24 1 bound ⟨words s, 0⟩ _ _ hU hR1 hD1 hb2 (by omega) (by omega) (by omega)
      obtain ⟨⟨t, q⟩, hq⟩ : ∃ a, pterm cn decls 24 bound ⟨words s, 0⟩ = a := ⟨_, rfl⟩
      rw [hq] at hcall hpb
      dsimp only at hpb
      have HCALL := Lib.hid (show Calls Tryd.prog 57 _ _ (fun e w' => ∃ s, e = .returned (.agg #[.int .i64 t.k, .int .i64 t.n, s]) ∧ argsInS w' (orNew nowhere _ w') t s ∧ RBox w' _ _ q ∧ But _ _ _ w') from hcall)
      have HPB := Lib.hid hpb
      have HB1 := Lib.hid hb1
      clear hcall hpb hq hb hD hU hb0 hblk hR1 hD1 hb2 hb1
      go_enter Tryd.func41, Tryd.ntmps41
      go_wp2_with fail
      refine HCALL.out.mono ?_
      rintro e w2 ⟨s2, rfl, hx, hR2, hb2⟩
      obtain ⟨A2, cap2, rfl, -⟩ := argsInS_iff.1 hx
      have hB2 := hB1.but hb2 hB1.lt (by omega)
      have hbw := (but_of (X := w.heap.size + 1) HB1.out).trans (hb2.mono HB1.out.size)
      have hs2 := hb2.size
      simp at hs2
      have hx2 : argsInS w2 (fun b => w.heap.size + 2 ≤ b ∧ b < w2.heap.size) t (.slice A2 t.al.length cap2) := hx.keep (fun b hb => hb.elim (fun h => h.elim) (fun h => ⟨by have := h.1; simpa using this, h.2⟩)) (fun _ _ => rfl)
      have HX := Lib.hid hx2
      have HBW := Lib.hid hbw
      have HR2 := Lib.hid hR2
      have hRlt := hR2.lt
      have hB3 := hB2.alloc (.cells #[.int .i64 t.k, .int .i64 t.n, .slice A2 t.al.length cap2] 24)
      have hR3 := hR2.below ((Below.refl w2.heap.size w2).alloc (Nat.le_refl _) (.cells #[.int .i64 t.k, .int .i64 t.n, .slice A2 t.al.length cap2] 24))
      have hT3 := Blk.new w2 24 #[.int .i64 t.k, .int .i64 t.n, .slice A2 t.al.length cap2]
      have hb3 := hbw.alloc hbw.size (.cells #[.int .i64 t.k, .int .i64 t.n, .slice A2 t.al.length cap2] 24)
      have HB3 := Lib.hid hb3
      have HR3 := Lib.hid hR3
      obtain ⟨sq, -, hwq, hBq⟩ := hR3
      have r2 := hBq.cell 2
      simp only [List.getElem?_toArray, List.getElem?_cons_succ, List.getElem?_cons_zero] at r2
      clear hx hx2 hbw hR2 hb2 HCALL hB1 hB2 hb3 hBq HR2 HBW
      by_cases he : q.e = 0
      · have heb : (q.e == 0) = true := by simpa using he
        by_cases hl : q.l = []
        · have hp := HPB.out
          rw [ended_ok hl, if_neg (by simpa using he)] at hp
          rw [hl] at hwq
          have hpk := rpeek_any _ _ _ q HR3.out
          rw [show (q.l.headD []) = [] from by rw [hl]; rfl] at hpk
          have HPK := Lib.hid hpk
          have HP := Lib.hid hp
          clear hp hpk hl
          go_wp2_with fail
          refine HPK.out.mono ?_
          rintro e w4 ⟨rfl, hR4, hb4⟩
          have hT4 := hT3.but hb4 hT3.lt (by omega)
          have hB4 := hB3.but hb4 hB3.lt (by omega)
          have HB4 := Lib.hid (HB3.out.trans (hb4.mono HB3.out.size))
          have HX4 := Lib.hid (HX.out.keep (w' := w4) (S' := fun b => w.heap.size + 2 ≤ b ∧ b < w2.heap.size) (fun _ h => h) (fun p hp => by
            have h1 := hp.1
            have h2 := hp.2
            rw [hb4.cell (by simp; omega) (by omega)]
            exact World.cell?_alloc_lt _ _ _ h2))
          obtain ⟨sq2, -, -, hBq2⟩ := hR4
          have r3 := hBq2.cell 2
          simp only [List.getElem?_toArray, List.getElem?_cons_succ, List.getElem?_cons_zero] at r3
          obtain ⟨⟨t0, t1, t2⟩, -⟩ := hT4.tri
          obtain ⟨⟨d0, d1, d2⟩, e0, e1, e2⟩ := hB4.tri
          have heb3 : (q.e != 0) = false := by simpa using he
          have hs4 := hb4.size
          simp at hs4
          have HE := Lib.hid he
          clear hT4 hB4 hBq2 hT3 hB3 hb4 he HPK
          go_wp2_with fail
          refine bodyPost_ret (v := .tuple #[.agg #[.int .i64 t.k, .int .i64 t.n, .slice A2 t.al.length cap2], .int .i64 0]) (by simp [results, Tryd.results41, go_sem, d0, d1, d2]) rfl ?_
          rw [HP.out]
          refine ⟨_, rfl, parse_fin HX4.out (by omega), ?_⟩
          exact (((HB4.out.below (Nat.le_refl _) (by omega)).setCell (by simp) _).setCell (by simp) _).setCell (by simp) _
        · have hp := HPB.out
          rw [ended_more he hl, if_pos (by simp)] at hp
          obtain ⟨a, r, hal⟩ : ∃ a r, q.l = a :: r := by
            cases h : q.l with
            | nil => exact absurd h hl
            | cons a r => exact ⟨a, r, rfl⟩
          have ha : a ≠ [] := words_ne sq a (by rw [hwq, hal]; exact List.mem_cons_self ..)
          have hne : a.isEmpty = false := by simpa using ha
          have hpk := rpeek_any _ _ _ q HR3.out
          rw [show (q.l.headD []) = a from by rw [hal]; rfl] at hpk
          have HPK := Lib.hid hpk
          have HP := Lib.hid hp
          have hff : (q.fail 2).e = 2 := by unfold PS.fail; rw [if_pos he]
          have HFF := Lib.hid hff
          clear hp hpk hl ha hal hff he
          go_wp2_with fail
          refine HPK.out.mono ?_
          rintro e w4 ⟨rfl, hR4, hb4⟩
          have hB4 := hB3.but hb4 hB3.lt (by omega)
          have HB4 := Lib.hid (HB3.out.trans (hb4.mono HB3.out.size))
          have HR4 := Lib.hid hR4
          have hs4 := hb4.size
          simp at hs4
          clear hb4 hR4 hB3 HPK hT3
          go_wp2_with fail
          refine (rfail_any _ _ _ q 2 HR4.out).mono ?_
          rintro e w5 ⟨rfl, hR5, hb5⟩
          have hB5 := hB4.but hb5 hB4.lt (by omega)
          have HB5 := Lib.hid (HB4.out.trans (hb5.mono HB4.out.size))
          obtain ⟨sq2, -, -, hBq2⟩ := hR5
          have r3 := hBq2.cell 2
          rw [HFF.out] at r3
          simp only [List.getElem?_toArray, List.getElem?_cons_succ, List.getElem?_cons_zero] at r3
          obtain ⟨⟨d0, d1, d2⟩, e0, e1, e2⟩ := hB5.tri
          have hs5 := hb5.size
          clear hb5 hB4 hB5 hBq2 r2
          go_wp2_with fail
          go_region
          all_goals go_wp2_with fail
          all_goals (
            refine bodyPost_ret (v := .tuple #[.agg #[.int .i64 0, .int .i64 0, .slice none 0 0], .int .i64 2]) (by simp [results, Tryd.results41, go_sem, d0, d1, d2]) rfl ?_
            rw [HP.out]
            refine ⟨_, rfl, args_none _ _ _ _, ?_⟩
            exact Below.drew ((((HB5.out.below (Nat.le_refl _) (by omega)).setCell (by simp) _).setCell (by simp) _).setCell (by simp) _))
      · have heb : (q.e == 0) = false := by simpa using he
        have heb2 : (q.e != 0) = true := by simpa using he
        have hp := HPB.out
        rw [ended_err he, if_pos he] at hp
        have HP := Lib.hid hp
        clear hp he
        obtain ⟨⟨d0, d1, d2⟩, e0, e1, e2⟩ := hB3.tri
        clear hB3
        go_wp2_with fail
        go_region
        all_goals go_wp2_with fail
        all_goals (
          refine bodyPost_ret (v := .tuple #[.agg #[.int .i64 0, .int .i64 0, .slice none 0 0], .int .i64 q.e]) (by simp [results, Tryd.results41, go_sem, d0, d1, d2]) rfl ?_
          rw [HP.out]
          refine ⟨_, rfl, args_none _ _ _ _, ?_⟩
          exact Below.drew ((((HB3.out.below (Nat.le_refl _) (by omega)).setCell (by simp) _).setCell (by simp) _).setCell (by simp) _))
end Go.Proofs.YtjboibbgigkhkaaDoor
