/- term.form and term.Wrong: what is wrong with a term. -/
import Derived.Test.YtjboibbgigkhkaaGreatDoorYPSize
import Derived.Test.YtjboibbgigkhkaaGreatDoorYLook
import Derived.Test.YtjboibbgigkhkaaGreatDoorYBinds
import Derived.Test.YtjboibbgigkhkaaGreatDoorYEachL
import Derived.IntWalk
namespace Go.Proofs.YtjboibbgigkhkaaGreatDoor
set_option maxRecDepth 100000
open Go.RowKit

theorem look_any_end {d : Int} {t : T} {b : Int} {f : Nat} {l : List Nat} (h : shape t.k = some l) (hlen : t.al.length = l.length) (hr : ¬ (t.n < 0 ∨ lim t.k b d ≤ t.n)) : look d t b (f + 1) = lookL d t.al l b f := by
  rw [look_some h, if_neg (by simpa using hlen), if_neg hr]

set_option maxHeartbeats 1600000 in
theorem form_any (d : Int) (hd0 : 0 ≤ d) (hd1 : d ≤ 1000000000000) : ∀ (f : Nat) (t : T) (b deep : Int) (w : World) (s : Value), argsIn w w.heap.size t s → 0 ≤ b → b + 2 * f ≤ 1000000000000 → deep + f = 25 → f ≤ 24 →
    Calls Tryz.prog 107 #[.agg #[.int .i64 t.k, .int .i64 t.n, s], .int .i64 b, .int .i64 d, .int .i64 deep] w (LookPost (look d t b f) w) := by
  intro f
  induction f with
  | zero =>
    intro t b deep w s hs hb0 hb1 hdp _
    obtain rfl : deep = 25 := by omega
    rw [look_nil]
    obtain ⟨A, cap, rfl, h1, h2, h3⟩ := argsIn_iff.1 hs
    clear hs h3
    go_enter Tryz.func107, Tryz.ntmps107
    go_wp2_with fail
    refine (binds_any _ _).mono ?_
    rintro e w1 ⟨sv, rfl, -, hbl⟩
    obtain ⟨q0, q1, q2, hbw⟩ := box3 hbl
    clear hbl
    go_upto_block 0 with fail
    go_cut [11] (fun v wc => v = .int .i64 (lim t.k b d - 1) ∧ wc = w1)
    case first =>
      by_cases k1 : t.k = 1
      · have kb : (t.k == 1) = true := by simpa using k1
        have hl := lim_1 (b := b) (d := d) k1
        have HL1 := Lib.hid hl
        have hw1 : IntKind.i64.wrap (b - 1) = b - 1 := IntWalk.i64_in _ (by omega)
        clear hl k1
        go_wp2_with fail
        go_meet
        exact ⟨by rw [HL1.out], rfl⟩
      · have kb : (t.k == 1) = false := by simpa using k1
        by_cases k2 : t.k = 2
        · have kb2 : (t.k == 2) = true := by simpa using k2
          have hl := lim_2 (b := b) (d := d) k2
          have HL1 := Lib.hid hl
          clear hl k2 k1
          go_wp2_with fail
          go_meet
          exact ⟨by rw [HL1.out]; rfl, rfl⟩
        · have kb2 : (t.k == 2) = false := by simpa using k2
          by_cases k3 : t.k = 18
          · have kb3 : (t.k == 18) = true := by simpa using k3
            have hl := lim_18 (b := b) (d := d) k3
            have HL1 := Lib.hid hl
            have hw1 : IntKind.i64.wrap (d - 1) = d - 1 := IntWalk.i64_in _ (by omega)
            clear hl k3 k2 k1
            go_wp2_with fail
            go_meet
            exact ⟨by rw [HL1.out], rfl⟩
          · have kb3 : (t.k == 18) = false := by simpa using k3
            have hl := lim_else (b := b) (d := d) k1 k2 k3
            have HL1 := Lib.hid hl
            clear hl k3 k2 k1
            go_wp2_with fail
            go_meet
            exact ⟨by rw [HL1.out]; rfl, rfl⟩
    case rest =>
      obtain ⟨rfl, rfl⟩ := hcut
      go_wp2_with fail
      go_ret
      exact ⟨rfl, hbw⟩
  | succ f ih =>
    intro t b deep w s hs hb0 hb1 hdp hf
    obtain ⟨A, cap, rfl, h1, h2, h3⟩ := argsIn_iff.1 hs
    have IH := Lib.hid ih
    have H3 := Lib.hid h3
    have hdd : ¬ (24 : Int) < deep := by omega
    clear ih h3 hs
    go_enter Tryz.func107, Tryz.ntmps107
    go_wp2_with fail
    refine (binds_any _ _).mono ?_
    rintro e w1 ⟨sv, rfl, hsv, hbl⟩
    obtain ⟨q0, q1, q2, hbw⟩ := box3 hbl
    clear hbl
    go_upto_block 0 with fail
    go_cut [11] (fun v wc => v = .int .i64 (lim t.k b d - 1) ∧ wc = w1)
    case first =>
      by_cases k1 : t.k = 1
      · have kb : (t.k == 1) = true := by simpa using k1
        have hl := lim_1 (b := b) (d := d) k1
        have HL1 := Lib.hid hl
        have hw1 : IntKind.i64.wrap (b - 1) = b - 1 := IntWalk.i64_in _ (by omega)
        clear hl k1
        go_wp2_with fail
        go_meet
        exact ⟨by rw [HL1.out], rfl⟩
      · have kb : (t.k == 1) = false := by simpa using k1
        by_cases k2 : t.k = 2
        · have kb2 : (t.k == 2) = true := by simpa using k2
          have hl := lim_2 (b := b) (d := d) k2
          have HL1 := Lib.hid hl
          clear hl k2 k1
          go_wp2_with fail
          go_meet
          exact ⟨by rw [HL1.out]; rfl, rfl⟩
        · have kb2 : (t.k == 2) = false := by simpa using k2
          by_cases k3 : t.k = 18
          · have kb3 : (t.k == 18) = true := by simpa using k3
            have hl := lim_18 (b := b) (d := d) k3
            have HL1 := Lib.hid hl
            have hw1 : IntKind.i64.wrap (d - 1) = d - 1 := IntWalk.i64_in _ (by omega)
            clear hl k3 k2 k1
            go_wp2_with fail
            go_meet
            exact ⟨by rw [HL1.out], rfl⟩
          · have kb3 : (t.k == 18) = false := by simpa using k3
            have hl := lim_else (b := b) (d := d) k1 k2 k3
            have HL1 := Lib.hid hl
            clear hl k3 k2 k1
            go_wp2_with fail
            go_meet
            exact ⟨by rw [HL1.out]; rfl, rfl⟩
    case rest =>
      obtain ⟨rfl, rfl⟩ := hcut
      cases hsh : shape t.k with
      | none =>
        have HR := Lib.hid (look_none (d := d) (b := b) (f := f) hsh)
        clear hsv
        go_wp2_with fail
        go_ret
        exact ⟨by rw [HR.out]; rfl, hbw⟩
      | some l =>
        rw [hsh] at hsv
        simp only [Option.getD_some] at hsv
        obtain ⟨LA, lcap, hle, hlc⟩ := hsv
        subst hle
        have HLC := Lib.hid hlc
        have X4 := Lib.hid (shape_le hsh)
        have hl4 := shape_len hsh
        have HSH := Lib.hid hsh
        have HR := Lib.hid (look_some (d := d) (b := b) (f := f) hsh)
        clear hlc hsh
        by_cases hlen : t.al.length = l.length
        · have HL := Lib.hid hlen
          have hlb : ((t.al.length : Int) != (l.length : Int)) = false := by simp; omega
          have hR := HR.out
          rw [if_neg (by simpa using hlen)] at hR
          have HR2 := Lib.hid hR
          clear hR HR hlen
          generalize hlm : lim t.k b d = L at *
          clear hlm
          by_cases hr1 : t.n < 0
          · have hR := HR2.out
            rw [if_pos (.inl hr1)] at hR
            have HR3 := Lib.hid hR
            clear hR HR2
            go_wp2_with fail
            go_ret
            exact ⟨by rw [HR3.out]; rfl, hbw⟩
          · by_cases hr2 : L ≤ t.n
            · have hR := HR2.out
              rw [if_pos (.inr hr2)] at hR
              have HR3 := Lib.hid hR
              have hr3 : L - 1 < t.n := by omega
              clear hR HR2
              go_wp2_with fail
              go_ret
              exact ⟨by rw [HR3.out]; rfl, hbw⟩
            · have hR := HR2.out
              rw [if_neg (fun h => h.elim hr1 hr2)] at hR
              have HR3 := Lib.hid hR
              have hr3 : ¬ L - 1 < t.n := by omega
              clear hR HR2
              go_wp2_with fail
              go_loopw [59] (fun i wr => ∃ k : Nat, k ≤ t.al.length ∧ i = .int .i64 k ∧ Hid (lookL d (t.al.drop k) (l.drop k) b f = look d t b (f + 1)) ∧ Below wc.heap.size wc wr) (fun i _ => t.al.length - (intOf i).toNat)
              case atStart => exact ⟨0, by omega, rfl, Lib.hid HR3.out.symm, Below.refl _ _⟩
              case round =>
                obtain ⟨k, hk, rfl, hL, hb⟩ := hrel
                by_cases hlt : k < t.al.length
                · obtain ⟨x, hx⟩ := length_getElem hlt
                  obtain ⟨y, hy⟩ := length_getElem (l := l) (i := k) (by rw [← HL.out]; exact hlt)
                  obtain ⟨bl, off, hA, hbb, hc⟩ := H3.out (by intro e; rw [e] at hx; simp at hx)
                  obtain ⟨A1, cap1, c1, c2, c3, c4⟩ := hc.at_ hx
                  have hb2 : Below w.heap.size w wr := hbw.trans (hb.mono hbw.size)
                  rw [← hb2.cell (p := ⟨bl, _, none⟩) hbb] at c1 c2 c3
                  subst hA
                  obtain ⟨lb, loff, hLA, hlb2, lc⟩ := HLC.out k y hy
                  subst hLA
                  rw [← hb.cell (p := ⟨lb, _, none⟩) hlb2] at lc
                  have hy2 : y ≤ 2 := X4.out y (List.mem_of_getElem? hy)
                  have hwb : IntKind.i64.wrap (b + (y : Int)) = b + (y : Int) := IntWalk.i64_in _ (by omega)
                  have hwd : IntKind.i64.wrap (deep + 1) = deep + 1 := IntWalk.i64_in _ (by omega)
                  have hlk : k < l.length := by rw [← HL.out]; exact hlt
                  have hxm := List.mem_of_getElem? hx
                  have hb1 := (hb2.alloc hb2.size (Obj.cells #[Value.int IntKind.i64 x.k, Value.int IntKind.i64 x.n, Value.slice A1 x.al.length cap1] 30)).drew
                  have lc2 := (World.cell?_alloc_lt wr (Obj.cells #[Value.int IntKind.i64 x.k, Value.int IntKind.i64 x.n, Value.slice A1 x.al.length cap1] 30) ⟨lb, loff + k, none⟩ (Nat.lt_of_lt_of_le hlb2 hb.size)).trans lc
                  have hLs := lookL_step (d := d) (b := b) (f := f) hx hy
                  have HLS := Lib.hid hLs
                  have HCALL := Lib.hid (IH.out x (b + y) (deep + 1) _ _ (c4.keep hb1.size hb1) (by omega) (by omega) (by omega) (by omega))
                  have HB1 := Lib.hid (((hb.alloc hb.size (Obj.cells #[Value.int IntKind.i64 x.k, Value.int IntKind.i64 x.n, Value.slice A1 x.al.length cap1] 30)).drew))
                  clear hc hx hy hLs hb1 hb hb2
                  go_wp2_with fail
                  refine still_tail 10 (by kernel_rfl) (by kernel_rfl) ?_
                  simp only [List.take_succ_cons, List.take_zero, List.drop_succ_cons, List.drop_zero]
                  repeat still_step
                  try refine wpStill_nil ?_
                  go_wp2_with fail
                  refine HCALL.out.mono ?_
                  rintro e w2 ⟨rfl, hb2⟩
                  have hb3 := HB1.out.trans (hb2.mono HB1.out.size)
                  have hR := HLS.out
                  rw [hL.out] at hR
                  clear hb2 c1 c2 c3 c4 lc lc2 hL HLS HCALL HB1
                  by_cases hz : look d x (b + y) f = 0
                  · rw [if_pos hz] at hR
                    have HLs := Lib.hid hR
                    have hz' : (look d x (b + y) f != 0) = false := by simpa using hz
                    clear hR hz
                    generalize look d x (b + y) f = q at *
                    go_wp2_with fail
                    go_roundw
                    case rel => exact ⟨k + 1, by omega, by go_num, Lib.hid HLs.out.symm, hb3⟩
                    case measure => simp [intOf]; omega
                  · rw [if_neg hz] at hR
                    have hz' : (look d x (b + y) f != 0) = true := by simpa using hz
                    have HLs := Lib.hid hR
                    clear hR hz
                    go_wp2_with fail
                    go_ret
                    exact ⟨by rw [HLs.out]; rfl, hbw.trans (hb3.mono hbw.size)⟩
                · obtain rfl : k = t.al.length := by omega
                  have h0 := hL.out
                  rw [List.drop_length, lookL] at h0
                  have H0 := Lib.hid h0
                  clear hL h0
                  go_wp2_with fail
                  go_ret
                  exact ⟨by rw [← H0.out]; rfl, hbw.trans (hb.mono hbw.size)⟩
        · have hlb : ((t.al.length : Int) != (l.length : Int)) = true := by simp; omega
          have hR := HR.out
          rw [if_pos (by simpa using hlen)] at hR
          have HR2 := Lib.hid hR
          clear hR HR hlen
          go_wp2_with fail
          go_ret
          exact ⟨by rw [HR2.out]; rfl, hbw⟩
end Go.Proofs.YtjboibbgigkhkaaGreatDoor

