/- Bound of the document's answer: how many are bound at most, in a right term. -/
import Derived.Test.YtjboibbgigkhkaaDoorLook
import Derived.Test.YtjboibbgigkhkaaDoorTurnsP
import Derived.Test.YtjboibbgigkhkaaDoorPPrintL
namespace Go.Proofs.YtjboibbgigkhkaaDoor
set_option maxRecDepth 100000
open Go.RowKit

theorem boundL_nil (b : Int) (l : List Nat) : boundL [] l b = b := by rw [boundL]

set_option maxHeartbeats 1000000 in
theorem rbound_any (d : Int) : ∀ (f : Nat) (t : T) (b : Int) (w : World) (s : Value), argsIn w w.heap.size t s → look d t b f = 0 → 0 ≤ b → b + 2 * f ≤ 1000000000000 →
    Calls Tryd.prog 17 #[.agg #[.int .i64 t.k, .int .i64 t.n, s], .int .i64 b] w (LookPost (boundT t b) w) := by
  intro f
  induction f with
  | zero => intro t b w s _ hl; cases t; rw [look] at hl; cases hl
  | succ f ih =>
    intro t b w s hs hl hb0 hb1
    obtain ⟨k, n, al⟩ := t
    obtain ⟨g, sh, e, hsh, hal, h0, h1, hL⟩ := look_zero hl
    cases e
    obtain ⟨A, cap, rfl, i1, i2, i3⟩ := argsIn_iff.1 hs
    simp only [T.al] at i1 i3
    show Calls Tryd.prog _ #[.agg #[.int .i64 k, .int .i64 n, .slice A al.length cap], _] w _
    have hR : boundT (.mk k n al) b = boundL al sh b := by rw [boundT, hsh]; rfl
    rw [hR]
    obtain ⟨x1, x2, x3⟩ := shape_text hsh
    have X4 := Lib.hid (shape_le hsh)
    have hl4 : sh.length ≤ 4 := shape_len hsh
    have H3 := Lib.hid i3
    have HL := Lib.hid hL
    have HR := Lib.hid (rfl : boundL al sh b = boundL al sh b)
    generalize hq : boundL al sh b = R at *
    have HQ := Lib.hid hq
    clear hq HR hR i3 hs hl hL hsh x2
    have X1 := Lib.hid x1
    have X3 := Lib.hid x3
    clear x1 x3 h0 h1
    go_enter Tryd.func17, Tryd.ntmps17
    go_wp2_with fail
    refine (shape_any _ _).mono ?_
    rintro e w1 ⟨rfl, hbl⟩
    obtain ⟨q0, q1, q2, hbw⟩ := box3 hbl
    clear hbl
    generalize shapeText k = S at *
    have hlb : al.length = S.size := by rw [X1.out, hal]
    go_wp2_with fail
    go_loopw [5, 16] (fun mv iv wr => ∃ (k : Nat) (m : Int), k ≤ al.length ∧ iv = .int .i64 k ∧ mv = .int .i64 m ∧ Hid (max m (boundL (al.drop k) (sh.drop k) b) = R) ∧ b ≤ m ∧ Below w.heap.size w wr) (fun _ iv _ => al.length - (intOf iv).toNat)
    case atStart => exact ⟨0, b, Nat.zero_le _, rfl, rfl, Lib.hid (by have := boundT_ge.2 al sh b; rw [List.drop_zero, List.drop_zero, HQ.out]; rw [HQ.out] at this; omega), Int.le_refl _, hbw⟩
    case round =>
      obtain ⟨k, m, hk, rfl, rfl, hM, hbm, hb⟩ := hrel
      by_cases hlt : k < al.length
      · obtain ⟨x, hx⟩ := length_getElem (l := al) (i := k) hlt
        obtain ⟨y, hy⟩ := length_getElem (l := sh) (i := k) (by omega)
        obtain ⟨hi, hch⟩ := X3.out k y hy
        obtain ⟨bl, off, hA, hbb, hc⟩ := H3.out (by intro e; rw [e] at hx; simp at hx)
        obtain ⟨A1, cap1, c1, c2, c3, c4⟩ := hc.at_ hx
        rw [← hb.cell (p := ⟨bl, _, none⟩) hbb] at c1 c2 c3
        subst hA
        have HX := Lib.hid (lookL_at HL.out hx hy)
        have HY := Lib.hid (boundL_at (n := b) hx hy)
        have hy2 : y ≤ 2 := X4.out y (List.mem_of_getElem? hy)
        have HCH := Lib.hid hch
        clear hc hx hy hch q0 q1 q2
        have hkS : k < S.size := by omega
        go_wp2_with fail
        have hb1 := (hb.alloc hb.size (Obj.cells #[Value.int IntKind.i64 x.k, Value.int IntKind.i64 x.n, Value.slice A1 x.al.length cap1] 24)).drew
        have hcall := ih x (b + y) _ _ (c4.keep hb1.size hb1) HX.out (by omega) (by omega)
        have hN := hM.out
        rw [HY.out] at hN
        obtain ⟨q, hq⟩ : ∃ q, boundT x (b + y) = q := ⟨_, rfl⟩
        rw [hq] at hcall hN
        have hwv : IntKind.i64.wrap (b + IntKind.i64.wrap (IntKind.u8.wrap (((S[k]'hkS).toNat : Int) - 48))) = b + y := by
          rw [HCH.out, show (48 + (y : Int) - 48) = (y : Int) by omega]
          have hy3 : y = 0 ∨ y = 1 ∨ y = 2 := by omega
          have e : IntKind.i64.wrap (IntKind.u8.wrap (y : Int)) = (y : Int) := by rcases hy3 with rfl | rfl | rfl <;> rfl
          rw [e]
          exact IntWalk.i64_in _ (by omega)
        have HCALL := Lib.hid hcall
        have HN := Lib.hid hN
        have HBB := Lib.hid hb1
        have HBLK := Lib.hid (Blk.new wr 24 #[.int .i64 x.k, .int .i64 x.n, .slice A1 x.al.length cap1])
        have hbox := HBLK.out.tri.1
        clear hb1 hcall hN c1 c2 c3 c4 hM HX HY hq HCH
        go_region_held3 (fun w' => w'.cell? ⟨wr.heap.size, 0, none⟩ = some (.int .i64 x.k) ∧ w'.cell? ⟨wr.heap.size, 1, none⟩ = some (.int .i64 x.n) ∧ w'.cell? ⟨wr.heap.size, 2, none⟩ = some (.slice A1 x.al.length cap1)) (go_keep)
          (first
            | ((with_reducible refine HCALL.out.mono ?_); rintro e w2 ⟨rfl, hb2⟩; (have hb3 := HBB.out.trans (hb2.mono HBB.out.size)); (obtain ⟨⟨d0, d1, d2⟩, -⟩ := (Blk.below (Blk.drew HBLK.out) hb2 HBLK.out.lt).tri); clear hb2)
            | fail)
        go_wp2_with fail
        go_roundw
        case rel => exact ⟨k + 1, max m q, by omega, by go_num, rfl, Lib.hid (by have := HN.out; omega), by omega, hb3⟩
        case measure => simp [intOf]; omega
      · obtain rfl : k = al.length := by omega
        have hm := hM.out
        rw [List.drop_length, boundL_nil] at hm
        obtain rfl : m = R := by omega
        clear hM hm q0 q1 q2
        go_wp2_with fail
        go_ret
        exact ⟨rfl, hb⟩
end Go.Proofs.YtjboibbgigkhkaaDoor
