/- sklaw1.alive answers true. -/
import Derived.Test.YtjboibbgigkhkaaDoorTAlive
namespace Go.Proofs.YtjboibbgigkhkaaDoor
set_option maxRecDepth 100000
open Go.RowKit

/-- a term in a box of its own, in a world behind -/
def Kept (w : World) (g : Nat) (t : T) (A : Option Addr) (cap : Nat) (w1 : World) : Prop :=
  Blk w1 g 24 #[.int .i64 t.k, .int .i64 t.n, .slice A t.al.length cap] ∧ argsIn w1 g t (.slice A t.al.length cap) ∧ Below w.heap.size w w1 ∧ g < w1.heap.size ∧ w.heap.size ≤ g

theorem Kept.more {w w1 w2 : World} {g : Nat} {t : T} {A : Option Addr} {cap : Nat} (h : Kept w g t A cap w1) (hb : Below w1.heap.size w1 w2) : Kept w g t A cap w2 :=
  ⟨h.1.below hb h.2.2.2.1, h.2.1.keep (Nat.le_refl _) (hb.mono (Nat.le_of_lt h.2.2.2.1)), h.2.2.1.trans (hb.mono h.2.2.1.size), Nat.lt_of_lt_of_le h.2.2.2.1 hb.size, h.2.2.2.2⟩
theorem Kept.arg {w w1 : World} {g : Nat} {t : T} {A : Option Addr} {cap : Nat} (h : Kept w g t A cap w1) : argsIn w1 w1.heap.size t (.slice A t.al.length cap) := h.2.1.keep (Nat.le_of_lt h.2.2.2.1) (Below.refl _ _)
theorem Kept.new {w w1 : World} {t : T} {A : Option Addr} {cap : Nat} (ha : argsIn w1 w1.heap.size t (.slice A t.al.length cap)) (hb : Below w.heap.size w w1) : Kept w w1.heap.size t A cap (w1.alloc (.cells #[.int .i64 t.k, .int .i64 t.n, .slice A t.al.length cap] 24)) :=
  ⟨Blk.new _ _ _, ha.keep (Nat.le_refl _) ((Below.refl _ _).alloc (Nat.le_refl _) _), hb.alloc hb.size _, by simp, hb.size⟩

def txt1 : Str := [40, 102, 110, 32, 110, 97, 116, 32, 110, 32, 40, 97, 32, 110, 41, 41]
def txt2 : Str := [40, 98, 32, 97, 41]
def txt3 : Str := [98]
def txt4 : Str := [40, 98, 32, 98, 41]

set_option maxHeartbeats 1600000 in
theorem talive_walk (t1 t3 t4 t5 t6 : T) (e1 e3 e4 e5 e6 : Int) (p1 : parse cn0 [] txt1 [[97], [98]] = (t1, e1)) (p3 : parse cn0 [] txt1 [[97], [98], [99]] = (t3, e3)) (p4 : parse cn0 [] txt2 [[98], [97]] = (t4, e4)) (p5 : parse cn0 [] txt3 [[98]] = (t5, e5)) (p6 : parse cn0 [] txt4 [[98]] = (t6, e6))
    (u1 : noU ⟨words txt1, 0⟩) (u2 : noU ⟨words txt2, 0⟩) (u3 : noU ⟨words txt3, 0⟩) (u4 : noU ⟨words txt4, 0⟩)
    (hsz : size t1 = 5) (hw1 : wrong t1 2 0 = 0) (hw2 : wrong t1 0 0 = 3) (hl : sameT (liftT 1 t1 0) t3 = true) (hp : sameT (putT t5 t4 0) t6 = true) (hu1 : usesT 1 t1 0 = true) (hu0 : usesT 0 t1 0 = false)
    (o1 : okT 1000 24 t1) (o4 : okT 1000 24 t4) (o5 : okT 1000 24 t5) (w : World) :
    Calls Tryd.prog 7 #[] w (BoolPost true w) := by
  have U1 := Lib.hid u1
  have U2 := Lib.hid u2
  have U3 := Lib.hid u3
  have U4 := Lib.hid u4
  have O1 := Lib.hid o1
  have O4 := Lib.hid o4
  have O5 := Lib.hid o5
  have P1 := Lib.hid p1
  have P3 := Lib.hid p3
  have P4 := Lib.hid p4
  have P5 := Lib.hid p5
  have P6 := Lib.hid p6
  clear u1 u2 u3 u4 o1 o4 o5 p1 p3 p4 p5 p6
  go_enter Tryd.func7, Tryd.ntmps7
  go_wp2_with fail
  refine (binds_of (k := 17) (l := [1, 0, 2, 0]) rfl w).mono ?_
  rintro e w1 ⟨LA, lcap, rfl, hli, hb1⟩
  obtain ⟨LA', lcap', hle, hlc⟩ := hli
  obtain ⟨lb, loff, hLA, hlb, lc⟩ := hlc 2 2 rfl
  cases hle
  subst hLA
  clear hlc
  go_wp2_with fail
  refine (read_in txt1 [[97], [98]] t1 e1 _ _ P1.out U1.out (by decide) (strs_new w1 [[97], [98]] 9 (by decide) (by decide)) (by decide)).mono ?_
  rintro e w2 ⟨s2, rfl, ha2, hb2⟩
  have hbw := (hb1.alloc hb1.size _).trans (hb2.mono (by have := hb1.size; simp; omega))
  have hlc2 := (hb2.cell (p := ⟨lb, loff + 2, none⟩) (by simp; omega)).trans ((World.cell?_alloc_lt w1 _ ⟨lb, loff + 2, none⟩ hlb).trans lc)
  obtain ⟨A2, cap2, rfl, -⟩ := argsIn_iff.1 ha2
  have hK := Kept.new ha2 hbw
  have hlc3 := (World.cell?_alloc_lt w2 (.cells #[.int .i64 t1.k, .int .i64 t1.n, .slice A2 t1.al.length cap2] 24) ⟨lb, loff + 2, none⟩ (by have := hb2.size; simp at this; show lb < _; omega)).trans hlc2
  have HK := Lib.hid hK
  obtain ⟨k0, k1, k2⟩ := hK.1.tri.1
  clear hb1 hb2 hbw hlc2 ha2 hK lc
  go_wp2_with fail
  generalize w2.alloc (.cells #[.int .i64 t1.k, .int .i64 t1.n, .slice A2 t1.al.length cap2] 24) = w3 at *
  refine (psize_any t1 w3 _ HK.out.arg (by rw [hsz]; decide)).mono ?_
  rintro e w4 ⟨rfl, hb4⟩
  have HK4 := Lib.hid (HK.out.more hb4)
  rw [hsz]
  obtain ⟨m0, m1, m2⟩ := HK4.out.1.tri.1
  clear hb4 HK k0 k1 k2 hlc3
  go_wp2_with fail
  refine (pwrong_any t1 2 0 (by omega) (by omega) w4 _ HK4.out.arg (by omega) (by omega)).mono ?_
  rintro e w5 ⟨rfl, hb5⟩
  have HK5 := Lib.hid (HK4.out.more hb5)
  rw [hw1]
  obtain ⟨k0, k1, k2⟩ := HK5.out.1.tri.1
  clear hb5 HK4 m0 m1 m2
  go_wp2_with fail
  refine (pwrong_any t1 0 0 (by omega) (by omega) w5 _ HK5.out.arg (by omega) (by omega)).mono ?_
  rintro e w6 ⟨rfl, hb6⟩
  have HK6 := Lib.hid (HK5.out.more hb6)
  rw [hw2]
  obtain ⟨m0, m1, m2⟩ := HK6.out.1.tri.1
  clear hb6 HK5 k0 k1 k2
  go_wp2_with fail
  refine (lift_in 1 0 (by omega) (by omega) 1000 (by omega) 24 t1 w6 _ O1.out HK6.out.arg (by omega) (by omega)).mono ?_
  rintro e w7 ⟨s7, rfl, ha7, hb7⟩
  obtain ⟨A7, cap7, rfl, -⟩ := argsIn_iff.1 ha7
  have HK7 := Lib.hid (HK6.out.more hb7)
  have HA7 := Lib.hid ha7
  clear hb7 ha7 HK6 m0 m1 m2
  go_wp2_with fail
  refine (read_in txt1 [[97], [98], [99]] t3 e3 _ _ P3.out U1.out (by decide) (strs_new w7 [[97], [98], [99]] 9 (by decide) (by decide)) (by decide)).mono ?_
  rintro e w8 ⟨s8, rfl, ha8, hb8⟩
  obtain ⟨A8, cap8, rfl, -⟩ := argsIn_iff.1 ha8
  have hb78 := ((Below.refl w7.heap.size w7).alloc (Nat.le_refl _) (.cells (strc [[97], [98], [99]]).toArray 9)).trans (hb8.mono (by simp))
  have HK8 := Lib.hid (HK7.out.more hb78)
  have HA8 := Lib.hid (And.intro (HA7.out.keep hb78.size hb78) ha8)
  clear hb8 hb78 ha8 HK7 HA7
  go_wp2_with fail
  refine (psame_any (liftT 1 t1 0) t3 w8 _ _ HA8.out.1 HA8.out.2).mono ?_
  rintro e w9 ⟨rfl, hb9⟩
  have HK9 := Lib.hid (HK8.out.more hb9)
  rw [hl]
  clear hb9 HK8 HA8
  go_wp2_with fail
  refine (read_in txt2 [[98], [97]] t4 e4 _ _ P4.out U2.out (by decide) (strs_new w9 [[98], [97]] 9 (by decide) (by decide)) (by decide)).mono ?_
  rintro e w10 ⟨s10, rfl, ha10, hb10⟩
  obtain ⟨A10, cap10, rfl, -⟩ := argsIn_iff.1 ha10
  have hb910 := ((Below.refl w9.heap.size w9).alloc (Nat.le_refl _) (.cells (strc [[98], [97]]).toArray 9)).trans (hb10.mono (by simp))
  have HK10 := Lib.hid (HK9.out.more hb910)
  have HA10 := Lib.hid ha10
  clear hb10 hb910 ha10 HK9
  go_wp2_with fail
  refine (read_in txt3 [[98]] t5 e5 _ _ P5.out U3.out (by decide) (strs_new w10 [[98]] 9 (by decide) (by decide)) (by decide)).mono ?_
  rintro e w11 ⟨s11, rfl, ha11, hb11⟩
  obtain ⟨A11, cap11, rfl, -⟩ := argsIn_iff.1 ha11
  have hb1011 := ((Below.refl w10.heap.size w10).alloc (Nat.le_refl _) (.cells (strc [[98]]).toArray 9)).trans (hb11.mono (by simp))
  have HK11 := Lib.hid (HK10.out.more hb1011)
  have HA11 := Lib.hid (And.intro (HA10.out.keep hb1011.size hb1011) ha11)
  clear hb11 hb1011 ha11 HK10 HA10
  go_wp2_with fail
  refine (put_in 1000 (by omega) 24 24 t4 t5 w11 _ _ O4.out (by omega) O5.out (by omega) HA11.out.1 HA11.out.2).mono ?_
  rintro e w12 ⟨s12, rfl, ha12, hb12⟩
  obtain ⟨A12, cap12, rfl, -⟩ := argsIn_iff.1 ha12
  have HK12 := Lib.hid (HK11.out.more hb12)
  have HA12 := Lib.hid ha12
  clear hb12 ha12 HK11 HA11
  go_wp2_with fail
  refine (read_in txt4 [[98]] t6 e6 _ _ P6.out U4.out (by decide) (strs_new w12 [[98]] 9 (by decide) (by decide)) (by decide)).mono ?_
  rintro e w13 ⟨s13, rfl, ha13, hb13⟩
  obtain ⟨A13, cap13, rfl, -⟩ := argsIn_iff.1 ha13
  have hb1213 := ((Below.refl w12.heap.size w12).alloc (Nat.le_refl _) (.cells (strc [[98]]).toArray 9)).trans (hb13.mono (by simp))
  have HK13 := Lib.hid (HK12.out.more hb1213)
  have HA13 := Lib.hid (And.intro (HA12.out.keep hb1213.size hb1213) ha13)
  clear hb13 hb1213 ha13 HK12 HA12
  go_wp2_with fail
  refine (psame_any (putT t5 t4 0) t6 w13 _ _ HA13.out.1 HA13.out.2).mono ?_
  rintro e w14 ⟨rfl, hb14⟩
  have HK14 := Lib.hid (HK13.out.more hb14)
  rw [hp]
  obtain ⟨k0, k1, k2⟩ := HK14.out.1.tri.1
  clear hb14 HK13 HA13
  go_wp2_with fail
  refine (uses_in 1 1000 (by omega) 24 t1 w14 _ O1.out (by omega) HK14.out.arg).mono ?_
  rintro e w15 ⟨rfl, hb15⟩
  have HK15 := Lib.hid (HK14.out.more hb15)
  rw [hu1]
  obtain ⟨m0, m1, m2⟩ := HK15.out.1.tri.1
  clear hb15 HK14 k0 k1 k2
  go_wp2_with fail
  refine (uses_in 0 1000 (by omega) 24 t1 w15 _ O1.out (by omega) HK15.out.arg).mono ?_
  rintro e w16 ⟨rfl, hb16⟩
  have HK16 := Lib.hid (HK15.out.more hb16)
  rw [hu0]
  clear hb16 HK15 m0 m1 m2
  go_wp2_with fail
  go_ret
  exact ⟨rfl, HK16.out.2.2.1⟩

def tA1 : T := .mk 4 0 [.mk 14 0 [], .mk 5 0 [.mk 1 2 [], .mk 1 0 []]]
def tA3 : T := .mk 4 0 [.mk 14 0 [], .mk 5 0 [.mk 1 3 [], .mk 1 0 []]]
def tA4 : T := .mk 5 0 [.mk 1 1 [], .mk 1 0 []]
def tA5 : T := .mk 1 0 []
def tA6 : T := .mk 5 0 [.mk 1 0 [], .mk 1 0 []]

theorem noU_of {s : Str} {l : List Str} (h : words s = l) (hl : ∀ x ∈ l, x.head? ≠ some 85) : noU ⟨words s, 0⟩ := by
  intro x hx
  exact hl x (h ▸ hx)

theorem talive_any (w : World) : Calls Tryd.prog 7 #[] w (BoolPost true w) :=
  talive_walk tA1 tA3 tA4 tA5 tA6 0 0 0 0 0 rfl rfl rfl rfl rfl
    (noU_of (l := [[40], [102, 110], [110, 97, 116], [110], [40], [97], [110], [41], [41]]) rfl (by decide)) (noU_of (l := [[40], [98], [97], [41]]) rfl (by decide)) (noU_of (l := [[98]]) rfl (by decide)) (noU_of (l := [[40], [98], [98], [41]]) rfl (by decide))
    rfl rfl rfl rfl rfl rfl rfl
    (ok_of_look (d := 0) (M := 1000) (by omega) (by omega) 24 tA1 2 (by omega) rfl) (ok_of_look (d := 0) (M := 1000) (by omega) (by omega) 24 tA4 2 (by omega) rfl) (ok_of_look (d := 0) (M := 1000) (by omega) (by omega) 24 tA5 1 (by omega) rfl) w
end Go.Proofs.YtjboibbgigkhkaaDoor
