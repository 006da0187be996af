/- sklaw1.TermLift answers true. -/
import Derived.Test.YtjboibbgigkhkaaDoorTAlive2
import Derived.Test.YtjboibbgigkhkaaDoorOkL
namespace Go.Proofs.YtjboibbgigkhkaaDoor
set_option maxRecDepth 100000
open Go.RowKit

theorem ok_wrong {t : T} {b d : Int} (h : wrong t b d = 0) (hb : b ≤ 200) (hd : d ≤ 9) : okT 300 24 t :=
  ok_of_look (d := d) (M := 300) (by omega) (by omega) 24 t b (by omega) (wrong_zero h).1

/-- the two terms in their boxes -/
def Two (w : World) (t u : T) (A A' : Option Addr) (cap cap' : Nat) (w1 : World) : Prop := Kept w w.heap.size t A cap w1 ∧ Kept w (w.heap.size + 1) u A' cap' w1

theorem Two.more {w w1 w2 : World} {t u : T} {A A' : Option Addr} {cap cap' : Nat} (h : Two w t u A A' cap cap' w1) (hb : Below w1.heap.size w1 w2) : Two w t u A A' cap cap' w2 := ⟨h.1.more hb, h.2.more hb⟩

theorem Two.new {w : World} {t u : T} {A A' : Option Addr} {cap cap' : Nat} (ht : argsIn w w.heap.size t (.slice A t.al.length cap)) (hu : argsIn w w.heap.size u (.slice A' u.al.length cap')) :
    Two w t u A A' cap cap' ((w.alloc (.cells #[.int .i64 t.k, .int .i64 t.n, .slice A t.al.length cap] 24)).alloc (.cells #[.int .i64 u.k, .int .i64 u.n, .slice A' u.al.length cap'] 24)) := by
  have hb := (Below.refl w.heap.size w).alloc (Nat.le_refl _) (.cells #[.int .i64 t.k, .int .i64 t.n, .slice A t.al.length cap] 24)
  have h2 := Kept.new (w := w) (hu.keep hb.size hb) hb
  exact ⟨(Kept.new ht (Below.refl _ _)).more ((Below.refl _ _).alloc (Nat.le_refl _) _), by simpa using h2⟩

/-- the two terms, and the lifted one, in their boxes -/
def Tri (w : World) (g : Nat) (t u x : T) (A A' A2 : Option Addr) (cap cap' cap2 : Nat) (w1 : World) : Prop := Two w t u A A' cap cap' w1 ∧ Kept w g x A2 cap2 w1

section
variable {w w1 w2 : World} {g : Nat} {t u x : T} {A A' A2 : Option Addr} {cap cap' cap2 : Nat}
theorem Tri.more (h : Tri w g t u x A A' A2 cap cap' cap2 w1) (hb : Below w1.heap.size w1 w2) : Tri w g t u x A A' A2 cap cap' cap2 w2 := ⟨h.1.more hb, h.2.more hb⟩
theorem Tri.drew (h : Tri w g t u x A A' A2 cap cap' cap2 w1) : Tri w g t u x A A' A2 cap cap' cap2 w1.drew := h.more (Below.refl _ _).drew
theorem Tri.cells (h : Tri w g t u x A A' A2 cap cap' cap2 w1) :
    (w1.cell? ⟨w.heap.size, 0, none⟩ = some (.int .i64 t.k) ∧ w1.cell? ⟨w.heap.size, 1, none⟩ = some (.int .i64 t.n) ∧ w1.cell? ⟨w.heap.size, 2, none⟩ = some (.slice A t.al.length cap)) ∧
    (w1.cell? ⟨w.heap.size + 1, 0, none⟩ = some (.int .i64 u.k) ∧ w1.cell? ⟨w.heap.size + 1, 1, none⟩ = some (.int .i64 u.n) ∧ w1.cell? ⟨w.heap.size + 1, 2, none⟩ = some (.slice A' u.al.length cap')) ∧
    (w1.cell? ⟨g, 0, none⟩ = some (.int .i64 x.k) ∧ w1.cell? ⟨g, 1, none⟩ = some (.int .i64 x.n) ∧ w1.cell? ⟨g, 2, none⟩ = some (.slice A2 x.al.length cap2)) := ⟨h.1.1.1.tri.1, h.1.2.1.tri.1, h.2.1.tri.1⟩
theorem Tri.uses (h : Tri w g t u x A A' A2 cap cap' cap2 w1) (ho : okT 300 24 t) (hx : liftT 1 t 0 = x) : Calls Tryd.prog 10 #[.agg #[.int .i64 x.k, .int .i64 x.n, .slice A2 x.al.length cap2], .int .i64 0] w1 (BoolPost false w1) := by
  have h1 := uses_in 0 301 (by omega) 24 x w1 _ (hx ▸ okT_lift 1 300 (by omega) 24 t 0 ho) (by omega) h.2.arg
  rwa [show usesT 0 x 0 = false from hx ▸ (term_lift t u 0 0 (by omega)).1] at h1
theorem Tri.put (h : Tri w g t u x A A' A2 cap cap' cap2 w1) (ho : okT 300 24 t) (hu : okT 300 24 u) (hx : liftT 1 t 0 = x) :
    Calls Tryd.prog 12 #[.agg #[.int .i64 x.k, .int .i64 x.n, .slice A2 x.al.length cap2], .agg #[.int .i64 u.k, .int .i64 u.n, .slice A' u.al.length cap']] w1 (TermIn t w1) := by
  have h1 := put_in 301 (by omega) 24 24 x u w1 _ _ (hx ▸ okT_lift 1 300 (by omega) 24 t 0 ho) (by omega) (hu.mono (by omega) (Nat.le_refl _)) (by omega) h.2.arg h.1.2.arg
  rwa [show putT u x 0 = t from hx ▸ (term_lift t u 0 0 (by omega)).2.1] at h1
theorem same_self (y : T) (w1 : World) {s s' : Value} (h1 : argsIn w1 w1.heap.size y s) (h2 : argsIn w1 w1.heap.size y s') :
    Calls Tryd.prog 11 #[.agg #[.int .i64 y.k, .int .i64 y.n, s], .agg #[.int .i64 y.k, .int .i64 y.n, s']] w1 (BoolPost true w1) := by
  have h := same_any y y w1 s s' h1 h2
  rwa [(same_iff.1 y y).2 rfl] at h
theorem Tri.same (h : Tri w g t u x A A' A2 cap cap' cap2 w1) {s : Value} (hs : argsIn w1 w1.heap.size t s) :
    Calls Tryd.prog 11 #[.agg #[.int .i64 t.k, .int .i64 t.n, s], .agg #[.int .i64 t.k, .int .i64 t.n, .slice A t.al.length cap]] w1 (BoolPost true w1) := same_self t w1 hs h.1.1.arg
theorem Tri.lift (h : Tri w g t u x A A' A2 cap cap' cap2 w1) (ho : okT 300 24 t) {c : Int} (h0 : 0 ≤ c) (h1 : c ≤ 1000) :
    Calls Tryd.prog 9 #[.agg #[.int .i64 t.k, .int .i64 t.n, .slice A t.al.length cap], .int .i64 c, .int .i64 0] w1 (TermIn (liftT c t 0) w1) :=
  lift_in c 0 h0 (by omega) 300 (by omega) 24 t w1 _ ho h.1.1.arg (by omega) (by omega)
theorem lift_again {a b : Int} (ho : okT 300 24 t) (ha : 0 ≤ a) (ha1 : a ≤ 100) (hb : 0 ≤ b) (hb1 : b ≤ 100) {s : Value} (hs : argsIn w1 w1.heap.size (liftT a t 0) s) :
    Calls Tryd.prog 9 #[.agg #[.int .i64 (liftT a t 0).k, .int .i64 (liftT a t 0).n, s], .int .i64 b, .int .i64 0] w1 (TermIn (liftT (a + b) t 0) w1) := by
  have h := lift_in b 0 hb (by omega) (300 + a) (by omega) 24 (liftT a t 0) w1 _ (okT_lift a 300 ha 24 t 0 ho) hs (by omega) (by omega)
  rwa [(term_lift t t a b ha).2.2.1] at h
theorem Tri.sizex (h : Tri w g t u x A A' A2 cap cap' cap2 w1) (hx : liftT 1 t 0 = x) (hz : size t ≤ 60) :
    Calls Tryd.prog 13 #[.agg #[.int .i64 x.k, .int .i64 x.n, .slice A2 x.al.length cap2]] w1 (fun e w' => e = .returned (.int .i64 (size t)) ∧ Below w1.heap.size w1 w') := by
  have he : size x = size t := hx ▸ (term_lift t u 0 0 (by omega)).2.2.2
  have h := psize_any x w1 _ h.2.arg (by omega)
  rwa [he] at h
theorem Tri.sizet (h : Tri w g t u x A A' A2 cap cap' cap2 w1) (hz : size t ≤ 60) :
    Calls Tryd.prog 13 #[.agg #[.int .i64 t.k, .int .i64 t.n, .slice A t.al.length cap]] w1 (fun e w' => e = .returned (.int .i64 (size t)) ∧ Below w1.heap.size w1 w') :=
  psize_any t w1 _ h.1.1.arg (by omega)
end

set_option maxHeartbeats 1600000 in
theorem lawlift_any (t u : T) (bound a b : Int) (w : World) (s s' : Value) (ht : argsIn w w.heap.size t s) (hu : argsIn w w.heap.size u s') :
    Calls Tryd.prog 3 #[.agg #[.int .i64 t.k, .int .i64 t.n, s], .agg #[.int .i64 u.k, .int .i64 u.n, s'], .int .i64 bound, .int .i64 a, .int .i64 b] w (BoolPost true w) := by
  obtain ⟨A, cap, rfl, -⟩ := argsIn_iff.1 ht
  obtain ⟨A', cap', rfl, -⟩ := argsIn_iff.1 hu
  have HK0 := Lib.hid (Two.new ht hu)
  clear ht hu
  go_enter Tryd.func3, Tryd.ntmps3
  go_wp2_with fail
  refine (talive_any _).mono ?_
  rintro e w1 ⟨rfl, hb1⟩
  have HK1 := Lib.hid (HK0.out.more hb1)
  clear hb1 HK0
  go_upto_region 3 with fail
  go_cut [47] (fun v wc => ∃ c : Bool, v = .bool c ∧ (c = false → 0 ≤ bound ∧ bound ≤ 100 ∧ wrong t bound 9 = 0 ∧ wrong u bound 9 = 0 ∧ 0 ≤ a ∧ a ≤ 100 ∧ 0 ≤ b ∧ b ≤ 100) ∧ Two w t u A A' cap cap' wc)
  case first =>
    by_cases g1 : bound < 0
    · go_wp2_with fail
      go_meet
      exact ⟨true, rfl, fun h => (by cases h), HK1.out⟩
    · by_cases g2 : 100 < bound
      · go_wp2_with fail
        go_meet
        exact ⟨true, rfl, fun h => (by cases h), HK1.out⟩
      · obtain ⟨k0, k1, k2⟩ := HK1.out.1.1.tri.1
        go_wp2_with fail
        refine (wrong_any t bound 9 w1 _ HK1.out.1.arg (by omega) (by omega)).mono ?_
        rintro e w2 ⟨rfl, hb2⟩
        have HK2 := Lib.hid (HK1.out.more hb2)
        clear hb2 HK1 k0 k1 k2
        obtain ⟨r1, hr1⟩ : ∃ r, wrong t bound 9 = r := ⟨_, rfl⟩
        rw [hr1]
        have HR1 := Lib.hid hr1
        clear hr1
        by_cases z1 : r1 = 0
        · have zb1 : (r1 != 0) = false := by simpa using z1
          obtain ⟨k0, k1, k2⟩ := HK2.out.2.1.tri.1
          have Z1 := Lib.hid z1
          clear z1
          go_wp2_with fail
          refine (wrong_any u bound 9 w2 _ HK2.out.2.arg (by omega) (by omega)).mono ?_
          rintro e w3 ⟨rfl, hb3⟩
          have HK3 := Lib.hid (HK2.out.more hb3)
          clear hb3 HK2 k0 k1 k2
          obtain ⟨r2, hr2⟩ : ∃ r, wrong u bound 9 = r := ⟨_, rfl⟩
          rw [hr2]
          have HR2 := Lib.hid hr2
          clear hr2
          by_cases z2 : r2 = 0
          · have zb2 : (r2 != 0) = false := by simpa using z2
            have Z2 := Lib.hid z2
            clear z2
            by_cases g3 : a < 0
            · go_wp2_with fail
              go_meet
              exact ⟨true, rfl, fun h => (by cases h), HK3.out⟩
            · by_cases g4 : 100 < a
              · go_wp2_with fail
                go_meet
                exact ⟨true, rfl, fun h => (by cases h), HK3.out⟩
              · by_cases g5 : b < 0
                · go_wp2_with fail
                  go_meet
                  exact ⟨true, rfl, fun h => (by cases h), HK3.out⟩
                · by_cases g6 : 100 < b
                  · go_wp2_with fail
                    go_meet
                    exact ⟨true, rfl, fun h => (by cases h), HK3.out⟩
                  · go_wp2_with fail
                    go_meet
                    exact ⟨false, by rw [decide_eq_false (by omega : ¬ a < 0), decide_eq_false (by omega : ¬ 100 < a), decide_eq_false (by omega : ¬ b < 0), decide_eq_false (by omega : ¬ 100 < b)]; rfl, fun _ => ⟨by omega, by omega, HR1.out.trans Z1.out, HR2.out.trans Z2.out, by omega, by omega, by omega, by omega⟩, HK3.out⟩
          · have zb2 : (r2 != 0) = true := by simpa using z2
            clear z2
            go_wp2_with fail
            go_meet
            exact ⟨true, rfl, fun h => (by cases h), HK3.out⟩
        · have zb1 : (r1 != 0) = true := by simpa using z1
          clear z1
          go_wp2_with fail
          go_meet
          exact ⟨true, rfl, fun h => (by cases h), HK2.out⟩
  case rest =>
    obtain ⟨c, rfl, hc, hK⟩ := hcut
    cases c with
    | true =>
      go_wp2_with fail
      go_ret
      exact ⟨rfl, hK.1.2.2.1⟩
    | false =>
      obtain ⟨c1, c2, c3, c4, c5, c6, c7, c8⟩ := hc rfl
      have HK := Lib.hid hK
      have HO := Lib.hid (And.intro (ok_wrong c3 (by omega) (by omega)) (ok_wrong c4 (by omega) (by omega)))
      have hsz : size t ≤ 60 := (wrong_zero c3).2
      obtain ⟨k0, k1, k2⟩ := hK.1.1.tri.1
      clear c3 c4 hc hK
      go_wp2_with fail
      refine (lift_in 1 0 (by omega) (by omega) 300 (by omega) 24 t wc _ HO.out.1 HK.out.1.arg (by omega) (by omega)).mono ?_
      rintro e w2 ⟨s2, rfl, ha2, hb2⟩
      obtain ⟨A2, cap2, rfl, -⟩ := argsIn_iff.1 ha2
      have hKx := Kept.new (w := w) ha2 (HK.out.1.2.2.1.trans (hb2.mono HK.out.1.2.2.1.size))
      have hKt := (HK.out.more hb2).more ((Below.refl _ _).alloc (Nat.le_refl _) (.cells #[.int .i64 (liftT 1 t 0).k, .int .i64 (liftT 1 t 0).n, .slice A2 (liftT 1 t 0).al.length cap2] 24))
      obtain ⟨x, hx⟩ : ∃ x, liftT 1 t 0 = x := ⟨_, rfl⟩
      rw [hx] at hKt hKx ⊢
      have HXX := Lib.hid hx
      have HX3 := Lib.hid (show Tri w w2.heap.size t u x A A' A2 cap cap' cap2 _ from ⟨hKt, hKx⟩)
      clear hKx hKt ha2 hb2 k0 k1 k2 hx
      have hwab : IntKind.i64.wrap (a + b) = a + b := IntWalk.i64_in _ (by omega)
      have HC := Lib.hid (And.intro c5 (And.intro c6 (And.intro c7 c8)))
      have HSZ := Lib.hid hsz
      have HAB := Lib.hid (And.intro (show 0 ≤ a + b by omega) (show a + b ≤ 1000 by omega))
      have HA1 := Lib.hid (show a ≤ 1000 by omega)
      clear hsz
      go_wp2_with fail
      generalize w2.alloc (.cells #[.int .i64 x.k, .int .i64 x.n, .slice A2 x.al.length cap2] 24) = w3 at *
      obtain ⟨⟨a0, a1, a2⟩, ⟨a3, a4, a5⟩, a6, a7, a8⟩ := HX3.out.cells
      go_region_held3 (fun w' => w'.cell? ⟨w.heap.size, 0, none⟩ = some (.int .i64 t.k) ∧ w'.cell? ⟨w.heap.size, 1, none⟩ = some (.int .i64 t.n) ∧ w'.cell? ⟨w.heap.size, 2, none⟩ = some (.slice A t.al.length cap) ∧
          w'.cell? ⟨w.heap.size + 1, 0, none⟩ = some (.int .i64 u.k) ∧ w'.cell? ⟨w.heap.size + 1, 1, none⟩ = some (.int .i64 u.n) ∧ w'.cell? ⟨w.heap.size + 1, 2, none⟩ = some (.slice A' u.al.length cap') ∧
          w'.cell? ⟨w2.heap.size, 0, none⟩ = some (.int .i64 x.k) ∧ w'.cell? ⟨w2.heap.size, 1, none⟩ = some (.int .i64 x.n) ∧ w'.cell? ⟨w2.heap.size, 2, none⟩ = some (.slice A2 x.al.length cap2)) (go_keep)
        (first
          | ((with_reducible refine (HX3.out.drew.uses HO.out.1 HXX.out).mono ?_); rintro e w4 ⟨rfl, hb4⟩; (have HX4 := Lib.hid (HX3.out.drew.more hb4)); (obtain ⟨⟨b0, b1, b2⟩, ⟨b3, b4, b5⟩, b6, b7, b8⟩ := HX4.out.cells); clear hb4)
          | ((with_reducible refine (HX4.out.put HO.out.1 HO.out.2 HXX.out).mono ?_); rintro e w5 ⟨s5, rfl, ha5, hb5⟩; (have HX5 := Lib.hid (HX4.out.more hb5)); (have HS5 := Lib.hid ha5); (obtain ⟨⟨d0, d1, d2⟩, ⟨d3, d4, d5⟩, d6, d7, d8⟩ := HX5.out.cells); (obtain ⟨A5, cap5, rfl, -⟩ := argsIn_iff.1 ha5); clear hb5 ha5)
          | ((with_reducible refine (HX5.out.same HS5.out).mono ?_); rintro e w6 ⟨rfl, hb6⟩; (have HX6 := Lib.hid (HX5.out.more hb6)); (obtain ⟨⟨f0, f1, f2⟩, ⟨f3, f4, f5⟩, f6, f7, f8⟩ := HX6.out.cells); clear hb6)
          | ((with_reducible refine (HX6.out.lift HO.out.1 HC.out.1 HA1.out).mono ?_); rintro e w7 ⟨s7, rfl, ha7, hb7⟩; (have HX7 := Lib.hid (HX6.out.more hb7)); (have HS7 := Lib.hid ha7); (obtain ⟨⟨h0, h1, h2⟩, ⟨h3, h4, h5⟩, h6, h7, h8⟩ := HX7.out.cells); (obtain ⟨A7, cap7, rfl, -⟩ := argsIn_iff.1 ha7); clear hb7 ha7)
          | ((with_reducible refine (lift_again HO.out.1 HC.out.1 HC.out.2.1 HC.out.2.2.1 HC.out.2.2.2 HS7.out).mono ?_); rintro e w8 ⟨s8, rfl, ha8, hb8⟩; (have HX8 := Lib.hid (HX7.out.more hb8)); (have HS8 := Lib.hid ha8); (obtain ⟨⟨i0, i1, i2⟩, ⟨i3, i4, i5⟩, i6, i7, i8⟩ := HX8.out.cells); (obtain ⟨A8, cap8, rfl, -⟩ := argsIn_iff.1 ha8); clear hb8 ha8)
          | ((with_reducible refine (HX8.out.lift HO.out.1 HAB.out.1 HAB.out.2).mono ?_); rintro e w9 ⟨s9, rfl, ha9, hb9⟩; (have HX9 := Lib.hid (HX8.out.more hb9)); (have HS9 := Lib.hid (And.intro (HS8.out.keep hb9.size hb9) ha9)); (obtain ⟨⟨j0, j1, j2⟩, ⟨j3, j4, j5⟩, j6, j7, j8⟩ := HX9.out.cells); (obtain ⟨A9, cap9, rfl, -⟩ := argsIn_iff.1 ha9); clear hb9 ha9)
          | ((with_reducible refine (same_self (liftT (a + b) t 0) w9 HS9.out.1 HS9.out.2).mono ?_); rintro e w10 ⟨rfl, hb10⟩; (have HX10 := Lib.hid (HX9.out.more hb10)); (obtain ⟨⟨m0, m1, m2⟩, ⟨m3, m4, m5⟩, m6, m7, m8⟩ := HX10.out.cells); clear hb10)
          | ((with_reducible refine (HX10.out.sizex HXX.out HSZ.out).mono ?_); rintro e w11 ⟨rfl, hb11⟩; (have HX11 := Lib.hid (HX10.out.more hb11)); (obtain ⟨⟨n0, n1, n2⟩, ⟨n3, n4, n5⟩, n6, n7, n8⟩ := HX11.out.cells); clear hb11)
          | ((with_reducible refine (HX11.out.sizet HSZ.out).mono ?_); rintro e w12 ⟨rfl, hb12⟩; (have HX12 := Lib.hid (HX11.out.more hb12)); (obtain ⟨⟨o0, o1, o2⟩, ⟨o3, o4, o5⟩, o6, o7, o8⟩ := HX12.out.cells); clear hb12)
          | fail)
      go_wp2_with fail
      go_ret
      exact ⟨rfl, HX12.out.1.1.2.2.1⟩
end Go.Proofs.YtjboibbgigkhkaaDoor
