/- package infer: the type of a pair, by the contract of infer. -/
import Derived.Test.YtjboibbgigkhkaaGreatDoorYGF
import Derived.Test.YtjboibbgigkhkaaGreatDoorYGB
namespace Go.Proofs.YtjboibbgigkhkaaGreatDoor
open Go.RowKit
set_option maxRecDepth 100000

/-- a value of nothing but a kind, in its block -/
theorem leaf_blk {w : World} {g : Nat} {k n : Int} (h : Blk w g 96 #[.int .i64 k, .int .i64 n, .slice none 0 0, .slice none 0 0]) : ValAt w (.mk k n [] []) (.pointer (some ⟨g, 0, none⟩)) :=
  ValAt.box (v := .mk k n [] []) h (fun h => absurd rfl h) (fun h => absurd rfl h)

set_option maxHeartbeats 3200000 in
theorem fpair_any (ds : List ND) (f : Nat) (hI : InferC ds f) (g : Fi) (n : Int) (al : List T) (a b c d : T) (r : Val) (w : World) (fp s : Value) (ha : al[0]? = some a) (hb : al[1]? = some b) (hc : al[2]? = some c) (hd : al[3]? = some d) (hv : pairQ (ds.map Prod.snd) f (inferQ (ds.map Prod.snd) f) g a b c d = some r)
    (hl : g.types.length + 3 * f + 1 ≤ 9000) (hf : FinderAt w ds g fp) (hs : argsIn w w.heap.size (.mk 7 n al) s) :
    Calls Tryz.prog 155 #[fp, .agg #[.int .i64 7, .int .i64 n, s]] w (IPost r w) := by
  obtain ⟨SA, scap, hse, -⟩ := argsIn_iff.1 hs
  simp only [T.al] at hse
  subst hse
  obtain ⟨ab, ao, rfl⟩ := arg_form (t := .mk 7 n al) hs ha
  unfold pairQ at hv
  simp only [thenQ, Option.bind_eq_some_iff] at hv
  obtain ⟨⟨mx, v⟩, hbo, q1, hq1, hv⟩ := hv
  cases q1 with
  | false => simp at hv
  | true =>
  rw [if_pos rfl] at hv
  simp only [Option.bind_eq_some_iff] at hv
  obtain ⟨x, hx, u, hu, q2, hq2, hv⟩ := hv
  cases q2 with
  | false => simp at hv
  | true =>
  rw [if_pos rfl] at hv
  cases hv
  have hba := below_alloc' (Below.refl w.heap.size w) (.cells #[.int .i64 7, .int .i64 n, .slice (some ⟨ab, ao, none⟩) al.length scap] 30)
  have htb := TB.new (t := .mk 7 n al) hs
  simp only [T.k, T.n, T.al] at htb
  obtain ⟨S0, m0, ha0⟩ := arg_at htb.args ha
  obtain ⟨S1, m1, ha1⟩ := arg_at htb.args hb
  obtain ⟨S2, m2, ha2⟩ := arg_at htb.args hc
  obtain ⟨S3, m3, ha3⟩ := arg_at htb.args hd
  simp only [Nat.zero_mul, Nat.one_mul, Nat.add_zero, show 2 * 3 = 6 from rfl, show 3 * 3 = 9 from rfl] at ha0 ha1 ha2 ha3
  have hlenN0 : 0 < al.length := (List.getElem?_eq_some_iff.1 ha).1
  have hlenI0 : (0 : Int) < (al.length : Int) := by omega
  have hlenN1 : 1 < al.length := (List.getElem?_eq_some_iff.1 hb).1
  have hlenI1 : (1 : Int) < (al.length : Int) := by omega
  have hlenN2 : 2 < al.length := (List.getElem?_eq_some_iff.1 hc).1
  have hlenI2 : (2 : Int) < (al.length : Int) := by omega
  have hlenN3 : 3 < al.length := (List.getElem?_eq_some_iff.1 hd).1
  have hlenI3 : (3 : Int) < (al.length : Int) := by omega
  have HT := Lib.hid (And.intro htb (And.intro ha0 (And.intro ha1 (And.intro ha2 (And.intro ha3 (hf.keep hba))))))
  have HB := Lib.hid hba
  have HV := Lib.hid (And.intro hI (And.intro hbo (And.intro hq1 (And.intro hx (And.intro hu (And.intro hq2 hl))))))
  obtain ⟨fb, -, -, -, rfl, -⟩ := hf
  have HL01 := Lib.hid (Below.refl (w.alloc (.cells #[.int .i64 7, .int .i64 n, .slice (some ⟨ab, ao, none⟩) al.length scap] 30)).heap.size (w.alloc (.cells #[.int .i64 7, .int .i64 n, .slice (some ⟨ab, ao, none⟩) al.length scap] 30)))
  clear hs hba htb ha0 ha1 ha2 ha3 hbo hq1 hx hu hq2 hl hI ha hb hc hd
  have h0b : ((0 : Int) != 0) = false := by decide
  have HL1 := Lib.hid trivial
  have HL2 := Lib.hid trivial
  have HL3 := Lib.hid trivial
  have HL4 := Lib.hid trivial
  have HL5 := Lib.hid trivial
  have k2 := ((HT.out.1.keep HL01.out).blk.tri).1.2.2
  rw [show (T.mk 7 n al).al = al from rfl] at k2
  obtain ⟨a00, a01, a02⟩ := (HT.out.2.1.keep HL01.out).1
  obtain ⟨a10, a11, a12⟩ := (HT.out.2.2.1.keep HL01.out).1
  go_enter Tryz.func155, Tryz.ntmps155
  go_wp2_with fail
  generalize w.alloc (.cells #[.int .i64 7, .int .i64 n, .slice (some ⟨ab, ao, none⟩) al.length scap] 30) = w1 at *
  have HBO := Lib.hid (fun (w' : World) (hb : Below w1.heap.size w1 w') => both_any ds f HV.out.1 g a b (mx, v) w' _ _ _ HV.out.2.1 HV.out.2.2.2.2.2.2 (HT.out.2.2.2.2.2.keep hb) (HT.out.2.1.keep hb).2 (HT.out.2.2.1.keep hb).2)
  have HK1 := Lib.hid (And.intro k2 (And.intro a00 (And.intro a01 (And.intro a02 (And.intro a10 (And.intro a11 (a12)))))))
  go_region_held3 (fun w' => w'.cell? ⟨w.heap.size, 2, none⟩ = some (.slice (some ⟨ab, ao, none⟩) al.length scap) ∧ w'.cell? ⟨ab, ao, none⟩ = some (.int .i64 a.k) ∧ w'.cell? ⟨ab, ao + 1, none⟩ = some (.int .i64 a.n) ∧ w'.cell? ⟨ab, ao + 2, none⟩ = some (.slice S0 a.al.length m0) ∧ w'.cell? ⟨ab, ao + 3, none⟩ = some (.int .i64 b.k) ∧ w'.cell? ⟨ab, ao + 3 + 1, none⟩ = some (.int .i64 b.n) ∧ w'.cell? ⟨ab, ao + 3 + 2, none⟩ = some (.slice S1 b.al.length m1)) (go_keep)
    (first
      | ((go_at_call 153); (with_reducible refine (HBO.out _ (by (repeat (first | with_reducible exact Below.refl _ _ | with_reducible refine below_alloc' ?_ _ | with_reducible refine below_step ?_ HL1.out | with_reducible refine below_step ?_ HL2.out | with_reducible refine below_step ?_ HL3.out | with_reducible refine below_step ?_ HL4.out | with_reducible refine below_step ?_ HL5.out | with_reducible refine below_drew ?_)))).mono ?_); rintro e2 w2 ⟨p, rfl, hp, hb2⟩; (obtain ⟨pb, rfl⟩ := hp.form); (have HL1 := Lib.hid hb2); (have hbw : Below w1.heap.size w1 w2 := by (repeat (first | with_reducible exact Below.refl _ _ | with_reducible refine below_alloc' ?_ _ | with_reducible refine below_step ?_ HL1.out | with_reducible refine below_step ?_ HL2.out | with_reducible refine below_step ?_ HL3.out | with_reducible refine below_step ?_ HL4.out | with_reducible refine below_step ?_ HL5.out | with_reducible refine below_drew ?_))); (have HL02 := Lib.hid hbw); (have HP := Lib.hid hp); (have zHK10_0 := cell_keep hbw HK1.out.1); (have zHK10_1 := cell_keep hbw HK1.out.2.1); (have zHK10_2 := cell_keep hbw HK1.out.2.2.1); (have zHK10_3 := cell_keep hbw HK1.out.2.2.2.1); (have zHK10_4 := cell_keep hbw HK1.out.2.2.2.2.1); (have zHK10_5 := cell_keep hbw HK1.out.2.2.2.2.2.1); (have zHK10_6 := cell_keep hbw HK1.out.2.2.2.2.2.2); clear hp hb2 hbw)
      | fail)
  clear k2 a00 a01 a02 a10 a11 a12
  clear zHK10_0 zHK10_1 zHK10_2 zHK10_3 zHK10_4 zHK10_5 zHK10_6
  have k2 := ((HT.out.1.keep HL02.out).blk.tri).1.2.2
  rw [show (T.mk 7 n al).al = al from rfl] at k2
  obtain ⟨a20, a21, a22⟩ := (HT.out.2.2.2.1.keep HL02.out).1
  go_wp2_with fail
  refine (show Calls Tryz.prog 111 _ w2 (StrPost (.int .i64 0) w2) from check_any ds f HV.out.1 g c v true w2 _ _ _ HV.out.2.2.1 (by have := HV.out.2.2.2.2.2.2; omega) (HT.out.2.2.2.2.2.keep HL02.out) (HT.out.2.2.2.1.keep HL02.out).2 HP.out).mono ?_
  rintro e3 w3 ⟨rfl, hb3⟩
  have HL03 := Lib.hid (below_step HL02.out hb3)
  have HP3 := Lib.hid (HP.out.keep hb3)
  clear hb3
  clear k2 a20 a21 a22
  have k2 := ((HT.out.1.keep HL03.out).blk.tri).1.2.2
  rw [show (T.mk 7 n al).al = al from rfl] at k2
  obtain ⟨a10, a11, a12⟩ := (HT.out.2.2.1.keep HL03.out).1
  go_wp2_with fail
  refine (fclo_any ds g b w3 _ _ (HT.out.2.2.2.2.2.keep HL03.out) (HT.out.2.2.1.keep HL03.out).2).mono ?_
  rintro e4 w4 ⟨s4, ev4, rfl, hc4, hb4⟩
  obtain ⟨cea, rfl⟩ := hc4.2.form
  obtain ⟨CS, csc, rfl, -⟩ := argsIn_iff.1 hc4.1
  have hb5 := below_alloc' (Below.refl w4.heap.size w4) (.cells #[.int .i64 b.k, .int .i64 b.n, .slice CS b.al.length csc, .pointer cea] 100)
  have HL05 := Lib.hid (below_step HL03.out (below_step hb4 hb5))
  have HP5 := Lib.hid (HP3.out.keep (below_step hb4 hb5))
  have HC5 := Lib.hid (And.intro (hc4.keep hb5) (Blk.new w4 100 #[.int .i64 b.k, .int .i64 b.n, .slice CS b.al.length csc, .pointer cea]))
  clear hc4 hb4 hb5
  clear k2 a10 a11 a12
  have k2 := ((HT.out.1.keep HL05.out).blk.tri).1.2.2
  rw [show (T.mk 7 n al).al = al from rfl] at k2
  obtain ⟨a20, a21, a22⟩ := (HT.out.2.2.2.1.keep HL05.out).1
  obtain ⟨a30, a31, a32⟩ := (HT.out.2.2.2.2.1.keep HL05.out).1
  obtain ⟨c0, c1, c2, c3⟩ := HC5.out.2.four
  obtain ⟨fb', D, tv, ev, e, ⟨f0, f1, f2⟩, hD, -, -⟩ := HT.out.2.2.2.2.2.keep HL05.out
  cases e
  obtain ⟨DA, dcap, rfl, -⟩ := id hD
  have HD := Lib.hid hD
  clear hD f1 f2
  go_wp2_with fail
  generalize w4.alloc (.cells #[.int .i64 b.k, .int .i64 b.n, .slice CS b.al.length csc, .pointer cea] 100) = w5 at *
  have HK5 := Lib.hid (And.intro k2 (And.intro a20 (And.intro a21 (And.intro a22 (And.intro a30 (And.intro a31 (And.intro a32 (And.intro c0 (And.intro c1 (And.intro c2 (And.intro c3 (f0))))))))))))
  have HVL := Lib.hid (fun (w' : World) (hb : Below w5.heap.size w5 w') => fvalue_any ds f g c x HV.out.2.2.2.1 w' _ _ (HT.out.2.2.2.2.2.keep (below_step HL05.out hb)) (HT.out.2.2.2.1.keep (below_step HL05.out hb)).2)
  have HW := Lib.hid (show ∀ (w' : World) (k : Nat) (xp : Value), Blk w' k 63 #[xp] → Below w5.heap.size w5 w' → ValAt w' x xp →
      Calls Tryz.prog 60 #[.agg #[.int .i64 b.k, .int .i64 b.n, .slice CS b.al.length csc, .pointer cea], .slice DA ds.length dcap, .slice (some ⟨k, 0, none⟩) 1 1] w' (VPost u w') from
    fun w' k xp hB hb hx => with_any ds f (eval_any ds f).1 (b, g.env) [x] u HV.out.2.2.2.2.1 w' _ _ _ (some ⟨k, 0, none⟩) 1 (by simp) (HD.out.keep hb) (HC5.out.1.keep hb) (vals_blk hB hx))
  have HCK := Lib.hid (show ∀ (w' : World) (up : Value), Below w5.heap.size w5 w' → ValAt w' u up → Calls Tryz.prog 111 #[.pointer (some ⟨fb, 0, none⟩), .agg #[.int .i64 d.k, .int .i64 d.n, .slice S3 d.al.length m3], up] w' (StrPost (.int .i64 0) w') from
    fun w' up hb hu => check_any ds f HV.out.1 g d u true w' _ _ _ HV.out.2.2.2.2.2.1 (by have := HV.out.2.2.2.2.2.2; omega) (HT.out.2.2.2.2.2.keep (below_step HL05.out hb)) (HT.out.2.2.2.2.1.keep (below_step HL05.out hb)).2 hu)
  go_wp2_with fail
  go_region_held3 (fun w' => w'.cell? ⟨w.heap.size, 2, none⟩ = some (.slice (some ⟨ab, ao, none⟩) al.length scap) ∧ w'.cell? ⟨ab, ao + 6, none⟩ = some (.int .i64 c.k) ∧ w'.cell? ⟨ab, ao + 6 + 1, none⟩ = some (.int .i64 c.n) ∧ w'.cell? ⟨ab, ao + 6 + 2, none⟩ = some (.slice S2 c.al.length m2) ∧ w'.cell? ⟨ab, ao + 9, none⟩ = some (.int .i64 d.k) ∧ w'.cell? ⟨ab, ao + 9 + 1, none⟩ = some (.int .i64 d.n) ∧ w'.cell? ⟨ab, ao + 9 + 2, none⟩ = some (.slice S3 d.al.length m3) ∧ w'.cell? ⟨w4.heap.size, 0, none⟩ = some (.int .i64 b.k) ∧ w'.cell? ⟨w4.heap.size, 1, none⟩ = some (.int .i64 b.n) ∧ w'.cell? ⟨w4.heap.size, 2, none⟩ = some (.slice CS b.al.length csc) ∧ w'.cell? ⟨w4.heap.size, 3, none⟩ = some (.pointer cea) ∧ w'.cell? ⟨fb, 0, none⟩ = some (.slice DA ds.length dcap)) (go_keep)
    (first
      | ((go_at_call 112); (with_reducible refine (HVL.out _ (by (repeat (first | with_reducible exact Below.refl _ _ | with_reducible refine below_alloc' ?_ _ | with_reducible refine below_step ?_ HL1.out | with_reducible refine below_step ?_ HL2.out | with_reducible refine below_step ?_ HL3.out | with_reducible refine below_step ?_ HL4.out | with_reducible refine below_step ?_ HL5.out | with_reducible refine below_drew ?_)))).mono ?_); rintro e6 w6 ⟨xp, rfl, hx6, hb6⟩; (obtain ⟨xb, rfl⟩ := hx6.form); (have HL1 := Lib.hid hb6); (have hbw : Below w5.heap.size w5 w6 := by (repeat (first | with_reducible exact Below.refl _ _ | with_reducible refine below_alloc' ?_ _ | with_reducible refine below_step ?_ HL1.out | with_reducible refine below_step ?_ HL2.out | with_reducible refine below_step ?_ HL3.out | with_reducible refine below_step ?_ HL4.out | with_reducible refine below_step ?_ HL5.out | with_reducible refine below_drew ?_))); (have HX6 := Lib.hid hx6); (have zHK50_0 := cell_keep hbw HK5.out.1); (have zHK50_1 := cell_keep hbw HK5.out.2.1); (have zHK50_2 := cell_keep hbw HK5.out.2.2.1); (have zHK50_3 := cell_keep hbw HK5.out.2.2.2.1); (have zHK50_4 := cell_keep hbw HK5.out.2.2.2.2.1); (have zHK50_5 := cell_keep hbw HK5.out.2.2.2.2.2.1); (have zHK50_6 := cell_keep hbw HK5.out.2.2.2.2.2.2.1); (have zHK50_7 := cell_keep hbw HK5.out.2.2.2.2.2.2.2.1); (have zHK50_8 := cell_keep hbw HK5.out.2.2.2.2.2.2.2.2.1); (have zHK50_9 := cell_keep hbw HK5.out.2.2.2.2.2.2.2.2.2.1); (have zHK50_10 := cell_keep hbw HK5.out.2.2.2.2.2.2.2.2.2.2.1); (have zHK50_11 := cell_keep hbw HK5.out.2.2.2.2.2.2.2.2.2.2.2); clear hx6 hb6 hbw)
      | ((go_at_call 60); (with_reducible refine (HW.out _ _ _ (by (first | (with_reducible refine (Blk.new' ?_); simp; done) | (with_reducible refine ((Blk.new' ?_)).alloc _; simp; done) | (with_reducible refine ((Blk.new' ?_)).more HL1.out; simp; done) | (with_reducible refine (((Blk.new' ?_)).more HL1.out).alloc _; simp; done) | (with_reducible refine (Blk.drew' (Blk.new' ?_)); simp; done) | (with_reducible refine ((Blk.drew' (Blk.new' ?_))).alloc _; simp; done) | (with_reducible refine ((Blk.drew' (Blk.new' ?_))).more HL1.out; simp; done) | (with_reducible refine (((Blk.drew' (Blk.new' ?_))).more HL1.out).alloc _; simp; done) | (with_reducible refine Blk.drew' ((Blk.new' ?_).alloc _); simp; done) | (with_reducible refine Blk.drew' (((Blk.new' ?_).alloc _).alloc _); simp; done) | (with_reducible refine ((Blk.drew' ((Blk.new' ?_).alloc _))).alloc _; simp; done) | (with_reducible refine Blk.drew' (Blk.new' ?_); simp; done))) (by (repeat (first | with_reducible exact Below.refl _ _ | with_reducible refine below_alloc' ?_ _ | with_reducible refine below_step ?_ HL1.out | with_reducible refine below_step ?_ HL2.out | with_reducible refine below_step ?_ HL3.out | with_reducible refine below_step ?_ HL4.out | with_reducible refine below_step ?_ HL5.out | with_reducible refine below_drew ?_))) (HX6.out.keep (by (repeat (first | with_reducible exact Below.refl _ _ | with_reducible refine below_alloc' ?_ _ | with_reducible refine below_step ?_ HL1.out | with_reducible refine below_step ?_ HL2.out | with_reducible refine below_step ?_ HL3.out | with_reducible refine below_step ?_ HL4.out | with_reducible refine below_step ?_ HL5.out | with_reducible refine below_drew ?_))))).mono ?_); rintro e7 w7 ⟨up, rfl, hu7, hb7⟩; (obtain ⟨ub, rfl⟩ := hu7.form); (have HL2 := Lib.hid hb7); (have hbw : Below w5.heap.size w5 w7 := by (repeat (first | with_reducible exact Below.refl _ _ | with_reducible refine below_alloc' ?_ _ | with_reducible refine below_step ?_ HL1.out | with_reducible refine below_step ?_ HL2.out | with_reducible refine below_step ?_ HL3.out | with_reducible refine below_step ?_ HL4.out | with_reducible refine below_step ?_ HL5.out | with_reducible refine below_drew ?_))); (have HU7 := Lib.hid hu7); (have zHK51_0 := cell_keep hbw HK5.out.1); (have zHK51_1 := cell_keep hbw HK5.out.2.1); (have zHK51_2 := cell_keep hbw HK5.out.2.2.1); (have zHK51_3 := cell_keep hbw HK5.out.2.2.2.1); (have zHK51_4 := cell_keep hbw HK5.out.2.2.2.2.1); (have zHK51_5 := cell_keep hbw HK5.out.2.2.2.2.2.1); (have zHK51_6 := cell_keep hbw HK5.out.2.2.2.2.2.2.1); (have zHK51_7 := cell_keep hbw HK5.out.2.2.2.2.2.2.2.1); (have zHK51_8 := cell_keep hbw HK5.out.2.2.2.2.2.2.2.2.1); (have zHK51_9 := cell_keep hbw HK5.out.2.2.2.2.2.2.2.2.2.1); (have zHK51_10 := cell_keep hbw HK5.out.2.2.2.2.2.2.2.2.2.2.1); (have zHK51_11 := cell_keep hbw HK5.out.2.2.2.2.2.2.2.2.2.2.2); clear hu7 hb7 hbw)
      | ((go_at_call 111); (with_reducible refine (HCK.out _ _ (by (repeat (first | with_reducible exact Below.refl _ _ | with_reducible refine below_alloc' ?_ _ | with_reducible refine below_step ?_ HL1.out | with_reducible refine below_step ?_ HL2.out | with_reducible refine below_step ?_ HL3.out | with_reducible refine below_step ?_ HL4.out | with_reducible refine below_step ?_ HL5.out | with_reducible refine below_drew ?_))) (HU7.out.keep (by (repeat (first | with_reducible exact Below.refl _ _ | with_reducible refine below_alloc' ?_ _ | with_reducible refine below_step ?_ HL1.out | with_reducible refine below_step ?_ HL2.out | with_reducible refine below_step ?_ HL3.out | with_reducible refine below_step ?_ HL4.out | with_reducible refine below_step ?_ HL5.out | with_reducible refine below_drew ?_))))).mono ?_); rintro e8 w8 ⟨rfl, hb8⟩; (have HL3 := Lib.hid hb8); (have hbw : Below w5.heap.size w5 w8 := by (repeat (first | with_reducible exact Below.refl _ _ | with_reducible refine below_alloc' ?_ _ | with_reducible refine below_step ?_ HL1.out | with_reducible refine below_step ?_ HL2.out | with_reducible refine below_step ?_ HL3.out | with_reducible refine below_step ?_ HL4.out | with_reducible refine below_step ?_ HL5.out | with_reducible refine below_drew ?_))); (have HBW8 := Lib.hid hbw); (have zHK52_0 := cell_keep hbw HK5.out.1); (have zHK52_1 := cell_keep hbw HK5.out.2.1); (have zHK52_2 := cell_keep hbw HK5.out.2.2.1); (have zHK52_3 := cell_keep hbw HK5.out.2.2.2.1); (have zHK52_4 := cell_keep hbw HK5.out.2.2.2.2.1); (have zHK52_5 := cell_keep hbw HK5.out.2.2.2.2.2.1); (have zHK52_6 := cell_keep hbw HK5.out.2.2.2.2.2.2.1); (have zHK52_7 := cell_keep hbw HK5.out.2.2.2.2.2.2.2.1); (have zHK52_8 := cell_keep hbw HK5.out.2.2.2.2.2.2.2.2.1); (have zHK52_9 := cell_keep hbw HK5.out.2.2.2.2.2.2.2.2.2.1); (have zHK52_10 := cell_keep hbw HK5.out.2.2.2.2.2.2.2.2.2.2.1); (have zHK52_11 := cell_keep hbw HK5.out.2.2.2.2.2.2.2.2.2.2.2); clear hb8 hbw)
      | fail)
  clear k2 a20 a21 a22 a30 a31 a32 c0 c1 c2 c3 f0
  obtain ⟨c0, c1, c2, c3⟩ := (HC5.out.2.more (below_step HBW8.out (below_alloc' (Below.refl w8.heap.size w8) (.cells #[.pointer (some ⟨pb, 0, none⟩)] 63)))).four
  go_wp2_with fail
  go_ret2
  have hpp := HP5.out.keep HBW8.out
  have hcc := HC5.out.1.keep HBW8.out
  have hbx := below_alloc' (below_alloc' (below_alloc' (Below.refl w8.heap.size w8) (.cells #[.pointer (some ⟨pb, 0, none⟩)] 63)) (.cells #[.int .i64 b.k, .int .i64 b.n, .slice CS b.al.length csc, .pointer cea] 100)) (.cells #[.int .i64 6, .int .i64 0, .slice (some ⟨w8.heap.size, 0, none⟩) 1 1, .slice (some ⟨w8.heap.size + 1, 0, none⟩) 1 1] 96)
  exact ⟨_, rfl, val_bind (xs := [v]) (ps := #[.pointer (some ⟨pb, 0, none⟩)]) (m := 1) (c := (b, g.env)) (ta := 63) (tb := 100) (tx := 96) rfl (((Blk.new' rfl).alloc _).alloc _) ((Blk.new' (by simp)).alloc _) (Blk.new' (by simp)) (RowV.one (hpp.keep hbx)) (hcc.keep hbx), below_step (below_step (below_step HB.out HL05.out) HBW8.out) hbx⟩
end Go.Proofs.YtjboibbgigkhkaaGreatDoor

/- package infer: the type of what comes of a number, by the contract of infer. -/
namespace Go.Proofs.YtjboibbgigkhkaaGreatDoor
open Go.RowKit
set_option maxRecDepth 100000

/-- one more of a value, in its block -/
theorem suc_blk {w : World} {g k2 : Nat} {x : Val} {p : Value} (h : Blk w g 96 #[.int .i64 16, .int .i64 0, .slice (some ⟨k2, 0, none⟩) 1 1, .slice none 0 0]) (hR : Blk w k2 63 #[p]) (hx : ValAt w x p) : ValAt w (.mk 16 0 [x] []) (.pointer (some ⟨g, 0, none⟩)) :=
  ValAt.box (v := .mk 16 0 [x] []) h (fun _ => args_row hR (RowV.one hx)) (fun h => absurd rfl h)

set_option maxHeartbeats 6400000 in
theorem frec_any (ds : List ND) (f : Nat) (hI : InferC ds f) (g : Fi) (n : Int) (al : List T) (c z s m : T) (r : Val) (w : World) (fp sv : Value) (hc : al[0]? = some c) (hz : al[1]? = some z) (hs' : al[2]? = some s) (hm : al[3]? = some m) (hv : recQ (ds.map Prod.snd) f (inferQ (ds.map Prod.snd) f) g c z s m = some r)
    (hl : g.types.length + 3 * f + 2 ≤ 9000) (hf : FinderAt w ds g fp) (hs : argsIn w w.heap.size (.mk 17 n al) sv) :
    Calls Tryz.prog 156 #[fp, .agg #[.int .i64 17, .int .i64 n, sv]] w (IPost r w) := by
  obtain ⟨SA, scap, hse, -⟩ := argsIn_iff.1 hs
  simp only [T.al] at hse
  subst hse
  obtain ⟨ab, ao, rfl⟩ := arg_form (t := .mk 17 n al) hs hc
  unfold recQ at hv
  simp only [thenQ, Option.bind_eq_some_iff] at hv
  obtain ⟨so, hso, w0, hw0, q1, hq1, hv⟩ := hv
  cases q1 with
  | false => simp at hv
  | true =>
  rw [if_pos rfl] at hv
  simp only [Option.bind_eq_some_iff] at hv
  obtain ⟨v1, hv1, v2, hv2, q2, hq2, hv⟩ := hv
  cases q2 with
  | false => simp at hv
  | true =>
  rw [if_pos rfl] at hv
  simp only [Option.bind_eq_some_iff] at hv
  obtain ⟨q3, hq3, hv⟩ := hv
  cases q3 with
  | false => simp at hv
  | true =>
  rw [if_pos rfl] at hv
  simp only [Option.bind_eq_some_iff] at hv
  obtain ⟨u, hu, hv⟩ := hv
  have hba := below_alloc' (Below.refl w.heap.size w) (.cells #[.int .i64 17, .int .i64 n, .slice (some ⟨ab, ao, none⟩) al.length scap] 30)
  have htb := TB.new (t := .mk 17 n al) hs
  simp only [T.k, T.n, T.al] at htb
  obtain ⟨S0, m0, ha0⟩ := arg_at htb.args hc
  obtain ⟨S1, m1, ha1⟩ := arg_at htb.args hz
  obtain ⟨S2, m2, ha2⟩ := arg_at htb.args hs'
  obtain ⟨S3, m3, ha3⟩ := arg_at htb.args hm
  simp only [Nat.zero_mul, Nat.one_mul, Nat.add_zero, show 2 * 3 = 6 from rfl, show 3 * 3 = 9 from rfl] at ha0 ha1 ha2 ha3
  have hlenN0 : 0 < al.length := (List.getElem?_eq_some_iff.1 hc).1
  have hlenI0 : (0 : Int) < (al.length : Int) := by omega
  have hlenN1 : 1 < al.length := (List.getElem?_eq_some_iff.1 hz).1
  have hlenI1 : (1 : Int) < (al.length : Int) := by omega
  have hlenN2 : 2 < al.length := (List.getElem?_eq_some_iff.1 hs').1
  have hlenI2 : (2 : Int) < (al.length : Int) := by omega
  have hlenN3 : 3 < al.length := (List.getElem?_eq_some_iff.1 hm).1
  have hlenI3 : (3 : Int) < (al.length : Int) := by omega
  have HT := Lib.hid (And.intro htb (And.intro ha0 (And.intro ha1 (And.intro ha2 (And.intro ha3 (hf.keep hba))))))
  have HB := Lib.hid hba
  have HV := Lib.hid (And.intro hI (And.intro hso (And.intro hw0 (And.intro hq1 (And.intro hv1 (And.intro hv2 (And.intro hq2 (And.intro hq3 (And.intro hu (And.intro hv hl))))))))))
  have hbn := below_alloc' (Below.refl (w.alloc (.cells #[.int .i64 17, .int .i64 n, .slice (some ⟨ab, ao, none⟩) al.length scap] 30)).heap.size (w.alloc (.cells #[.int .i64 17, .int .i64 n, .slice (some ⟨ab, ao, none⟩) al.length scap] 30))) (.cells #[.int .i64 14, .int .i64 0, .slice none 0 0, .slice none 0 0] 96)
  have hT' := HT.out
  clear HT
  have HT := Lib.hid (And.intro (hT'.1.keep hbn) (And.intro (hT'.2.1.keep hbn) (And.intro (hT'.2.2.1.keep hbn) (And.intro (hT'.2.2.2.1.keep hbn) (And.intro (hT'.2.2.2.2.1.keep hbn) (hT'.2.2.2.2.2.keep hbn))))))
  have hB' := HB.out
  clear HB
  have HB := Lib.hid (below_step hB' hbn)
  have hnb := leaf_blk (k := 14) (n := 0) (Blk.new (w.alloc (.cells #[.int .i64 17, .int .i64 n, .slice (some ⟨ab, ao, none⟩) al.length scap] 30)) 96 #[.int .i64 14, .int .i64 0, .slice none 0 0, .slice none 0 0])
  rw [show (w.alloc (.cells #[.int .i64 17, .int .i64 n, .slice (some ⟨ab, ao, none⟩) al.length scap] 30)).heap.size = w.heap.size + 1 by simp] at hnb
  have HNB := Lib.hid hnb
  obtain ⟨fb, -, -, -, rfl, -⟩ := hf
  clear hs hba htb ha0 ha1 ha2 ha3 hso hw0 hq1 hv1 hv2 hq2 hq3 hu hv hl hI hc hz hs' hm hbn hT' hB' hnb
  have h0b : ((0 : Int) != 0) = false := by decide
  have HL1 := Lib.hid trivial
  have HL2 := Lib.hid trivial
  have HL3 := Lib.hid trivial
  have HL4 := Lib.hid trivial
  have HL5 := Lib.hid trivial
  go_enter Tryz.func156, Tryz.ntmps156
  go_wp2_with fail
  generalize (w.alloc (.cells #[.int .i64 17, .int .i64 n, .slice (some ⟨ab, ao, none⟩) al.length scap] 30)).alloc (.cells #[.int .i64 14, .int .i64 0, .slice none 0 0, .slice none 0 0] 96) = w1 at *
  refine (funder_any ds g natV (by have := HV.out.2.2.2.2.2.2.2.2.2.2; omega) w1 _ _ HT.out.2.2.2.2.2 HNB.out).mono ?_
  rintro e2 w2 ⟨ip, rfl, hi2, hb2⟩
  obtain ⟨ib, -, -, -, rfl, -⟩ := id hi2
  have HL02 := Lib.hid hb2
  have HI2 := Lib.hid hi2
  clear hi2 hb2
  have k2 := ((HT.out.1.keep HL02.out).blk.tri).1.2.2
  rw [show (T.mk 17 n al).al = al from rfl] at k2
  obtain ⟨a00, a01, a02⟩ := (HT.out.2.1.keep HL02.out).1
  go_wp2_with fail
  refine (sort_any ds f HV.out.1 (g.under natV) c so w2 _ _ HV.out.2.1 (by have := HV.out.2.2.2.2.2.2.2.2.2.2; simp [Fi.under]; omega) HI2.out (HT.out.2.1.keep HL02.out).2).mono ?_
  rintro e3 w3 ⟨rfl, hb3⟩
  have HL03 := Lib.hid (below_step HL02.out hb3)
  have HI3 := Lib.hid (HI2.out.keep hb3)
  clear hb3
  clear k2 a00 a01 a02
  have k2 := ((HT.out.1.keep HL03.out).blk.tri).1.2.2
  rw [show (T.mk 17 n al).al = al from rfl] at k2
  obtain ⟨a00, a01, a02⟩ := (HT.out.2.1.keep HL03.out).1
  go_wp2_with fail
  refine (fclo_any ds g c w3 _ _ (HT.out.2.2.2.2.2.keep HL03.out) (HT.out.2.1.keep HL03.out).2).mono ?_
  rintro e4 w4 ⟨s4, ev4, rfl, hc4, hb4⟩
  obtain ⟨cea, rfl⟩ := hc4.2.form
  obtain ⟨CS, csc, rfl, -⟩ := argsIn_iff.1 hc4.1
  have hb5 := below_alloc' (Below.refl w4.heap.size w4) (.cells #[.int .i64 c.k, .int .i64 c.n, .slice CS c.al.length csc, .pointer cea] 100)
  have HL05 := Lib.hid (below_step HL03.out (below_step hb4 hb5))
  have HI5 := Lib.hid (HI3.out.keep (below_step hb4 hb5))
  have HC5 := Lib.hid (And.intro (hc4.keep hb5) (Blk.new w4 100 #[.int .i64 c.k, .int .i64 c.n, .slice CS c.al.length csc, .pointer cea]))
  clear hc4 hb4 hb5
  clear k2 a00 a01 a02
  have k2 := ((HT.out.1.keep HL05.out).blk.tri).1.2.2
  rw [show (T.mk 17 n al).al = al from rfl] at k2
  obtain ⟨a10, a11, a12⟩ := (HT.out.2.2.1.keep HL05.out).1
  obtain ⟨c0, c1, c2, c3⟩ := HC5.out.2.four
  obtain ⟨fb', D, tv, ev, e, ⟨f0, f1, f2⟩, hD, -, -⟩ := HT.out.2.2.2.2.2.keep HL05.out
  cases e
  obtain ⟨DA, dcap, rfl, -⟩ := id hD
  have HD := Lib.hid (And.intro hD f0)
  clear hD f1 f2
  go_wp2_with fail
  generalize w4.alloc (.cells #[.int .i64 c.k, .int .i64 c.n, .slice CS c.al.length csc, .pointer cea] 100) = w5 at *
  have HK5 := Lib.hid (And.intro k2 (And.intro a10 (And.intro a11 (And.intro a12 (And.intro c0 (And.intro c1 (And.intro c2 (And.intro c3 (f0)))))))))
  have HWZ := Lib.hid (show ∀ (w' : World) (k : Nat) (xp : Value), Blk w' k 63 #[xp] → Below w5.heap.size w5 w' → ValAt w' (.mk 15 0 [] []) xp →
      Calls Tryz.prog 60 #[.agg #[.int .i64 c.k, .int .i64 c.n, .slice CS c.al.length csc, .pointer cea], .slice DA ds.length dcap, .slice (some ⟨k, 0, none⟩) 1 1] w' (VPost w0 w') from
    fun w' k xp hB hb hx => with_any ds f (eval_any ds f).1 (c, g.env) [(.mk 15 0 [] [])] w0 HV.out.2.2.1 w' _ _ _ (some ⟨k, 0, none⟩) 1 (by simp) (HD.out.1.keep hb) (HC5.out.1.keep hb) (vals_blk hB hx))
  have HCZ := Lib.hid (show ∀ (w' : World) (up : Value), Below w5.heap.size w5 w' → ValAt w' w0 up → Calls Tryz.prog 111 #[.pointer (some ⟨fb, 0, none⟩), .agg #[.int .i64 z.k, .int .i64 z.n, .slice S1 z.al.length m1], up] w' (StrPost (.int .i64 0) w') from
    fun w' up hb hu => check_any ds f HV.out.1 g z w0 true w' _ _ _ HV.out.2.2.2.1 (by have := HV.out.2.2.2.2.2.2.2.2.2.2; omega) ((HT.out.2.2.2.2.2.keep HL05.out).keep hb) (HT.out.2.2.1.keep (below_step HL05.out hb)).2 hu)
  have HK5P := Lib.hid (show ∀ W : World, Below w5.heap.size w5 W → W.cell? ⟨w.heap.size, 2, none⟩ = some (.slice (some ⟨ab, ao, none⟩) al.length scap) ∧ W.cell? ⟨ab, ao + 3, none⟩ = some (.int .i64 z.k) ∧ W.cell? ⟨ab, ao + 3 + 1, none⟩ = some (.int .i64 z.n) ∧ W.cell? ⟨ab, ao + 3 + 2, none⟩ = some (.slice S1 z.al.length m1) ∧ W.cell? ⟨w4.heap.size, 0, none⟩ = some (.int .i64 c.k) ∧ W.cell? ⟨w4.heap.size, 1, none⟩ = some (.int .i64 c.n) ∧ W.cell? ⟨w4.heap.size, 2, none⟩ = some (.slice CS c.al.length csc) ∧ W.cell? ⟨w4.heap.size, 3, none⟩ = some (.pointer cea) ∧ W.cell? ⟨fb, 0, none⟩ = some (.slice DA ds.length dcap) from fun W hb => And.intro (cell_keep hb HK5.out.1) (And.intro (cell_keep hb HK5.out.2.1) (And.intro (cell_keep hb HK5.out.2.2.1) (And.intro (cell_keep hb HK5.out.2.2.2.1) (And.intro (cell_keep hb HK5.out.2.2.2.2.1) (And.intro (cell_keep hb HK5.out.2.2.2.2.2.1) (And.intro (cell_keep hb HK5.out.2.2.2.2.2.2.1) (And.intro (cell_keep hb HK5.out.2.2.2.2.2.2.2.1) (cell_keep hb HK5.out.2.2.2.2.2.2.2.2)))))))))
  go_region_held3 (fun w' => w'.cell? ⟨w.heap.size, 2, none⟩ = some (.slice (some ⟨ab, ao, none⟩) al.length scap) ∧ w'.cell? ⟨ab, ao + 3, none⟩ = some (.int .i64 z.k) ∧ w'.cell? ⟨ab, ao + 3 + 1, none⟩ = some (.int .i64 z.n) ∧ w'.cell? ⟨ab, ao + 3 + 2, none⟩ = some (.slice S1 z.al.length m1) ∧ w'.cell? ⟨w4.heap.size, 0, none⟩ = some (.int .i64 c.k) ∧ w'.cell? ⟨w4.heap.size, 1, none⟩ = some (.int .i64 c.n) ∧ w'.cell? ⟨w4.heap.size, 2, none⟩ = some (.slice CS c.al.length csc) ∧ w'.cell? ⟨w4.heap.size, 3, none⟩ = some (.pointer cea) ∧ w'.cell? ⟨fb, 0, none⟩ = some (.slice DA ds.length dcap)) (first | (with_reducible refine HK5P.out _ ?_; ((repeat (first | with_reducible exact Below.refl _ _ | with_reducible refine below_alloc' ?_ _ | with_reducible refine below_step ?_ HL1.out | with_reducible refine below_step ?_ HL2.out | with_reducible refine below_step ?_ HL3.out | with_reducible refine below_step ?_ HL4.out | with_reducible refine below_step ?_ HL5.out | with_reducible refine below_drew ?_))); done) | go_keep)
    (first
      | ((go_at_call 60); (with_reducible refine (HWZ.out _ _ _ (by (first | (with_reducible refine (Blk.new' ?_); simp; done) | (with_reducible refine ((Blk.new' ?_)).alloc _; simp; done) | (with_reducible refine ((Blk.new' ?_)).more HL1.out; simp; done) | (with_reducible refine (((Blk.new' ?_)).more HL1.out).alloc _; simp; done) | (with_reducible refine (Blk.drew' (Blk.new' ?_)); simp; done) | (with_reducible refine ((Blk.drew' (Blk.new' ?_))).alloc _; simp; done) | (with_reducible refine ((Blk.drew' (Blk.new' ?_))).more HL1.out; simp; done) | (with_reducible refine (((Blk.drew' (Blk.new' ?_))).more HL1.out).alloc _; simp; done) | (with_reducible refine Blk.drew' ((Blk.new' ?_).alloc _); simp; done) | (with_reducible refine Blk.drew' (((Blk.new' ?_).alloc _).alloc _); simp; done) | (with_reducible refine ((Blk.drew' ((Blk.new' ?_).alloc _))).alloc _; simp; done) | (with_reducible refine Blk.drew' (Blk.new' ?_); simp; done))) (by (repeat (first | with_reducible exact Below.refl _ _ | with_reducible refine below_alloc' ?_ _ | with_reducible refine below_step ?_ HL1.out | with_reducible refine below_step ?_ HL2.out | with_reducible refine below_step ?_ HL3.out | with_reducible refine below_step ?_ HL4.out | with_reducible refine below_step ?_ HL5.out | with_reducible refine below_drew ?_))) (leaf_blk (by (first | (with_reducible refine (Blk.new' ?_); simp; done) | (with_reducible refine ((Blk.new' ?_)).alloc _; simp; done) | (with_reducible refine ((Blk.new' ?_)).more HL1.out; simp; done) | (with_reducible refine (((Blk.new' ?_)).more HL1.out).alloc _; simp; done) | (with_reducible refine (Blk.drew' (Blk.new' ?_)); simp; done) | (with_reducible refine ((Blk.drew' (Blk.new' ?_))).alloc _; simp; done) | (with_reducible refine ((Blk.drew' (Blk.new' ?_))).more HL1.out; simp; done) | (with_reducible refine (((Blk.drew' (Blk.new' ?_))).more HL1.out).alloc _; simp; done) | (with_reducible refine Blk.drew' ((Blk.new' ?_).alloc _); simp; done) | (with_reducible refine Blk.drew' (((Blk.new' ?_).alloc _).alloc _); simp; done) | (with_reducible refine ((Blk.drew' ((Blk.new' ?_).alloc _))).alloc _; simp; done) | (with_reducible refine Blk.drew' (Blk.new' ?_); simp; done))))).mono ?_); rintro e6 w6 ⟨xp, rfl, hx6, hb6⟩; (obtain ⟨xb, rfl⟩ := hx6.form); (have HL1 := Lib.hid hb6); (have hbw : Below w5.heap.size w5 w6 := by (repeat (first | with_reducible exact Below.refl _ _ | with_reducible refine below_alloc' ?_ _ | with_reducible refine below_step ?_ HL1.out | with_reducible refine below_step ?_ HL2.out | with_reducible refine below_step ?_ HL3.out | with_reducible refine below_step ?_ HL4.out | with_reducible refine below_step ?_ HL5.out | with_reducible refine below_drew ?_))); (have HX6 := Lib.hid hx6); (have zHK50_0 := cell_keep hbw HK5.out.1); (have zHK50_1 := cell_keep hbw HK5.out.2.1); (have zHK50_2 := cell_keep hbw HK5.out.2.2.1); (have zHK50_3 := cell_keep hbw HK5.out.2.2.2.1); (have zHK50_4 := cell_keep hbw HK5.out.2.2.2.2.1); (have zHK50_5 := cell_keep hbw HK5.out.2.2.2.2.2.1); (have zHK50_6 := cell_keep hbw HK5.out.2.2.2.2.2.2.1); (have zHK50_7 := cell_keep hbw HK5.out.2.2.2.2.2.2.2.1); (have zHK50_8 := cell_keep hbw HK5.out.2.2.2.2.2.2.2.2); clear hx6 hb6 hbw)
      | ((go_at_call 111); (with_reducible refine (HCZ.out _ _ (by (repeat (first | with_reducible exact Below.refl _ _ | with_reducible refine below_alloc' ?_ _ | with_reducible refine below_step ?_ HL1.out | with_reducible refine below_step ?_ HL2.out | with_reducible refine below_step ?_ HL3.out | with_reducible refine below_step ?_ HL4.out | with_reducible refine below_step ?_ HL5.out | with_reducible refine below_drew ?_))) (HX6.out.keep (by (repeat (first | with_reducible exact Below.refl _ _ | with_reducible refine below_alloc' ?_ _ | with_reducible refine below_step ?_ HL1.out | with_reducible refine below_step ?_ HL2.out | with_reducible refine below_step ?_ HL3.out | with_reducible refine below_step ?_ HL4.out | with_reducible refine below_step ?_ HL5.out | with_reducible refine below_drew ?_))))).mono ?_); rintro e7 w7 ⟨rfl, hb7⟩; (have HL2 := Lib.hid hb7); (have hbw : Below w5.heap.size w5 w7 := by (repeat (first | with_reducible exact Below.refl _ _ | with_reducible refine below_alloc' ?_ _ | with_reducible refine below_step ?_ HL1.out | with_reducible refine below_step ?_ HL2.out | with_reducible refine below_step ?_ HL3.out | with_reducible refine below_step ?_ HL4.out | with_reducible refine below_step ?_ HL5.out | with_reducible refine below_drew ?_))); (have HBW7 := Lib.hid hbw); (have zHK51_0 := cell_keep hbw HK5.out.1); (have zHK51_1 := cell_keep hbw HK5.out.2.1); (have zHK51_2 := cell_keep hbw HK5.out.2.2.1); (have zHK51_3 := cell_keep hbw HK5.out.2.2.2.1); (have zHK51_4 := cell_keep hbw HK5.out.2.2.2.2.1); (have zHK51_5 := cell_keep hbw HK5.out.2.2.2.2.2.1); (have zHK51_6 := cell_keep hbw HK5.out.2.2.2.2.2.2.1); (have zHK51_7 := cell_keep hbw HK5.out.2.2.2.2.2.2.2.1); (have zHK51_8 := cell_keep hbw HK5.out.2.2.2.2.2.2.2.2); clear hb7 hbw)
      | fail)
  clear k2 a10 a11 a12 c0 c1 c2 c3 f0
  have HL07 := Lib.hid (below_step HL05.out HBW7.out)
  obtain ⟨fb', D', tv, ev, e, ⟨-, f1, -⟩, -, hvi, -⟩ := HT.out.2.2.2.2.2.keep HL07.out
  cases e
  obtain ⟨TA, tm, rfl, -⟩ := hvi
  go_wp2_with fail
  refine (free_any (g.types.length : Int) w7).mono ?_
  rintro e8 w8 ⟨np, rfl, hn8, hb8⟩
  obtain ⟨nb, rfl⟩ := hn8.form
  have hb58 := below_step HBW7.out hb8
  have HL08 := Lib.hid (below_step HL07.out hb8)
  have HN8 := Lib.hid hn8
  have HI8 := Lib.hid (HI5.out.keep hb58)
  have HC8 := Lib.hid (And.intro (HC5.out.1.keep hb58) (HC5.out.2.more hb58))
  have HD8 := Lib.hid (And.intro (HD.out.1.keep hb58) (cell_keep hb58 HD.out.2))
  clear hn8 hb8 hb58 f1
  obtain ⟨c0, c1, c2, c3⟩ := HC8.out.2.four
  have f0 := HD8.out.2
  go_wp2_with fail
  have HK8 := Lib.hid (And.intro c0 (And.intro c1 (And.intro c2 (And.intro c3 (f0)))))
  have HW1 := Lib.hid (show ∀ (w' : World) (k : Nat) (xp : Value), Blk w' k 63 #[xp] → Below w8.heap.size w8 w' → ValAt w' (freeP g.types.length) xp →
      Calls Tryz.prog 60 #[.agg #[.int .i64 c.k, .int .i64 c.n, .slice CS c.al.length csc, .pointer cea], .slice DA ds.length dcap, .slice (some ⟨k, 0, none⟩) 1 1] w' (VPost v1 w') from
    fun w' k xp hB hb hx => with_any ds f (eval_any ds f).1 (c, g.env) [(freeP g.types.length)] v1 HV.out.2.2.2.2.1 w' _ _ _ (some ⟨k, 0, none⟩) 1 (by simp) (HD8.out.1.keep hb) (HC8.out.1.keep hb) (vals_blk hB hx))
  have HU := Lib.hid (fun (w' : World) (xp : Value) (hb : Below w8.heap.size w8 w') (hx : ValAt w' v1 xp) => funder_any ds (g.under natV) v1 (by have := HV.out.2.2.2.2.2.2.2.2.2.2; simp [Fi.under]; omega) w' _ xp (HI8.out.keep hb) hx)
  have HK8P := Lib.hid (show ∀ W : World, Below w8.heap.size w8 W → W.cell? ⟨w4.heap.size, 0, none⟩ = some (.int .i64 c.k) ∧ W.cell? ⟨w4.heap.size, 1, none⟩ = some (.int .i64 c.n) ∧ W.cell? ⟨w4.heap.size, 2, none⟩ = some (.slice CS c.al.length csc) ∧ W.cell? ⟨w4.heap.size, 3, none⟩ = some (.pointer cea) ∧ W.cell? ⟨fb, 0, none⟩ = some (.slice DA ds.length dcap) from fun W hb => And.intro (cell_keep hb HK8.out.1) (And.intro (cell_keep hb HK8.out.2.1) (And.intro (cell_keep hb HK8.out.2.2.1) (And.intro (cell_keep hb HK8.out.2.2.2.1) (cell_keep hb HK8.out.2.2.2.2)))))
  go_region_held3 (fun w' => w'.cell? ⟨w4.heap.size, 0, none⟩ = some (.int .i64 c.k) ∧ w'.cell? ⟨w4.heap.size, 1, none⟩ = some (.int .i64 c.n) ∧ w'.cell? ⟨w4.heap.size, 2, none⟩ = some (.slice CS c.al.length csc) ∧ w'.cell? ⟨w4.heap.size, 3, none⟩ = some (.pointer cea) ∧ w'.cell? ⟨fb, 0, none⟩ = some (.slice DA ds.length dcap)) (first | (with_reducible refine HK8P.out _ ?_; ((repeat (first | with_reducible exact Below.refl _ _ | with_reducible refine below_alloc' ?_ _ | with_reducible refine below_step ?_ HL1.out | with_reducible refine below_step ?_ HL2.out | with_reducible refine below_step ?_ HL3.out | with_reducible refine below_step ?_ HL4.out | with_reducible refine below_step ?_ HL5.out | with_reducible refine below_drew ?_))); done) | go_keep)
    (first
      | ((go_at_call 60); (with_reducible refine (HW1.out _ _ _ (by (first | (with_reducible refine (Blk.new' ?_); simp; done) | (with_reducible refine ((Blk.new' ?_)).alloc _; simp; done) | (with_reducible refine ((Blk.new' ?_)).more HL1.out; simp; done) | (with_reducible refine (((Blk.new' ?_)).more HL1.out).alloc _; simp; done) | (with_reducible refine (Blk.drew' (Blk.new' ?_)); simp; done) | (with_reducible refine ((Blk.drew' (Blk.new' ?_))).alloc _; simp; done) | (with_reducible refine ((Blk.drew' (Blk.new' ?_))).more HL1.out; simp; done) | (with_reducible refine (((Blk.drew' (Blk.new' ?_))).more HL1.out).alloc _; simp; done) | (with_reducible refine Blk.drew' ((Blk.new' ?_).alloc _); simp; done) | (with_reducible refine Blk.drew' (((Blk.new' ?_).alloc _).alloc _); simp; done) | (with_reducible refine ((Blk.drew' ((Blk.new' ?_).alloc _))).alloc _; simp; done) | (with_reducible refine Blk.drew' (Blk.new' ?_); simp; done))) (by (repeat (first | with_reducible exact Below.refl _ _ | with_reducible refine below_alloc' ?_ _ | with_reducible refine below_step ?_ HL1.out | with_reducible refine below_step ?_ HL2.out | with_reducible refine below_step ?_ HL3.out | with_reducible refine below_step ?_ HL4.out | with_reducible refine below_step ?_ HL5.out | with_reducible refine below_drew ?_))) (HN8.out.keep (by (repeat (first | with_reducible exact Below.refl _ _ | with_reducible refine below_alloc' ?_ _ | with_reducible refine below_step ?_ HL1.out | with_reducible refine below_step ?_ HL2.out | with_reducible refine below_step ?_ HL3.out | with_reducible refine below_step ?_ HL4.out | with_reducible refine below_step ?_ HL5.out | with_reducible refine below_drew ?_))))).mono ?_); rintro e9 w9 ⟨vp, rfl, hv9, hb9⟩; (obtain ⟨vb, rfl⟩ := hv9.form); (have HL1 := Lib.hid hb9); (have hbw : Below w8.heap.size w8 w9 := by (repeat (first | with_reducible exact Below.refl _ _ | with_reducible refine below_alloc' ?_ _ | with_reducible refine below_step ?_ HL1.out | with_reducible refine below_step ?_ HL2.out | with_reducible refine below_step ?_ HL3.out | with_reducible refine below_step ?_ HL4.out | with_reducible refine below_step ?_ HL5.out | with_reducible refine below_drew ?_))); (have HV9 := Lib.hid hv9); (have zHK80_0 := cell_keep hbw HK8.out.1); (have zHK80_1 := cell_keep hbw HK8.out.2.1); (have zHK80_2 := cell_keep hbw HK8.out.2.2.1); (have zHK80_3 := cell_keep hbw HK8.out.2.2.2.1); (have zHK80_4 := cell_keep hbw HK8.out.2.2.2.2); clear hv9 hb9 hbw)
      | ((go_at_call 163); (with_reducible refine (HU.out _ _ (by (repeat (first | with_reducible exact Below.refl _ _ | with_reducible refine below_alloc' ?_ _ | with_reducible refine below_step ?_ HL1.out | with_reducible refine below_step ?_ HL2.out | with_reducible refine below_step ?_ HL3.out | with_reducible refine below_step ?_ HL4.out | with_reducible refine below_step ?_ HL5.out | with_reducible refine below_drew ?_))) (HV9.out.keep (by (repeat (first | with_reducible exact Below.refl _ _ | with_reducible refine below_alloc' ?_ _ | with_reducible refine below_step ?_ HL1.out | with_reducible refine below_step ?_ HL2.out | with_reducible refine below_step ?_ HL3.out | with_reducible refine below_step ?_ HL4.out | with_reducible refine below_step ?_ HL5.out | with_reducible refine below_drew ?_))))).mono ?_); rintro e10 w10 ⟨mp, rfl, hm10, hb10⟩; (obtain ⟨mb, -, -, -, rfl, -⟩ := id hm10); (have HL2 := Lib.hid hb10); (have hbw : Below w8.heap.size w8 w10 := by (repeat (first | with_reducible exact Below.refl _ _ | with_reducible refine below_alloc' ?_ _ | with_reducible refine below_step ?_ HL1.out | with_reducible refine below_step ?_ HL2.out | with_reducible refine below_step ?_ HL3.out | with_reducible refine below_step ?_ HL4.out | with_reducible refine below_step ?_ HL5.out | with_reducible refine below_drew ?_))); (have HB810 := Lib.hid hbw); (have HM10 := Lib.hid hm10); (have zHK81_0 := cell_keep hbw HK8.out.1); (have zHK81_1 := cell_keep hbw HK8.out.2.1); (have zHK81_2 := cell_keep hbw HK8.out.2.2.1); (have zHK81_3 := cell_keep hbw HK8.out.2.2.2.1); (have zHK81_4 := cell_keep hbw HK8.out.2.2.2.2); clear hm10 hb10 hbw)
      | fail)
  clear c0 c1 c2 c3 f0
  have HL10 := Lib.hid (below_step HL08.out HB810.out)
  have HN10 := Lib.hid (HN8.out.keep HB810.out)
  have HC10 := Lib.hid (And.intro (HC8.out.1.keep HB810.out) (HC8.out.2.more HB810.out))
  have HD10 := Lib.hid (And.intro (HD8.out.1.keep HB810.out) (cell_keep HB810.out HD8.out.2))
  obtain ⟨c0, c1, c2, c3⟩ := HC10.out.2.four
  have f0 := HD10.out.2
  have k2 := ((HT.out.1.keep HL10.out).blk.tri).1.2.2
  rw [show (T.mk 17 n al).al = al from rfl] at k2
  obtain ⟨a20, a21, a22⟩ := (HT.out.2.2.2.1.keep HL10.out).1
  go_wp2_with fail
  have HK10 := Lib.hid (And.intro k2 (And.intro a20 (And.intro a21 (And.intro a22 (And.intro c0 (And.intro c1 (And.intro c2 (And.intro c3 (f0)))))))))
  have HW2 := Lib.hid (show ∀ (w' : World) (k : Nat) (xp : Value), Blk w' k 63 #[xp] → Below w10.heap.size w10 w' → ValAt w' (.mk 16 0 [freeP g.types.length] []) xp →
      Calls Tryz.prog 60 #[.agg #[.int .i64 c.k, .int .i64 c.n, .slice CS c.al.length csc, .pointer cea], .slice DA ds.length dcap, .slice (some ⟨k, 0, none⟩) 1 1] w' (VPost v2 w') from
    fun w' k xp hB hb hx => with_any ds f (eval_any ds f).1 (c, g.env) [(.mk 16 0 [freeP g.types.length] [])] v2 HV.out.2.2.2.2.2.1 w' _ _ _ (some ⟨k, 0, none⟩) 1 (by simp) (HD10.out.1.keep hb) (HC10.out.1.keep hb) (vals_blk hB hx))
  have HCS := Lib.hid (show ∀ (w' : World) (up : Value), Below w10.heap.size w10 w' → ValAt w' v2 up → Calls Tryz.prog 111 #[.pointer (some ⟨mb, 0, none⟩), .agg #[.int .i64 s.k, .int .i64 s.n, .slice S2 s.al.length m2], up] w' (StrPost (.int .i64 0) w') from
    fun w' up hb hu => check_any ds f HV.out.1 ((g.under natV).under v1) s v2 true w' _ _ _ HV.out.2.2.2.2.2.2.1 (by have := HV.out.2.2.2.2.2.2.2.2.2.2; try simp [Fi.under]; omega) (HM10.out.keep hb) (HT.out.2.2.2.1.keep (below_step HL10.out hb)).2 hu)
  have HK10P := Lib.hid (show ∀ W : World, Below w10.heap.size w10 W → W.cell? ⟨w.heap.size, 2, none⟩ = some (.slice (some ⟨ab, ao, none⟩) al.length scap) ∧ W.cell? ⟨ab, ao + 6, none⟩ = some (.int .i64 s.k) ∧ W.cell? ⟨ab, ao + 6 + 1, none⟩ = some (.int .i64 s.n) ∧ W.cell? ⟨ab, ao + 6 + 2, none⟩ = some (.slice S2 s.al.length m2) ∧ W.cell? ⟨w4.heap.size, 0, none⟩ = some (.int .i64 c.k) ∧ W.cell? ⟨w4.heap.size, 1, none⟩ = some (.int .i64 c.n) ∧ W.cell? ⟨w4.heap.size, 2, none⟩ = some (.slice CS c.al.length csc) ∧ W.cell? ⟨w4.heap.size, 3, none⟩ = some (.pointer cea) ∧ W.cell? ⟨fb, 0, none⟩ = some (.slice DA ds.length dcap) from fun W hb => And.intro (cell_keep hb HK10.out.1) (And.intro (cell_keep hb HK10.out.2.1) (And.intro (cell_keep hb HK10.out.2.2.1) (And.intro (cell_keep hb HK10.out.2.2.2.1) (And.intro (cell_keep hb HK10.out.2.2.2.2.1) (And.intro (cell_keep hb HK10.out.2.2.2.2.2.1) (And.intro (cell_keep hb HK10.out.2.2.2.2.2.2.1) (And.intro (cell_keep hb HK10.out.2.2.2.2.2.2.2.1) (cell_keep hb HK10.out.2.2.2.2.2.2.2.2)))))))))
  go_region_held3 (fun w' => w'.cell? ⟨w.heap.size, 2, none⟩ = some (.slice (some ⟨ab, ao, none⟩) al.length scap) ∧ w'.cell? ⟨ab, ao + 6, none⟩ = some (.int .i64 s.k) ∧ w'.cell? ⟨ab, ao + 6 + 1, none⟩ = some (.int .i64 s.n) ∧ w'.cell? ⟨ab, ao + 6 + 2, none⟩ = some (.slice S2 s.al.length m2) ∧ w'.cell? ⟨w4.heap.size, 0, none⟩ = some (.int .i64 c.k) ∧ w'.cell? ⟨w4.heap.size, 1, none⟩ = some (.int .i64 c.n) ∧ w'.cell? ⟨w4.heap.size, 2, none⟩ = some (.slice CS c.al.length csc) ∧ w'.cell? ⟨w4.heap.size, 3, none⟩ = some (.pointer cea) ∧ w'.cell? ⟨fb, 0, none⟩ = some (.slice DA ds.length dcap)) (first | (with_reducible refine HK10P.out _ ?_; ((repeat (first | with_reducible exact Below.refl _ _ | with_reducible refine below_alloc' ?_ _ | with_reducible refine below_step ?_ HL1.out | with_reducible refine below_step ?_ HL2.out | with_reducible refine below_step ?_ HL3.out | with_reducible refine below_step ?_ HL4.out | with_reducible refine below_step ?_ HL5.out | with_reducible refine below_drew ?_))); done) | go_keep)
    (first
      | ((go_at_call 60); (with_reducible refine (HW2.out _ _ _ (by (first | (with_reducible refine (Blk.new' ?_); simp; done) | (with_reducible refine ((Blk.new' ?_)).alloc _; simp; done) | (with_reducible refine (((Blk.new' ?_)).alloc _).alloc _; simp; done) | (with_reducible refine (Blk.drew' (Blk.new' ?_)); simp; done) | (with_reducible refine ((Blk.drew' (Blk.new' ?_))).alloc _; simp; done) | (with_reducible refine (((Blk.drew' (Blk.new' ?_))).alloc _).alloc _; simp; done) | (with_reducible refine Blk.drew' ((Blk.new' ?_).alloc _); simp; done) | (with_reducible refine Blk.drew' (((Blk.new' ?_).alloc _).alloc _); simp; done) | (with_reducible refine ((Blk.drew' ((Blk.new' ?_).alloc _))).alloc _; simp; done) | (with_reducible refine Blk.drew' (Blk.new' ?_); simp; done))) (by (repeat (first | with_reducible exact Below.refl _ _ | with_reducible refine below_alloc' ?_ _ | with_reducible refine below_step ?_ HL1.out | with_reducible refine below_step ?_ HL2.out | with_reducible refine below_step ?_ HL3.out | with_reducible refine below_step ?_ HL4.out | with_reducible refine below_step ?_ HL5.out | with_reducible refine below_drew ?_))) (suc_blk (by (first | (with_reducible refine (Blk.new' ?_); simp; done) | (with_reducible refine ((Blk.new' ?_)).alloc _; simp; done) | (with_reducible refine (((Blk.new' ?_)).alloc _).alloc _; simp; done) | (with_reducible refine (Blk.drew' (Blk.new' ?_)); simp; done) | (with_reducible refine ((Blk.drew' (Blk.new' ?_))).alloc _; simp; done) | (with_reducible refine (((Blk.drew' (Blk.new' ?_))).alloc _).alloc _; simp; done) | (with_reducible refine Blk.drew' ((Blk.new' ?_).alloc _); simp; done) | (with_reducible refine Blk.drew' (((Blk.new' ?_).alloc _).alloc _); simp; done) | (with_reducible refine ((Blk.drew' ((Blk.new' ?_).alloc _))).alloc _; simp; done) | (with_reducible refine Blk.drew' (Blk.new' ?_); simp; done))) (by (first | (with_reducible refine (Blk.new' ?_); simp; done) | (with_reducible refine ((Blk.new' ?_)).alloc _; simp; done) | (with_reducible refine (((Blk.new' ?_)).alloc _).alloc _; simp; done) | (with_reducible refine (Blk.drew' (Blk.new' ?_)); simp; done) | (with_reducible refine ((Blk.drew' (Blk.new' ?_))).alloc _; simp; done) | (with_reducible refine (((Blk.drew' (Blk.new' ?_))).alloc _).alloc _; simp; done) | (with_reducible refine Blk.drew' ((Blk.new' ?_).alloc _); simp; done) | (with_reducible refine Blk.drew' (((Blk.new' ?_).alloc _).alloc _); simp; done) | (with_reducible refine ((Blk.drew' ((Blk.new' ?_).alloc _))).alloc _; simp; done) | (with_reducible refine Blk.drew' (Blk.new' ?_); simp; done))) (HN10.out.keep (by (repeat (first | with_reducible exact Below.refl _ _ | with_reducible refine below_alloc' ?_ _ | with_reducible refine below_step ?_ HL1.out | with_reducible refine below_step ?_ HL2.out | with_reducible refine below_step ?_ HL3.out | with_reducible refine below_step ?_ HL4.out | with_reducible refine below_step ?_ HL5.out | with_reducible refine below_drew ?_)))))).mono ?_); rintro e11 w11 ⟨yp, rfl, hy11, hb11⟩; (obtain ⟨yb, rfl⟩ := hy11.form); (have HL1 := Lib.hid hb11); (have hbw : Below w10.heap.size w10 w11 := by (repeat (first | with_reducible exact Below.refl _ _ | with_reducible refine below_alloc' ?_ _ | with_reducible refine below_step ?_ HL1.out | with_reducible refine below_step ?_ HL2.out | with_reducible refine below_step ?_ HL3.out | with_reducible refine below_step ?_ HL4.out | with_reducible refine below_step ?_ HL5.out | with_reducible refine below_drew ?_))); (have HY11 := Lib.hid hy11); (have zHK100_0 := cell_keep hbw HK10.out.1); (have zHK100_1 := cell_keep hbw HK10.out.2.1); (have zHK100_2 := cell_keep hbw HK10.out.2.2.1); (have zHK100_3 := cell_keep hbw HK10.out.2.2.2.1); (have zHK100_4 := cell_keep hbw HK10.out.2.2.2.2.1); (have zHK100_5 := cell_keep hbw HK10.out.2.2.2.2.2.1); (have zHK100_6 := cell_keep hbw HK10.out.2.2.2.2.2.2.1); (have zHK100_7 := cell_keep hbw HK10.out.2.2.2.2.2.2.2.1); (have zHK100_8 := cell_keep hbw HK10.out.2.2.2.2.2.2.2.2); clear hy11 hb11 hbw)
      | ((go_at_call 111); (with_reducible refine (HCS.out _ _ (by (repeat (first | with_reducible exact Below.refl _ _ | with_reducible refine below_alloc' ?_ _ | with_reducible refine below_step ?_ HL1.out | with_reducible refine below_step ?_ HL2.out | with_reducible refine below_step ?_ HL3.out | with_reducible refine below_step ?_ HL4.out | with_reducible refine below_step ?_ HL5.out | with_reducible refine below_drew ?_))) (HY11.out.keep (by (repeat (first | with_reducible exact Below.refl _ _ | with_reducible refine below_alloc' ?_ _ | with_reducible refine below_step ?_ HL1.out | with_reducible refine below_step ?_ HL2.out | with_reducible refine below_step ?_ HL3.out | with_reducible refine below_step ?_ HL4.out | with_reducible refine below_step ?_ HL5.out | with_reducible refine below_drew ?_))))).mono ?_); rintro e12 w12 ⟨rfl, hb12⟩; (have HL2 := Lib.hid hb12); (have hbw : Below w10.heap.size w10 w12 := by (repeat (first | with_reducible exact Below.refl _ _ | with_reducible refine below_alloc' ?_ _ | with_reducible refine below_step ?_ HL1.out | with_reducible refine below_step ?_ HL2.out | with_reducible refine below_step ?_ HL3.out | with_reducible refine below_step ?_ HL4.out | with_reducible refine below_step ?_ HL5.out | with_reducible refine below_drew ?_))); (have HB1012 := Lib.hid hbw); (have zHK101_0 := cell_keep hbw HK10.out.1); (have zHK101_1 := cell_keep hbw HK10.out.2.1); (have zHK101_2 := cell_keep hbw HK10.out.2.2.1); (have zHK101_3 := cell_keep hbw HK10.out.2.2.2.1); (have zHK101_4 := cell_keep hbw HK10.out.2.2.2.2.1); (have zHK101_5 := cell_keep hbw HK10.out.2.2.2.2.2.1); (have zHK101_6 := cell_keep hbw HK10.out.2.2.2.2.2.2.1); (have zHK101_7 := cell_keep hbw HK10.out.2.2.2.2.2.2.2.1); (have zHK101_8 := cell_keep hbw HK10.out.2.2.2.2.2.2.2.2); clear hb12 hbw)
      | fail)
  clear k2 a20 a21 a22 c0 c1 c2 c3 f0
  have HL12 := Lib.hid (below_step HL10.out HB1012.out)
  have k2 := ((HT.out.1.keep HL12.out).blk.tri).1.2.2
  rw [show (T.mk 17 n al).al = al from rfl] at k2
  obtain ⟨a30, a31, a32⟩ := (HT.out.2.2.2.2.1.keep HL12.out).1
  go_wp2_with fail
  refine (show Calls Tryz.prog 111 _ w12 (StrPost (.int .i64 0) w12) from check_any ds f HV.out.1 g m natV true w12 _ _ _ HV.out.2.2.2.2.2.2.2.1 (by have := HV.out.2.2.2.2.2.2.2.2.2.2; omega) (HT.out.2.2.2.2.2.keep HL12.out) (HT.out.2.2.2.2.1.keep HL12.out).2 (HNB.out.keep HL12.out)).mono ?_
  rintro e13 w13 ⟨rfl, hb13⟩
  have HL13 := Lib.hid (below_step HL12.out hb13)
  have hb1013 := below_step HB1012.out hb13
  have HC13 := Lib.hid (And.intro (HC10.out.1.keep hb1013) (HC10.out.2.more hb1013))
  have HD13 := Lib.hid (And.intro (HD10.out.1.keep hb1013) (cell_keep hb1013 HD10.out.2))
  clear hb13 hb1013
  clear k2 a30 a31 a32
  obtain ⟨c0, c1, c2, c3⟩ := HC13.out.2.four
  have f0 := HD13.out.2
  have k2 := ((HT.out.1.keep HL13.out).blk.tri).1.2.2
  rw [show (T.mk 17 n al).al = al from rfl] at k2
  obtain ⟨a30, a31, a32⟩ := (HT.out.2.2.2.2.1.keep HL13.out).1
  go_wp2_with fail
  have HK13 := Lib.hid (And.intro k2 (And.intro a30 (And.intro a31 (And.intro a32 (And.intro c0 (And.intro c1 (And.intro c2 (And.intro c3 (f0)))))))))
  have HVL := Lib.hid (fun (w' : World) (hb : Below w13.heap.size w13 w') => fvalue_any ds f g m u HV.out.2.2.2.2.2.2.2.2.1 w' _ _ (HT.out.2.2.2.2.2.keep (below_step HL13.out hb)) (HT.out.2.2.2.2.1.keep (below_step HL13.out hb)).2)
  have HW3 := Lib.hid (show ∀ (w' : World) (k : Nat) (xp : Value), Blk w' k 63 #[xp] → Below w13.heap.size w13 w' → ValAt w' u xp →
      Calls Tryz.prog 60 #[.agg #[.int .i64 c.k, .int .i64 c.n, .slice CS c.al.length csc, .pointer cea], .slice DA ds.length dcap, .slice (some ⟨k, 0, none⟩) 1 1] w' (VPost r w') from
    fun w' k xp hB hb hx => with_any ds f (eval_any ds f).1 (c, g.env) [u] r HV.out.2.2.2.2.2.2.2.2.2.1 w' _ _ _ (some ⟨k, 0, none⟩) 1 (by simp) (HD13.out.1.keep hb) (HC13.out.1.keep hb) (vals_blk hB hx))
  have HK13P := Lib.hid (show ∀ W : World, Below w13.heap.size w13 W → W.cell? ⟨w.heap.size, 2, none⟩ = some (.slice (some ⟨ab, ao, none⟩) al.length scap) ∧ W.cell? ⟨ab, ao + 9, none⟩ = some (.int .i64 m.k) ∧ W.cell? ⟨ab, ao + 9 + 1, none⟩ = some (.int .i64 m.n) ∧ W.cell? ⟨ab, ao + 9 + 2, none⟩ = some (.slice S3 m.al.length m3) ∧ W.cell? ⟨w4.heap.size, 0, none⟩ = some (.int .i64 c.k) ∧ W.cell? ⟨w4.heap.size, 1, none⟩ = some (.int .i64 c.n) ∧ W.cell? ⟨w4.heap.size, 2, none⟩ = some (.slice CS c.al.length csc) ∧ W.cell? ⟨w4.heap.size, 3, none⟩ = some (.pointer cea) ∧ W.cell? ⟨fb, 0, none⟩ = some (.slice DA ds.length dcap) from fun W hb => And.intro (cell_keep hb HK13.out.1) (And.intro (cell_keep hb HK13.out.2.1) (And.intro (cell_keep hb HK13.out.2.2.1) (And.intro (cell_keep hb HK13.out.2.2.2.1) (And.intro (cell_keep hb HK13.out.2.2.2.2.1) (And.intro (cell_keep hb HK13.out.2.2.2.2.2.1) (And.intro (cell_keep hb HK13.out.2.2.2.2.2.2.1) (And.intro (cell_keep hb HK13.out.2.2.2.2.2.2.2.1) (cell_keep hb HK13.out.2.2.2.2.2.2.2.2)))))))))
  go_region_held3 (fun w' => w'.cell? ⟨w.heap.size, 2, none⟩ = some (.slice (some ⟨ab, ao, none⟩) al.length scap) ∧ w'.cell? ⟨ab, ao + 9, none⟩ = some (.int .i64 m.k) ∧ w'.cell? ⟨ab, ao + 9 + 1, none⟩ = some (.int .i64 m.n) ∧ w'.cell? ⟨ab, ao + 9 + 2, none⟩ = some (.slice S3 m.al.length m3) ∧ w'.cell? ⟨w4.heap.size, 0, none⟩ = some (.int .i64 c.k) ∧ w'.cell? ⟨w4.heap.size, 1, none⟩ = some (.int .i64 c.n) ∧ w'.cell? ⟨w4.heap.size, 2, none⟩ = some (.slice CS c.al.length csc) ∧ w'.cell? ⟨w4.heap.size, 3, none⟩ = some (.pointer cea) ∧ w'.cell? ⟨fb, 0, none⟩ = some (.slice DA ds.length dcap)) (first | (with_reducible refine HK13P.out _ ?_; ((repeat (first | with_reducible exact Below.refl _ _ | with_reducible refine below_alloc' ?_ _ | with_reducible refine below_step ?_ HL1.out | with_reducible refine below_step ?_ HL2.out | with_reducible refine below_step ?_ HL3.out | with_reducible refine below_step ?_ HL4.out | with_reducible refine below_step ?_ HL5.out | with_reducible refine below_drew ?_))); done) | go_keep)
    (first
      | ((go_at_call 112); (with_reducible refine (HVL.out _ (by (repeat (first | with_reducible exact Below.refl _ _ | with_reducible refine below_alloc' ?_ _ | with_reducible refine below_step ?_ HL1.out | with_reducible refine below_step ?_ HL2.out | with_reducible refine below_step ?_ HL3.out | with_reducible refine below_step ?_ HL4.out | with_reducible refine below_step ?_ HL5.out | with_reducible refine below_drew ?_)))).mono ?_); rintro e14 w14 ⟨up, rfl, hu14, hb14⟩; (obtain ⟨ub, rfl⟩ := hu14.form); (have HL1 := Lib.hid hb14); (have hbw : Below w13.heap.size w13 w14 := by (repeat (first | with_reducible exact Below.refl _ _ | with_reducible refine below_alloc' ?_ _ | with_reducible refine below_step ?_ HL1.out | with_reducible refine below_step ?_ HL2.out | with_reducible refine below_step ?_ HL3.out | with_reducible refine below_step ?_ HL4.out | with_reducible refine below_step ?_ HL5.out | with_reducible refine below_drew ?_))); (have HU14 := Lib.hid hu14); (have zHK130_0 := cell_keep hbw HK13.out.1); (have zHK130_1 := cell_keep hbw HK13.out.2.1); (have zHK130_2 := cell_keep hbw HK13.out.2.2.1); (have zHK130_3 := cell_keep hbw HK13.out.2.2.2.1); (have zHK130_4 := cell_keep hbw HK13.out.2.2.2.2.1); (have zHK130_5 := cell_keep hbw HK13.out.2.2.2.2.2.1); (have zHK130_6 := cell_keep hbw HK13.out.2.2.2.2.2.2.1); (have zHK130_7 := cell_keep hbw HK13.out.2.2.2.2.2.2.2.1); (have zHK130_8 := cell_keep hbw HK13.out.2.2.2.2.2.2.2.2); clear hu14 hb14 hbw)
      | ((go_at_call 60); (with_reducible refine (HW3.out _ _ _ (by (first | (with_reducible refine (Blk.new' ?_); simp; done) | (with_reducible refine ((Blk.new' ?_)).alloc _; simp; done) | (with_reducible refine ((Blk.new' ?_)).more HL1.out; simp; done) | (with_reducible refine (((Blk.new' ?_)).more HL1.out).alloc _; simp; done) | (with_reducible refine (Blk.drew' (Blk.new' ?_)); simp; done) | (with_reducible refine ((Blk.drew' (Blk.new' ?_))).alloc _; simp; done) | (with_reducible refine ((Blk.drew' (Blk.new' ?_))).more HL1.out; simp; done) | (with_reducible refine (((Blk.drew' (Blk.new' ?_))).more HL1.out).alloc _; simp; done) | (with_reducible refine Blk.drew' ((Blk.new' ?_).alloc _); simp; done) | (with_reducible refine Blk.drew' (((Blk.new' ?_).alloc _).alloc _); simp; done) | (with_reducible refine ((Blk.drew' ((Blk.new' ?_).alloc _))).alloc _; simp; done) | (with_reducible refine Blk.drew' (Blk.new' ?_); simp; done))) (by (repeat (first | with_reducible exact Below.refl _ _ | with_reducible refine below_alloc' ?_ _ | with_reducible refine below_step ?_ HL1.out | with_reducible refine below_step ?_ HL2.out | with_reducible refine below_step ?_ HL3.out | with_reducible refine below_step ?_ HL4.out | with_reducible refine below_step ?_ HL5.out | with_reducible refine below_drew ?_))) (HU14.out.keep (by (repeat (first | with_reducible exact Below.refl _ _ | with_reducible refine below_alloc' ?_ _ | with_reducible refine below_step ?_ HL1.out | with_reducible refine below_step ?_ HL2.out | with_reducible refine below_step ?_ HL3.out | with_reducible refine below_step ?_ HL4.out | with_reducible refine below_step ?_ HL5.out | with_reducible refine below_drew ?_))))).mono ?_); rintro e15 w15 ⟨rp, rfl, hr15, hb15⟩; (obtain ⟨rb, rfl⟩ := hr15.form); (have HL2 := Lib.hid hb15); (have hbw : Below w13.heap.size w13 w15 := by (repeat (first | with_reducible exact Below.refl _ _ | with_reducible refine below_alloc' ?_ _ | with_reducible refine below_step ?_ HL1.out | with_reducible refine below_step ?_ HL2.out | with_reducible refine below_step ?_ HL3.out | with_reducible refine below_step ?_ HL4.out | with_reducible refine below_step ?_ HL5.out | with_reducible refine below_drew ?_))); (have HR15 := Lib.hid hr15); (have zHK131_0 := cell_keep hbw HK13.out.1); (have zHK131_1 := cell_keep hbw HK13.out.2.1); (have zHK131_2 := cell_keep hbw HK13.out.2.2.1); (have zHK131_3 := cell_keep hbw HK13.out.2.2.2.1); (have zHK131_4 := cell_keep hbw HK13.out.2.2.2.2.1); (have zHK131_5 := cell_keep hbw HK13.out.2.2.2.2.2.1); (have zHK131_6 := cell_keep hbw HK13.out.2.2.2.2.2.2.1); (have zHK131_7 := cell_keep hbw HK13.out.2.2.2.2.2.2.2.1); (have zHK131_8 := cell_keep hbw HK13.out.2.2.2.2.2.2.2.2); clear hr15 hb15 hbw)
      | fail)
  all_goals go_wp2_with fail
  all_goals go_ret2
  all_goals exact ⟨_, rfl, HR15.out, below_step (below_step HB.out HL13.out) (show Below w13.heap.size w13 w15 by (repeat (first | with_reducible exact Below.refl _ _ | with_reducible refine below_alloc' ?_ _ | with_reducible refine below_step ?_ HL1.out | with_reducible refine below_step ?_ HL2.out | with_reducible refine below_step ?_ HL3.out | with_reducible refine below_step ?_ HL4.out | with_reducible refine below_step ?_ HL5.out | with_reducible refine below_drew ?_)))⟩
end Go.Proofs.YtjboibbgigkhkaaGreatDoor

/- package infer: the types of terms without arguments. -/
namespace Go.Proofs.YtjboibbgigkhkaaGreatDoor
open Go.RowKit
set_option maxRecDepth 100000

theorem infer_unit (n : Int) (l scap : Nat) (SA : Option Addr) (w : World) (fp : Value) : Calls Tryz.prog 135 #[fp, .agg #[.int .i64 10, .int .i64 n, .slice SA l scap]] w (IPost (.mk 2 0 [] []) w) := by
  obtain ⟨k0, k1, k2⟩ := (Blk.new w 30 #[.int .i64 10, .int .i64 n, .slice SA l scap]).tri.1
  have hba := below_alloc' (Below.refl w.heap.size w) (.cells #[.int .i64 10, .int .i64 n, .slice SA l scap] 30)
  go_enter Tryz.func135, Tryz.ntmps135
  go_wp2_with fail
  go_ret2
  exact ⟨_, rfl, leaf_blk (k := 2) (n := 0) (Blk.new' (by simp)), below_alloc' hba _⟩

theorem infer_empty (n : Int) (l scap : Nat) (SA : Option Addr) (w : World) (fp : Value) : Calls Tryz.prog 135 #[fp, .agg #[.int .i64 12, .int .i64 n, .slice SA l scap]] w (IPost (.mk 2 0 [] []) w) := by
  obtain ⟨k0, k1, k2⟩ := (Blk.new w 30 #[.int .i64 12, .int .i64 n, .slice SA l scap]).tri.1
  have hba := below_alloc' (Below.refl w.heap.size w) (.cells #[.int .i64 12, .int .i64 n, .slice SA l scap] 30)
  go_enter Tryz.func135, Tryz.ntmps135
  go_wp2_with fail
  go_ret2
  exact ⟨_, rfl, leaf_blk (k := 2) (n := 0) (Blk.new' (by simp)), below_alloc' hba _⟩

theorem infer_nat (n : Int) (l scap : Nat) (SA : Option Addr) (w : World) (fp : Value) : Calls Tryz.prog 135 #[fp, .agg #[.int .i64 14, .int .i64 n, .slice SA l scap]] w (IPost (.mk 2 0 [] []) w) := by
  obtain ⟨k0, k1, k2⟩ := (Blk.new w 30 #[.int .i64 14, .int .i64 n, .slice SA l scap]).tri.1
  have hba := below_alloc' (Below.refl w.heap.size w) (.cells #[.int .i64 14, .int .i64 n, .slice SA l scap] 30)
  go_enter Tryz.func135, Tryz.ntmps135
  go_wp2_with fail
  go_ret2
  exact ⟨_, rfl, leaf_blk (k := 2) (n := 0) (Blk.new' (by simp)), below_alloc' hba _⟩

theorem infer_star (n : Int) (l scap : Nat) (SA : Option Addr) (w : World) (fp : Value) : Calls Tryz.prog 135 #[fp, .agg #[.int .i64 11, .int .i64 n, .slice SA l scap]] w (IPost (.mk 10 0 [] []) w) := by
  obtain ⟨k0, k1, k2⟩ := (Blk.new w 30 #[.int .i64 11, .int .i64 n, .slice SA l scap]).tri.1
  have hba := below_alloc' (Below.refl w.heap.size w) (.cells #[.int .i64 11, .int .i64 n, .slice SA l scap] 30)
  go_enter Tryz.func135, Tryz.ntmps135
  go_wp2_with fail
  go_ret2
  exact ⟨_, rfl, leaf_blk (k := 10) (n := 0) (Blk.new' (by simp)), below_alloc' hba _⟩

theorem infer_zero (n : Int) (l scap : Nat) (SA : Option Addr) (w : World) (fp : Value) : Calls Tryz.prog 135 #[fp, .agg #[.int .i64 15, .int .i64 n, .slice SA l scap]] w (IPost (.mk 14 0 [] []) w) := by
  obtain ⟨k0, k1, k2⟩ := (Blk.new w 30 #[.int .i64 15, .int .i64 n, .slice SA l scap]).tri.1
  have hba := below_alloc' (Below.refl w.heap.size w) (.cells #[.int .i64 15, .int .i64 n, .slice SA l scap] 30)
  go_enter Tryz.func135, Tryz.ntmps135
  go_wp2_with fail
  go_ret2
  exact ⟨_, rfl, leaf_blk (k := 14) (n := 0) (Blk.new' (by simp)), below_alloc' hba _⟩

theorem infer_u (n : Int) (h0 : 0 ≤ n) (h3 : n < 3) (l scap : Nat) (SA : Option Addr) (w : World) (fp : Value) : Calls Tryz.prog 135 #[fp, .agg #[.int .i64 2, .int .i64 n, .slice SA l scap]] w (IPost (.mk 2 (n + 1) [] []) w) := by
  obtain ⟨k0, k1, k2⟩ := (Blk.new w 30 #[.int .i64 2, .int .i64 n, .slice SA l scap]).tri.1
  have hba := below_alloc' (Below.refl w.heap.size w) (.cells #[.int .i64 2, .int .i64 n, .slice SA l scap] 30)
  have h3' : ¬ 3 ≤ n := by omega
  go_enter Tryz.func135, Tryz.ntmps135
  go_wp2_with fail
  go_ret2
  exact ⟨_, rfl, leaf_blk (k := 2) (n := n + 1) (Blk.new' (by simp)), below_alloc' hba _⟩

theorem infer_var (ds : List ND) (g : Fi) (N : Nat) (v : Val) (hN : N < g.types.length) (hl : g.types.length ≤ 1000000) (hv : g.types[g.types.length - 1 - N]? = some v) (l scap : Nat) (SA : Option Addr) (w : World) (fp : Value) (hf : FinderAt w ds g fp) :
    Calls Tryz.prog 135 #[fp, .agg #[.int .i64 1, .int .i64 N, .slice SA l scap]] w (IPost v w) := by
  obtain ⟨k0, k1, k2⟩ := (Blk.new w 30 #[.int .i64 1, .int .i64 N, .slice SA l scap]).tri.1
  have hba := below_alloc' (Below.refl w.heap.size w) (.cells #[.int .i64 1, .int .i64 N, .slice SA l scap] 30)
  obtain ⟨fb, D, tv, ev, rfl, ⟨f0, f1, f2⟩, hD, hvi, -⟩ := hf.keep hba
  obtain ⟨A, m, rfl, -, -, hvs⟩ := hvi
  obtain ⟨ab, ao, rfl, hq⟩ := hvs (by intro e; rw [e] at hN; simp at hN)
  obtain ⟨q, hcq, hvq⟩ := hq _ v hv
  obtain ⟨qb, rfl⟩ := hvq.form
  have HV := Lib.hid (And.intro hvq hba)
  have e1 : (g.types.length : Int) - 1 - (N : Int) = ((g.types.length - 1 - N : Nat) : Int) := by omega
  have hlt : g.types.length - 1 - N < g.types.length := by omega
  clear hvq hba hq hvs hv hD f0 f2
  obtain ⟨j, hj⟩ : ∃ j, g.types.length - 1 - N = j := ⟨_, rfl⟩
  rw [hj] at e1 hlt hcq
  have hltI : (j : Int) < (g.types.length : Int) := by omega
  clear hj
  go_enter Tryz.func135, Tryz.ntmps135
  go_wp2_with fail
  go_region
  all_goals go_wp2_with fail
  all_goals go_ret2
  all_goals exact ⟨_, rfl, HV.out.1.keep (Below.refl _ _).drew, HV.out.2.drew⟩

theorem infer_def (ds : List ND) (f : Nat) (g : Fi) (N : Nat) (d : ND) (v : Val) (hd : ds[N]? = some d) (_hl : ds.length ≤ 1000000) (hv : evalP (ds.map Prod.snd) f (.value d.2.1 []) = some v) (l scap : Nat) (SA : Option Addr) (w : World) (fp : Value) (hf : FinderAt w ds g fp) :
    Calls Tryz.prog 135 #[fp, .agg #[.int .i64 18, .int .i64 N, .slice SA l scap]] w (IPost v w) := by
  obtain ⟨k0, k1, k2⟩ := (Blk.new w 30 #[.int .i64 18, .int .i64 N, .slice SA l scap]).tri.1
  have hba := below_alloc' (Below.refl w.heap.size w) (.cells #[.int .i64 18, .int .i64 N, .slice SA l scap] 30)
  obtain ⟨fb, D, tv, ev, rfl, ⟨f0, f1, f2⟩, hD, hvi, -⟩ := hf.keep hba
  obtain ⟨DA, dcap, rfl⟩ : ∃ A cap, D = .slice A ds.length cap := by obtain ⟨A, cap, e, -⟩ := hD; exact ⟨A, cap, e⟩
  obtain ⟨b, off, S, m, S', m', rfl, -, ⟨c1, c2, c3⟩, -, a1, -⟩ := hD.at_ hd
  have hN := (List.getElem?_eq_some_iff.1 hd).1
  have HC := Lib.hid ((eval_any ds f).1 d.2.1 [] v (w.alloc (.cells #[.int .i64 18, .int .i64 N, .slice SA l scap] 30)).drew _ _ _ hv (hD.keep (Below.refl _ _).drew) (a1.keep (below_drew (Below.refl _ _)).size (below_drew (Below.refl _ _))) (EnvAt.nil _))
  have HB := Lib.hid hba
  clear hba hvi hd hv hD a1 f1 f2
  go_enter Tryz.func135, Tryz.ntmps135
  go_wp2_with fail
  refine still_tail 13 (by kernel_rfl) (by kernel_rfl) ?_
  simp only [List.take_succ_cons, List.take_zero, List.drop_succ_cons, List.drop_zero]
  repeat still_step
  try refine wpStill_nil ?_
  go_wp2_with fail
  refine HC.out.mono ?_
  rintro e w2 ⟨p, rfl, hp, hb2⟩
  obtain ⟨pb, rfl⟩ := hp.form
  have HP := Lib.hid (And.intro hp (below_step HB.out (drew_trans hb2)))
  clear hp hb2
  go_wp2_with fail
  go_ret2
  exact ⟨_, rfl, HP.out.1, HP.out.2⟩
end Go.Proofs.YtjboibbgigkhkaaGreatDoor

/- package infer: finder.infer: by cases; at all fuel. -/
namespace Go.Proofs.YtjboibbgigkhkaaGreatDoor
open Go.RowKit
set_option maxRecDepth 100000

theorem infer_app (ds : List ND) (f : Nat) (hI : InferC ds f) (g : Fi) (n : Int) (al : List T) (a b : T) (r : Val) (w : World) (fp s : Value) (ha : al[0]? = some a) (hb : al[1]? = some b) (hv : appQ (ds.map Prod.snd) f (inferQ (ds.map Prod.snd) f) g a b = some r) (hl : g.types.length + 3 * f + 3 ≤ 9000) (hf : FinderAt w ds g fp) (hs : argsIn w w.heap.size (.mk 5 n al) s) :
    Calls Tryz.prog 135 #[fp, .agg #[.int .i64 5, .int .i64 n, s]] w (IPost r w) := by
  obtain ⟨SA, scap, hse, -⟩ := argsIn_iff.1 hs
  simp only [T.al] at hse
  subst hse
  have hba := below_alloc' (Below.refl w.heap.size w) (.cells #[.int .i64 5, .int .i64 n, .slice SA al.length scap] 30)
  obtain ⟨k0, k1, k2⟩ := (Blk.new w 30 #[.int .i64 5, .int .i64 n, .slice SA al.length scap]).tri.1
  have HC := Lib.hid (fapp_any ds f hI g n al a b r (w.alloc (.cells #[.int .i64 5, .int .i64 n, .slice SA al.length scap] 30)) _ _ ha hb hv (by omega) (hf.keep hba) (hs.keep hba.size hba))
  obtain ⟨fb, -, -, -, rfl, -⟩ := hf
  have HB := Lib.hid hba
  clear hs hba hv hI
  go_enter Tryz.func135, Tryz.ntmps135
  go_wp2_with fail
  refine HC.out.mono ?_
  rintro e w2 ⟨p, rfl, hp, hb2⟩
  obtain ⟨pb, rfl⟩ := hp.form
  have HP := Lib.hid (And.intro hp (below_step HB.out hb2))
  clear hp hb2
  go_wp2_with fail
  go_ret2
  exact ⟨_, rfl, HP.out.1, HP.out.2⟩

theorem infer_lam (ds : List ND) (f : Nat) (hI : InferC ds f) (g : Fi) (n : Int) (al : List T) (a b : T) (r : Val) (w : World) (fp s : Value) (ha : al[0]? = some a) (hb : al[1]? = some b) (hv : lamQ (ds.map Prod.snd) f (inferQ (ds.map Prod.snd) f) g a b = some r) (hl : g.types.length + 3 * f + 3 ≤ 9000) (hf : FinderAt w ds g fp) (hs : argsIn w w.heap.size (.mk 4 n al) s) :
    Calls Tryz.prog 135 #[fp, .agg #[.int .i64 4, .int .i64 n, s]] w (IPost r w) := by
  obtain ⟨SA, scap, hse, -⟩ := argsIn_iff.1 hs
  simp only [T.al] at hse
  subst hse
  have hba := below_alloc' (Below.refl w.heap.size w) (.cells #[.int .i64 4, .int .i64 n, .slice SA al.length scap] 30)
  obtain ⟨k0, k1, k2⟩ := (Blk.new w 30 #[.int .i64 4, .int .i64 n, .slice SA al.length scap]).tri.1
  have HC := Lib.hid (flam_any ds f hI g n al a b r (w.alloc (.cells #[.int .i64 4, .int .i64 n, .slice SA al.length scap] 30)) _ _ ha hb hv (by omega) (hf.keep hba) (hs.keep hba.size hba))
  obtain ⟨fb, -, -, -, rfl, -⟩ := hf
  have HB := Lib.hid hba
  clear hs hba hv hI
  go_enter Tryz.func135, Tryz.ntmps135
  go_wp2_with fail
  refine HC.out.mono ?_
  rintro e w2 ⟨p, rfl, hp, hb2⟩
  obtain ⟨pb, rfl⟩ := hp.form
  have HP := Lib.hid (And.intro hp (below_step HB.out hb2))
  clear hp hb2
  go_wp2_with fail
  go_ret2
  exact ⟨_, rfl, HP.out.1, HP.out.2⟩

theorem infer_fst (ds : List ND) (f : Nat) (hI : InferC ds f) (g : Fi) (n : Int) (al : List T) (a : T) (r : Val) (w : World) (fp s : Value) (ha : al[0]? = some a) (hv : partQ (ds.map Prod.snd) f (inferQ (ds.map Prod.snd) f) g 8 a = some r) (hl : g.types.length + 3 * f + 3 ≤ 9000) (hf : FinderAt w ds g fp) (hs : argsIn w w.heap.size (.mk 8 n al) s) :
    Calls Tryz.prog 135 #[fp, .agg #[.int .i64 8, .int .i64 n, s]] w (IPost r w) := by
  obtain ⟨SA, scap, hse, -⟩ := argsIn_iff.1 hs
  simp only [T.al] at hse
  subst hse
  have hba := below_alloc' (Below.refl w.heap.size w) (.cells #[.int .i64 8, .int .i64 n, .slice SA al.length scap] 30)
  obtain ⟨k0, k1, k2⟩ := (Blk.new w 30 #[.int .i64 8, .int .i64 n, .slice SA al.length scap]).tri.1
  have HC := Lib.hid (fpart_any ds f hI g 8 n (.inl rfl) al a r (w.alloc (.cells #[.int .i64 8, .int .i64 n, .slice SA al.length scap] 30)) _ _ ha hv (by omega) (hf.keep hba) (hs.keep hba.size hba))
  obtain ⟨fb, -, -, -, rfl, -⟩ := hf
  have HB := Lib.hid hba
  clear hs hba hv hI
  go_enter Tryz.func135, Tryz.ntmps135
  go_wp2_with fail
  refine HC.out.mono ?_
  rintro e w2 ⟨p, rfl, hp, hb2⟩
  obtain ⟨pb, rfl⟩ := hp.form
  have HP := Lib.hid (And.intro hp (below_step HB.out hb2))
  clear hp hb2
  go_wp2_with fail
  go_ret2
  exact ⟨_, rfl, HP.out.1, HP.out.2⟩

theorem infer_snd (ds : List ND) (f : Nat) (hI : InferC ds f) (g : Fi) (n : Int) (al : List T) (a : T) (r : Val) (w : World) (fp s : Value) (ha : al[0]? = some a) (hv : partQ (ds.map Prod.snd) f (inferQ (ds.map Prod.snd) f) g 9 a = some r) (hl : g.types.length + 3 * f + 3 ≤ 9000) (hf : FinderAt w ds g fp) (hs : argsIn w w.heap.size (.mk 9 n al) s) :
    Calls Tryz.prog 135 #[fp, .agg #[.int .i64 9, .int .i64 n, s]] w (IPost r w) := by
  obtain ⟨SA, scap, hse, -⟩ := argsIn_iff.1 hs
  simp only [T.al] at hse
  subst hse
  have hba := below_alloc' (Below.refl w.heap.size w) (.cells #[.int .i64 9, .int .i64 n, .slice SA al.length scap] 30)
  obtain ⟨k0, k1, k2⟩ := (Blk.new w 30 #[.int .i64 9, .int .i64 n, .slice SA al.length scap]).tri.1
  have HC := Lib.hid (fpart_any ds f hI g 9 n (.inr rfl) al a r (w.alloc (.cells #[.int .i64 9, .int .i64 n, .slice SA al.length scap] 30)) _ _ ha hv (by omega) (hf.keep hba) (hs.keep hba.size hba))
  obtain ⟨fb, -, -, -, rfl, -⟩ := hf
  have HB := Lib.hid hba
  clear hs hba hv hI
  go_enter Tryz.func135, Tryz.ntmps135
  go_wp2_with fail
  refine HC.out.mono ?_
  rintro e w2 ⟨p, rfl, hp, hb2⟩
  obtain ⟨pb, rfl⟩ := hp.form
  have HP := Lib.hid (And.intro hp (below_step HB.out hb2))
  clear hp hb2
  go_wp2_with fail
  go_ret2
  exact ⟨_, rfl, HP.out.1, HP.out.2⟩

theorem infer_pair (ds : List ND) (f : Nat) (hI : InferC ds f) (g : Fi) (n : Int) (al : List T) (a b c d : T) (r : Val) (w : World) (fp s : Value) (ha : al[0]? = some a) (hb : al[1]? = some b) (hc : al[2]? = some c) (hd : al[3]? = some d) (hv : pairQ (ds.map Prod.snd) f (inferQ (ds.map Prod.snd) f) g a b c d = some r) (hl : g.types.length + 3 * f + 3 ≤ 9000) (hf : FinderAt w ds g fp) (hs : argsIn w w.heap.size (.mk 7 n al) s) :
    Calls Tryz.prog 135 #[fp, .agg #[.int .i64 7, .int .i64 n, s]] w (IPost r w) := by
  obtain ⟨SA, scap, hse, -⟩ := argsIn_iff.1 hs
  simp only [T.al] at hse
  subst hse
  have hba := below_alloc' (Below.refl w.heap.size w) (.cells #[.int .i64 7, .int .i64 n, .slice SA al.length scap] 30)
  obtain ⟨k0, k1, k2⟩ := (Blk.new w 30 #[.int .i64 7, .int .i64 n, .slice SA al.length scap]).tri.1
  have HC := Lib.hid (fpair_any ds f hI g n al a b c d r (w.alloc (.cells #[.int .i64 7, .int .i64 n, .slice SA al.length scap] 30)) _ _ ha hb hc hd hv (by omega) (hf.keep hba) (hs.keep hba.size hba))
  obtain ⟨fb, -, -, -, rfl, -⟩ := hf
  have HB := Lib.hid hba
  clear hs hba hv hI
  go_enter Tryz.func135, Tryz.ntmps135
  go_wp2_with fail
  refine HC.out.mono ?_
  rintro e w2 ⟨p, rfl, hp, hb2⟩
  obtain ⟨pb, rfl⟩ := hp.form
  have HP := Lib.hid (And.intro hp (below_step HB.out hb2))
  clear hp hb2
  go_wp2_with fail
  go_ret2
  exact ⟨_, rfl, HP.out.1, HP.out.2⟩

theorem infer_rec (ds : List ND) (f : Nat) (hI : InferC ds f) (g : Fi) (n : Int) (al : List T) (a b c d : T) (r : Val) (w : World) (fp s : Value) (ha : al[0]? = some a) (hb : al[1]? = some b) (hc : al[2]? = some c) (hd : al[3]? = some d) (hv : recQ (ds.map Prod.snd) f (inferQ (ds.map Prod.snd) f) g a b c d = some r) (hl : g.types.length + 3 * f + 3 ≤ 9000) (hf : FinderAt w ds g fp) (hs : argsIn w w.heap.size (.mk 17 n al) s) :
    Calls Tryz.prog 135 #[fp, .agg #[.int .i64 17, .int .i64 n, s]] w (IPost r w) := by
  obtain ⟨SA, scap, hse, -⟩ := argsIn_iff.1 hs
  simp only [T.al] at hse
  subst hse
  have hba := below_alloc' (Below.refl w.heap.size w) (.cells #[.int .i64 17, .int .i64 n, .slice SA al.length scap] 30)
  obtain ⟨k0, k1, k2⟩ := (Blk.new w 30 #[.int .i64 17, .int .i64 n, .slice SA al.length scap]).tri.1
  have HC := Lib.hid (frec_any ds f hI g n al a b c d r (w.alloc (.cells #[.int .i64 17, .int .i64 n, .slice SA al.length scap] 30)) _ _ ha hb hc hd hv (by omega) (hf.keep hba) (hs.keep hba.size hba))
  obtain ⟨fb, -, -, -, rfl, -⟩ := hf
  have HB := Lib.hid hba
  clear hs hba hv hI
  go_enter Tryz.func135, Tryz.ntmps135
  go_wp2_with fail
  refine HC.out.mono ?_
  rintro e w2 ⟨p, rfl, hp, hb2⟩
  obtain ⟨pb, rfl⟩ := hp.form
  have HP := Lib.hid (And.intro hp (below_step HB.out hb2))
  clear hp hb2
  go_wp2_with fail
  go_ret2
  exact ⟨_, rfl, HP.out.1, HP.out.2⟩

set_option maxHeartbeats 800000 in
theorem infer_pi (ds : List ND) (f : Nat) (hI : InferC ds f) (g : Fi) (n : Int) (al : List T) (a b : T) (r : Int × Val) (w : World) (fp s : Value) (ha : al[0]? = some a) (hb : al[1]? = some b) (hv : bothQ (ds.map Prod.snd) f (inferQ (ds.map Prod.snd) f) g a b = some r) (hl : g.types.length + 3 * f + 3 ≤ 9000) (hf : FinderAt w ds g fp) (hs : argsIn w w.heap.size (.mk 3 n al) s) :
    Calls Tryz.prog 135 #[fp, .agg #[.int .i64 3, .int .i64 n, s]] w (IPost (.mk 2 r.1 [] []) w) := by
  obtain ⟨SA, scap, hse, -⟩ := argsIn_iff.1 hs
  simp only [T.al] at hse
  subst hse
  obtain ⟨ab, ao, rfl⟩ := arg_form (t := .mk 3 n al) hs ha
  have hba := below_alloc' (Below.refl w.heap.size w) (.cells #[.int .i64 3, .int .i64 n, .slice (some ⟨ab, ao, none⟩) al.length scap] 30)
  have htb := TB.new (t := .mk 3 n al) hs
  simp only [T.k, T.n, T.al] at htb
  obtain ⟨S0, m0, ha0⟩ := arg_at htb.args ha
  obtain ⟨S1, m1, ha1⟩ := arg_at htb.args hb
  simp only [Nat.zero_mul, Nat.one_mul, Nat.add_zero] at ha0 ha1
  have hlenN0 : 0 < al.length := (List.getElem?_eq_some_iff.1 ha).1
  have hlenI0 : (0 : Int) < (al.length : Int) := by omega
  have hlenN1 : 1 < al.length := (List.getElem?_eq_some_iff.1 hb).1
  have hlenI1 : (1 : Int) < (al.length : Int) := by omega
  obtain ⟨k0, k1, k2⟩ := (Blk.new w 30 #[.int .i64 3, .int .i64 n, .slice (some ⟨ab, ao, none⟩) al.length scap]).tri.1
  have HC := Lib.hid (fun (w' : World) (hb : Below (w.alloc (.cells #[.int .i64 3, .int .i64 n, .slice (some ⟨ab, ao, none⟩) al.length scap] 30)).heap.size (w.alloc (.cells #[.int .i64 3, .int .i64 n, .slice (some ⟨ab, ao, none⟩) al.length scap] 30)) w') => both_any ds f hI g a b r w' _ _ _ hv (by omega) ((hf.keep hba).keep hb) (ha0.2.keep hb.size hb) (ha1.2.keep hb.size hb))
  obtain ⟨fb, -, -, -, rfl, -⟩ := hf
  obtain ⟨⟨a00, a01, a02⟩, -⟩ := ha0
  obtain ⟨⟨a10, a11, a12⟩, -⟩ := ha1
  have HB := Lib.hid hba
  have HL1 := Lib.hid trivial
  have HL2 := Lib.hid trivial
  have HL3 := Lib.hid trivial
  have HL4 := Lib.hid trivial
  have HL5 := Lib.hid trivial
  have h0b : ((0 : Int) != 0) = false := by decide
  clear hs hba hv hI htb ha hb k0 k1
  generalize hW1 : (w.alloc (.cells #[.int .i64 3, .int .i64 n, .slice (some ⟨ab, ao, none⟩) al.length scap] 30)) = w1 at *
  have HW := Lib.hid hW1
  clear hW1
  have HK1 := Lib.hid (And.intro k2 (And.intro a00 (And.intro a01 (And.intro a02 (And.intro a10 (And.intro a11 a12))))))
  go_enter Tryz.func135, Tryz.ntmps135
  go_wp2_with fail
  rw [HW.out]
  go_region_held3 (fun w' => w'.cell? ⟨w.heap.size, 2, none⟩ = some (.slice (some ⟨ab, ao, none⟩) al.length scap) ∧ w'.cell? ⟨ab, ao, none⟩ = some (.int .i64 a.k) ∧ w'.cell? ⟨ab, ao + 1, none⟩ = some (.int .i64 a.n) ∧ w'.cell? ⟨ab, ao + 2, none⟩ = some (.slice S0 a.al.length m0) ∧ w'.cell? ⟨ab, ao + 3, none⟩ = some (.int .i64 b.k) ∧ w'.cell? ⟨ab, ao + 3 + 1, none⟩ = some (.int .i64 b.n) ∧ w'.cell? ⟨ab, ao + 3 + 2, none⟩ = some (.slice S1 b.al.length m1)) (go_keep)
    (first
      | ((with_reducible refine (HC.out _ (by (repeat (first | with_reducible exact Below.refl _ _ | with_reducible refine below_alloc' ?_ _ | with_reducible refine below_step ?_ HL1.out | with_reducible refine below_step ?_ HL2.out | with_reducible refine below_step ?_ HL3.out | with_reducible refine below_step ?_ HL4.out | with_reducible refine below_step ?_ HL5.out | with_reducible refine below_drew ?_)))).mono ?_); rintro e2 w2 ⟨p, rfl, hp, hb2⟩; (obtain ⟨pb, rfl⟩ := hp.form); (have HL1 := Lib.hid hb2); (have hbw : Below w1.heap.size w1 w2 := by (repeat (first | with_reducible exact Below.refl _ _ | with_reducible refine below_alloc' ?_ _ | with_reducible refine below_step ?_ HL1.out | with_reducible refine below_step ?_ HL2.out | with_reducible refine below_step ?_ HL3.out | with_reducible refine below_step ?_ HL4.out | with_reducible refine below_step ?_ HL5.out | with_reducible refine below_drew ?_))); (have HBW2 := Lib.hid hbw); (have zHK10_0 := cell_keep hbw HK1.out.1); (have zHK10_1 := cell_keep hbw HK1.out.2.1); (have zHK10_2 := cell_keep hbw HK1.out.2.2.1); (have zHK10_3 := cell_keep hbw HK1.out.2.2.2.1); (have zHK10_4 := cell_keep hbw HK1.out.2.2.2.2.1); (have zHK10_5 := cell_keep hbw HK1.out.2.2.2.2.2.1); (have zHK10_6 := cell_keep hbw HK1.out.2.2.2.2.2.2); clear hp hb2 hbw)
      | fail)
  go_wp2_with fail
  go_ret2
  exact ⟨_, rfl, leaf_blk (k := 2) (n := r.1) (Blk.new' (by simp)), below_step HB.out (below_alloc' HBW2.out _)⟩

set_option maxHeartbeats 800000 in
theorem infer_sig (ds : List ND) (f : Nat) (hI : InferC ds f) (g : Fi) (n : Int) (al : List T) (a b : T) (r : Int × Val) (w : World) (fp s : Value) (ha : al[0]? = some a) (hb : al[1]? = some b) (hv : bothQ (ds.map Prod.snd) f (inferQ (ds.map Prod.snd) f) g a b = some r) (hl : g.types.length + 3 * f + 3 ≤ 9000) (hf : FinderAt w ds g fp) (hs : argsIn w w.heap.size (.mk 6 n al) s) :
    Calls Tryz.prog 135 #[fp, .agg #[.int .i64 6, .int .i64 n, s]] w (IPost (.mk 2 r.1 [] []) w) := by
  obtain ⟨SA, scap, hse, -⟩ := argsIn_iff.1 hs
  simp only [T.al] at hse
  subst hse
  obtain ⟨ab, ao, rfl⟩ := arg_form (t := .mk 6 n al) hs ha
  have hba := below_alloc' (Below.refl w.heap.size w) (.cells #[.int .i64 6, .int .i64 n, .slice (some ⟨ab, ao, none⟩) al.length scap] 30)
  have htb := TB.new (t := .mk 6 n al) hs
  simp only [T.k, T.n, T.al] at htb
  obtain ⟨S0, m0, ha0⟩ := arg_at htb.args ha
  obtain ⟨S1, m1, ha1⟩ := arg_at htb.args hb
  simp only [Nat.zero_mul, Nat.one_mul, Nat.add_zero] at ha0 ha1
  have hlenN0 : 0 < al.length := (List.getElem?_eq_some_iff.1 ha).1
  have hlenI0 : (0 : Int) < (al.length : Int) := by omega
  have hlenN1 : 1 < al.length := (List.getElem?_eq_some_iff.1 hb).1
  have hlenI1 : (1 : Int) < (al.length : Int) := by omega
  obtain ⟨k0, k1, k2⟩ := (Blk.new w 30 #[.int .i64 6, .int .i64 n, .slice (some ⟨ab, ao, none⟩) al.length scap]).tri.1
  have HC := Lib.hid (fun (w' : World) (hb : Below (w.alloc (.cells #[.int .i64 6, .int .i64 n, .slice (some ⟨ab, ao, none⟩) al.length scap] 30)).heap.size (w.alloc (.cells #[.int .i64 6, .int .i64 n, .slice (some ⟨ab, ao, none⟩) al.length scap] 30)) w') => both_any ds f hI g a b r w' _ _ _ hv (by omega) ((hf.keep hba).keep hb) (ha0.2.keep hb.size hb) (ha1.2.keep hb.size hb))
  obtain ⟨fb, -, -, -, rfl, -⟩ := hf
  obtain ⟨⟨a00, a01, a02⟩, -⟩ := ha0
  obtain ⟨⟨a10, a11, a12⟩, -⟩ := ha1
  have HB := Lib.hid hba
  have HL1 := Lib.hid trivial
  have HL2 := Lib.hid trivial
  have HL3 := Lib.hid trivial
  have HL4 := Lib.hid trivial
  have HL5 := Lib.hid trivial
  have h0b : ((0 : Int) != 0) = false := by decide
  clear hs hba hv hI htb ha hb k0 k1
  generalize hW1 : (w.alloc (.cells #[.int .i64 6, .int .i64 n, .slice (some ⟨ab, ao, none⟩) al.length scap] 30)) = w1 at *
  have HW := Lib.hid hW1
  clear hW1
  have HK1 := Lib.hid (And.intro k2 (And.intro a00 (And.intro a01 (And.intro a02 (And.intro a10 (And.intro a11 a12))))))
  go_enter Tryz.func135, Tryz.ntmps135
  go_wp2_with fail
  rw [HW.out]
  go_region_held3 (fun w' => w'.cell? ⟨w.heap.size, 2, none⟩ = some (.slice (some ⟨ab, ao, none⟩) al.length scap) ∧ w'.cell? ⟨ab, ao, none⟩ = some (.int .i64 a.k) ∧ w'.cell? ⟨ab, ao + 1, none⟩ = some (.int .i64 a.n) ∧ w'.cell? ⟨ab, ao + 2, none⟩ = some (.slice S0 a.al.length m0) ∧ w'.cell? ⟨ab, ao + 3, none⟩ = some (.int .i64 b.k) ∧ w'.cell? ⟨ab, ao + 3 + 1, none⟩ = some (.int .i64 b.n) ∧ w'.cell? ⟨ab, ao + 3 + 2, none⟩ = some (.slice S1 b.al.length m1)) (go_keep)
    (first
      | ((with_reducible refine (HC.out _ (by (repeat (first | with_reducible exact Below.refl _ _ | with_reducible refine below_alloc' ?_ _ | with_reducible refine below_step ?_ HL1.out | with_reducible refine below_step ?_ HL2.out | with_reducible refine below_step ?_ HL3.out | with_reducible refine below_step ?_ HL4.out | with_reducible refine below_step ?_ HL5.out | with_reducible refine below_drew ?_)))).mono ?_); rintro e2 w2 ⟨p, rfl, hp, hb2⟩; (obtain ⟨pb, rfl⟩ := hp.form); (have HL1 := Lib.hid hb2); (have hbw : Below w1.heap.size w1 w2 := by (repeat (first | with_reducible exact Below.refl _ _ | with_reducible refine below_alloc' ?_ _ | with_reducible refine below_step ?_ HL1.out | with_reducible refine below_step ?_ HL2.out | with_reducible refine below_step ?_ HL3.out | with_reducible refine below_step ?_ HL4.out | with_reducible refine below_step ?_ HL5.out | with_reducible refine below_drew ?_))); (have HBW2 := Lib.hid hbw); (have zHK10_0 := cell_keep hbw HK1.out.1); (have zHK10_1 := cell_keep hbw HK1.out.2.1); (have zHK10_2 := cell_keep hbw HK1.out.2.2.1); (have zHK10_3 := cell_keep hbw HK1.out.2.2.2.1); (have zHK10_4 := cell_keep hbw HK1.out.2.2.2.2.1); (have zHK10_5 := cell_keep hbw HK1.out.2.2.2.2.2.1); (have zHK10_6 := cell_keep hbw HK1.out.2.2.2.2.2.2); clear hp hb2 hbw)
      | fail)
  go_wp2_with fail
  go_ret2
  exact ⟨_, rfl, leaf_blk (k := 2) (n := r.1) (Blk.new' (by simp)), below_step HB.out (below_alloc' HBW2.out _)⟩

set_option maxHeartbeats 800000 in
theorem infer_suc (ds : List ND) (f : Nat) (hI : InferC ds f) (g : Fi) (n : Int) (al : List T) (a : T) (w : World) (fp s : Value) (ha : al[0]? = some a) (hv : checkQ (ds.map Prod.snd) f (inferQ (ds.map Prod.snd) f) g a natV = some true) (hl : g.types.length + 3 * f + 3 ≤ 9000) (hf : FinderAt w ds g fp) (hs : argsIn w w.heap.size (.mk 16 n al) s) :
    Calls Tryz.prog 135 #[fp, .agg #[.int .i64 16, .int .i64 n, s]] w (IPost natV w) := by
  obtain ⟨SA, scap, hse, -⟩ := argsIn_iff.1 hs
  simp only [T.al] at hse
  subst hse
  obtain ⟨ab, ao, rfl⟩ := arg_form (t := .mk 16 n al) hs ha
  have hba := below_alloc' (Below.refl w.heap.size w) (.cells #[.int .i64 16, .int .i64 n, .slice (some ⟨ab, ao, none⟩) al.length scap] 30)
  have htb := TB.new (t := .mk 16 n al) hs
  simp only [T.k, T.n, T.al] at htb
  obtain ⟨S0, m0, ha0⟩ := arg_at htb.args ha
  simp only [Nat.zero_mul, Nat.add_zero] at ha0
  have hlenN0 : 0 < al.length := (List.getElem?_eq_some_iff.1 ha).1
  have hlenI0 : (0 : Int) < (al.length : Int) := by omega
  obtain ⟨k0, k1, k2⟩ := (Blk.new w 30 #[.int .i64 16, .int .i64 n, .slice (some ⟨ab, ao, none⟩) al.length scap]).tri.1
  have hbn := below_alloc' (Below.refl (w.alloc (.cells #[.int .i64 16, .int .i64 n, .slice (some ⟨ab, ao, none⟩) al.length scap] 30)).heap.size (w.alloc (.cells #[.int .i64 16, .int .i64 n, .slice (some ⟨ab, ao, none⟩) al.length scap] 30))) (.cells #[.int .i64 14, .int .i64 0, .slice none 0 0, .slice none 0 0] 96)
  have hnb := leaf_blk (k := 14) (n := 0) (Blk.new (w.alloc (.cells #[.int .i64 16, .int .i64 n, .slice (some ⟨ab, ao, none⟩) al.length scap] 30)) 96 #[.int .i64 14, .int .i64 0, .slice none 0 0, .slice none 0 0])
  rw [show (w.alloc (.cells #[.int .i64 16, .int .i64 n, .slice (some ⟨ab, ao, none⟩) al.length scap] 30)).heap.size = w.heap.size + 1 by simp] at hnb
  have HC := Lib.hid (show Calls Tryz.prog 111 _ _ (StrPost (.int .i64 0) _) from check_any ds f hI g a natV true ((w.alloc (.cells #[.int .i64 16, .int .i64 n, .slice (some ⟨ab, ao, none⟩) al.length scap] 30)).alloc (.cells #[.int .i64 14, .int .i64 0, .slice none 0 0, .slice none 0 0] 96)) _ _ _ hv (by omega) ((hf.keep hba).keep hbn) (ha0.2.keep hbn.size hbn) hnb)
  have HN := Lib.hid hnb
  have c2 := cell_keep hbn k2
  have a00 := cell_keep hbn ha0.1.1
  have a01 := cell_keep hbn ha0.1.2.1
  have a02 := cell_keep hbn ha0.1.2.2
  obtain ⟨fb, -, -, -, rfl, -⟩ := hf
  have HB := Lib.hid (below_step hba hbn)
  have h0b : ((0 : Int) != 0) = false := by decide
  clear hs hba hbn hnb hv hI htb ha ha0
  go_enter Tryz.func135, Tryz.ntmps135
  go_wp2_with fail
  refine HC.out.mono ?_
  rintro e w2 ⟨rfl, hb2⟩
  have HP := Lib.hid (And.intro (HN.out.keep hb2) (below_step HB.out hb2))
  clear hb2
  go_wp2_with fail
  go_ret2
  exact ⟨_, rfl, HP.out.1, HP.out.2⟩

theorem infer_step (ds : List ND) (f : Nat) (hn : ds.length ≤ 1000000) (hI : InferC ds f) : InferC ds (f + 1) := by
  intro g t v w fp s hv hl hf hs
  obtain ⟨k, n, al⟩ := t
  obtain ⟨SA, scap, hse, -⟩ := argsIn_iff.1 hs
  simp only [T.al] at hse
  subst hse
  show Calls Tryz.prog 135 #[fp, .agg #[.int .i64 k, .int .i64 n, .slice SA al.length scap]] w (IPost v w)
  rw [inferQ] at hv
  by_cases h1 : k = 1
  · subst h1
    rw [if_pos rfl] at hv
    split at hv
    · rename_i h
      obtain ⟨N, rfl⟩ := Int.eq_ofNat_of_zero_le h.1
      exact infer_var ds g N v (by omega) (by omega) (by simpa using hv) _ _ _ w fp hf
    · cases hv
  rw [if_neg h1] at hv
  by_cases h18 : k = 18
  · subst h18
    rw [if_pos rfl] at hv
    split at hv
    · rename_i h
      obtain ⟨N, rfl⟩ := Int.eq_ofNat_of_zero_le h
      simp only [Option.bind_eq_some_iff] at hv
      obtain ⟨d, hd, hv⟩ := hv
      rw [List.getElem?_map, Option.map_eq_some_iff] at hd
      obtain ⟨d', hd, rfl⟩ := hd
      exact infer_def ds f g N d' v (by simpa using hd) hn hv _ _ _ w fp hf
    · cases hv
  rw [if_neg h18] at hv
  by_cases h2 : k = 2
  · subst h2
    rw [if_pos rfl] at hv
    split at hv
    · rename_i h
      cases hv
      exact infer_u n h.1 h.2 _ _ _ w fp
    · cases hv
  rw [if_neg h2] at hv
  by_cases h10 : k = 10 ∨ k = 12 ∨ k = 14
  · rw [if_pos h10] at hv
    cases hv
    rcases h10 with rfl | rfl | rfl
    · exact infer_unit n _ _ _ w fp
    · exact infer_empty n _ _ _ w fp
    · exact infer_nat n _ _ _ w fp
  rw [if_neg h10] at hv
  by_cases h11 : k = 11
  · subst h11; rw [if_pos rfl] at hv; cases hv; exact infer_star n _ _ _ w fp
  rw [if_neg h11] at hv
  by_cases h15 : k = 15
  · subst h15; rw [if_pos rfl] at hv; cases hv; exact infer_zero n _ _ _ w fp
  rw [if_neg h15] at hv
  by_cases h36 : k = 3 ∨ k = 6
  · rw [if_pos h36] at hv
    simp only [Option.bind_eq_some_iff] at hv
    obtain ⟨a, ha, b, hb, r, hr, hv⟩ := hv
    cases hv
    rcases h36 with rfl | rfl
    · exact infer_pi ds f hI g n al a b r w fp _ ha hb hr (by omega) hf hs
    · exact infer_sig ds f hI g n al a b r w fp _ ha hb hr (by omega) hf hs
  rw [if_neg h36] at hv
  by_cases h16 : k = 16
  · subst h16
    rw [if_pos rfl] at hv
    simp only [Option.bind_eq_some_iff, thenQ] at hv
    obtain ⟨a, ha, q, hq, hv⟩ := hv
    cases q with
    | false => simp at hv
    | true =>
      simp at hv
      subst hv
      exact infer_suc ds f hI g n al a w fp _ ha hq (by omega) hf hs
  rw [if_neg h16] at hv
  by_cases h4 : k = 4
  · subst h4
    rw [if_pos rfl] at hv
    simp only [Option.bind_eq_some_iff] at hv
    obtain ⟨a, ha, b, hb, hv⟩ := hv
    exact infer_lam ds f hI g n al a b v w fp _ ha hb hv (by omega) hf hs
  rw [if_neg h4] at hv
  by_cases h5 : k = 5
  · subst h5
    rw [if_pos rfl] at hv
    simp only [Option.bind_eq_some_iff] at hv
    obtain ⟨a, ha, b, hb, hv⟩ := hv
    exact infer_app ds f hI g n al a b v w fp _ ha hb hv (by omega) hf hs
  rw [if_neg h5] at hv
  by_cases h7 : k = 7
  · subst h7
    rw [if_pos rfl] at hv
    simp only [Option.bind_eq_some_iff] at hv
    obtain ⟨a, ha, b, hb, c, hc, d, hd, hv⟩ := hv
    exact infer_pair ds f hI g n al a b c d v w fp _ ha hb hc hd hv (by omega) hf hs
  rw [if_neg h7] at hv
  by_cases h89 : k = 8 ∨ k = 9
  · rw [if_pos h89] at hv
    simp only [Option.bind_eq_some_iff] at hv
    obtain ⟨a, ha, hv⟩ := hv
    rcases h89 with rfl | rfl
    · exact infer_fst ds f hI g n al a v w fp _ ha hv (by omega) hf hs
    · exact infer_snd ds f hI g n al a v w fp _ ha hv (by omega) hf hs
  rw [if_neg h89] at hv
  by_cases h17 : k = 17
  · subst h17
    rw [if_pos rfl] at hv
    simp only [Option.bind_eq_some_iff] at hv
    obtain ⟨a, ha, b, hb, c, hc, d, hd, hv⟩ := hv
    exact infer_rec ds f hI g n al a b c d v w fp _ ha hb hc hd hv (by omega) hf hs
  rw [if_neg h17] at hv
  cases hv

theorem infer_any (ds : List ND) (hn : ds.length ≤ 1000000) : ∀ f, InferC ds f := by
  intro f
  induction f with
  | zero => intro g t v w fp s hv; cases hv
  | succ f ih => exact infer_step ds f hn ih
end Go.Proofs.YtjboibbgigkhkaaGreatDoor

