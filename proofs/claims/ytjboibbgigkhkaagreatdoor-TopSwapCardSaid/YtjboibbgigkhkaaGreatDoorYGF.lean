/- package eval: Term's two closures. -/
import Derived.Test.YtjboibbgigkhkaaGreatDoorYGE
import Derived.Test.YtjboibbgigkhkaaGreatDoorYGA
namespace Go.Proofs.YtjboibbgigkhkaaGreatDoor
open Go.RowKit
set_option maxRecDepth 100000

def TermC (ds : List ND) (f : Nat) : Prop := ∀ (v : Val) (level : Int) (t : T) (w : World) (D p : Value), termP (ds.map Prod.snd) f v level = some t → DeclsAt w ds D → ValAt w v p →
  Calls Tryz.prog 165 #[D, p, .int .i64 level] w (TermPost t nowhere w)

/-- the three boxes that Term's closures read -/
def TF (ds : List ND) (v : Val) (level : Int) (D p : Value) (g : Nat) (w w1 : World) : Prop :=
  (DeclsAt w1 ds D ∧ ValAt w1 v p) ∧ Blk w1 g 23 #[D] ∧ Blk w1 (g + 1) 63 #[p] ∧ Blk w1 (g + 2) 3 #[.int .i64 level] ∧ Below w.heap.size w w1
theorem TF.more {ds : List ND} {v : Val} {level : Int} {D p : Value} {g : Nat} {w w1 w2 : World} (h : TF ds v level D p g w w1) (hb : Below w1.heap.size w1 w2) : TF ds v level D p g w w2 :=
  ⟨⟨h.1.1.keep hb, h.1.2.keep hb⟩, h.2.1.more hb, h.2.2.1.more hb, h.2.2.2.1.more hb, h.2.2.2.2.trans (hb.mono h.2.2.2.2.size)⟩
theorem TF.cells {ds : List ND} {v : Val} {level : Int} {D p : Value} {g : Nat} {w w1 : World} (h : TF ds v level D p g w w1) :
    w1.cell? ⟨g, 0, none⟩ = some D ∧ w1.cell? ⟨g + 1, 0, none⟩ = some p ∧ w1.cell? ⟨g + 2, 0, none⟩ = some (.int .i64 level) := ⟨h.2.1.cell 0, h.2.2.1.cell 0, h.2.2.2.1.cell 0⟩

set_option maxHeartbeats 800000 in
theorem t1_any (ds : List ND) (f : Nat) (hT : TermC ds f) (v x : Val) (level : Int) (t : T) (D p : Value) (g i : Nat) (w w1 : World) (hF : TF ds v level D p g w w1) (_hi : i ≤ 1000000) (hx : v.args[i]? = some x) (ht : termP (ds.map Prod.snd) f x level = some t) :
    Calls Tryz.prog 171 #[.int .i64 i, .pointer (some ⟨g, 0, none⟩), .pointer (some ⟨g + 1, 0, none⟩), .pointer (some ⟨g + 2, 0, none⟩)] w1 (TermPost t nowhere w1) := by
  obtain ⟨DA, dcap, rfl, -⟩ := id hF.1.1
  obtain ⟨vb, A, m, B, l, rfl, ⟨-, -, c2, -⟩, h3, -⟩ := hF.1.2.open_
  have hl := (List.getElem?_eq_some_iff.1 hx).1
  obtain ⟨ab, ao, rfl, hq⟩ := h3 (by intro e; rw [e] at hl; simp at hl)
  obtain ⟨q, cq, hxq⟩ := hq i x hx
  obtain ⟨qb, rfl⟩ := hxq.form
  have hli : (i : Int) < (v.args.length : Int) := by omega
  have hba := below_alloc' (Below.refl w1.heap.size w1) (.cells #[.int .i64 0, .int .i64 0, .slice none 0 0] 30)
  have hR := Blk.new w1 30 #[.int .i64 0, .int .i64 0, .slice none 0 0]
  have hF2 := hF.more hba
  have d2 := cell_keep hba c2
  have dq := cell_keep hba cq
  have hT2 := hT x level t _ _ _ ht (hF2.1.1.keep (Below.refl _ _).drew) ((hxq.keep hba).keep (Below.refl _ _).drew)
  obtain ⟨k0, k1, k2⟩ := hF2.cells
  have HCALL := Lib.hid hT2
  have HR := Lib.hid hR
  have HSZ := Lib.hid (show (w1.alloc (.cells #[.int .i64 0, .int .i64 0, .slice none 0 0] 30)).heap.size = w1.heap.size + 1 by simp)
  have HBA := Lib.hid hba
  clear hF hF2 hT hT2 hR h3 hq hxq c2 cq hba hx ht hl
  go_enter Tryz.func171, Tryz.ntmps171
  go_wp2_with fail
  generalize w1.alloc (.cells #[.int .i64 0, .int .i64 0, .slice none 0 0] 30) = w2 at *
  refine still_tail 9 (by kernel_rfl) (by kernel_rfl) ?_
  simp only [List.take_succ_cons, List.take_zero, List.drop_succ_cons, List.drop_zero]
  repeat still_step
  try refine wpStill_nil ?_
  go_wp2_with fail
  refine HCALL.out.mono ?_
  rintro e w3 ⟨s, rfl, hs, hb3⟩
  obtain ⟨SA, scap, rfl, -⟩ := argsInS_iff.1 hs
  have hl3 := drew_trans hb3
  obtain ⟨⟨r0, r1, r2⟩, g0, g1, g2⟩ := (HR.out.more hl3).tri
  have HS := Lib.hid hs
  have HL3 := Lib.hid hl3
  clear hs hb3 hl3
  go_wp2_with fail
  have ho := term_out (w := w1) (a := .int .i64 t.k) (b := .int .i64 t.n) (c := .slice SA t.al.length scap) HS.out (fun b hb => hb.elim) (Nat.le_refl _) (by simp; rw [HSZ.out]; omega) (below_step HBA.out HL3.out)
  refine bodyPost_ret (v := .agg #[.int .i64 t.k, .int .i64 t.n, .slice SA t.al.length scap]) (by simp [results, Tryz.results171, go_sem, r0, r1, r2]) rfl ⟨_, rfl, ho.1, ho.2⟩
end Go.Proofs.YtjboibbgigkhkaaGreatDoor

/- package eval: Term's second closure; Term. -/
namespace Go.Proofs.YtjboibbgigkhkaaGreatDoor
open Go.RowKit
set_option maxRecDepth 100000

theorem set3_other {w : World} {g : Nat} {a b c v : Value} {q : Addr} (h : w.cell? q = some v) (hq : q.block ≠ g) : (((w.setCell ⟨g, 0, none⟩ a).setCell ⟨g, 1, none⟩ b).setCell ⟨g, 2, none⟩ c).cell? q = some v := by
  rw [World.cell?_setCell_other, World.cell?_setCell_other, World.cell?_setCell_other]
  · exact h
  all_goals (intro e; rw [← e] at hq; exact hq rfl)

set_option maxHeartbeats 1600000 in
theorem t2_any (ds : List ND) (f : Nat) (hT : TermC ds f) (v u : Val) (b : Clo) (level : Int) (h0 : 0 ≤ level) (h1 : level ≤ 1000) (t : T) (D p : Value) (g : Nat) (w w1 : World) (hF : TF ds v level D p g w w1) (hb0 : v.bs[0]? = some b)
    (hu : withP (ds.map Prod.snd) f b [freeP level] = some u) (ht : termP (ds.map Prod.snd) f u (level + 1) = some t) :
    Calls Tryz.prog 172 #[.int .i64 0, .int .i64 1, .pointer (some ⟨g + 2, 0, none⟩), .pointer (some ⟨g, 0, none⟩), .pointer (some ⟨g + 1, 0, none⟩)] w1 (TermPost t nowhere w1) := by
  obtain ⟨DA, dcap, rfl, -⟩ := id hF.1.1
  obtain ⟨vb, bb, bo, bm, S, sc, ea, rfl, c3, hbl, ⟨k0, k1, k2, k3⟩, hcv⟩ := val_clo0 hF.1.2 hb0
  have hba := below_alloc' (Below.refl w1.heap.size w1) (.cells #[.int .i64 0, .int .i64 0, .slice none 0 0] 30)
  have HR := Lib.hid (Blk.new w1 30 #[.int .i64 0, .int .i64 0, .slice none 0 0])
  have HF2 := Lib.hid (And.intro (hF.more hba) (hcv.keep hba))
  have HK := Lib.hid (And.intro (cell_keep hba c3) (And.intro (cell_keep hba k0) (And.intro (cell_keep hba k1) (And.intro (cell_keep hba k2) (cell_keep hba k3)))))
  have HSZ := Lib.hid (show (w1.alloc (.cells #[.int .i64 0, .int .i64 0, .slice none 0 0] 30)).heap.size = w1.heap.size + 1 by simp)
  have HNE := Lib.hid (show g ≠ w1.heap.size ∧ g + 1 ≠ w1.heap.size ∧ g + 2 ≠ w1.heap.size ∧ vb ≠ w1.heap.size ∧ bb ≠ w1.heap.size from ⟨Nat.ne_of_lt hF.2.1.lt, Nat.ne_of_lt hF.2.2.1.lt, Nat.ne_of_lt hF.2.2.2.1.lt, Nat.ne_of_lt (World.block_lt_of_cell? _ _ c3), Nat.ne_of_lt (World.block_lt_of_cell? _ _ k0)⟩)
  have HBA := Lib.hid hba
  have HT := Lib.hid hT
  have HU := Lib.hid (And.intro hu ht)
  obtain ⟨i0, hi0, hz0, hz1, hz2⟩ := info_parts Tryz.infoVal
  have HMX := Lib.hid (show 0 + 1 ≤ maxLen ∧ (0 + 1) * 8 ≤ 140737488355328 by decide)
  have hwr : IntKind.i64.wrap level = level := IntWalk.i64_in _ (by omega)
  have hwr0 : IntKind.i64.wrap (level + 0) = level := by rw [Int.add_zero]; exact hwr
  have hwr1 : IntKind.i64.wrap (level + 1) = level + 1 := IntWalk.i64_in _ (by omega)
  have HL1 := Lib.hid trivial
  have HL2 := Lib.hid trivial
  have HL3 := Lib.hid trivial
  have HL4 := Lib.hid trivial
  have HL5 := Lib.hid trivial
  clear hF hT hcv c3 k0 k1 k2 k3 hba hu ht hb0
  go_enter Tryz.func172, Tryz.ntmps172
  go_wp2_with fail
  generalize w1.alloc (.cells #[.int .i64 0, .int .i64 0, .slice none 0 0] 30) = w2 at *
  go_loopw [8, 11] (fun lv iv wr => (lv = .slice none 0 0 ∧ iv = .int .i64 0 ∧ wr = w2) ∨ (∃ A m, lv = .slice A 1 m ∧ iv = .int .i64 1 ∧ ValsAt wr [freeP level] A ∧ Below w2.heap.size w2 wr)) (fun _ iv _ => 1 - (intOf iv).toNat)
  case atStart => exact .inl ⟨rfl, rfl, rfl⟩
  case round =>
    rcases hrel with ⟨rfl, rfl, rfl⟩ | ⟨A, m, rfl, rfl, hvs, hb⟩
    · obtain ⟨j0, j1, j2⟩ := HF2.out.1.cells
      go_wp2_with fail
      refine (free_any _ _).mono ?_
      rintro e5 w5 ⟨xp, rfl, hx, hb5⟩
      obtain ⟨xb, rfl⟩ := hx.form
      have HX := Lib.hid hx
      have HB5 := Lib.hid hb5
      clear hx hb5 j0 j1 j2
      go_wp2_with (first | (at_builtin; go_loud (refine wpList_append_any _ rfl (.tmp 14) (.tmp 19) 93 rfl 0 63 i0 (.pointer none) 1 8 Tryz.underlying93 hi0 hz0 hz1 hz2 rfl (by decide) (.slice none 0 0) 0 [] rfl (World.ownsRow_nil _ _ _ _) _ (some ⟨w5.heap.size, 0, none⟩) 1 1 [.pointer (some ⟨xb, 0, none⟩)] rfl (reads_new w5 _ 63) (by intro u hu; simp at hu; subst hu; rfl) HMX.out.1 HMX.out.2 (Nat.zero_le _) ?_)))
      intro V9 w9 hown9 hgr9 _
      obtain ⟨A9, cap9, hV9⟩ := ownf hown9
      subst hV9
      have hb9 := (((Below.refl w5.heap.size w5).alloc (Nat.le_refl _) (.cells #[.pointer (some ⟨xb, 0, none⟩)] 63))).grown hgr9 (by simp) (by intro k hk; simp [Value.ownBlock] at hk)
      have HV9 := Lib.hid (ValsIn.of_own (l := [freeP level]) (by simpa using hown9) ⟨rfl, by intro u hu; simp at hu; subst hu; rfl, fun j x hj => by
        match j, hj with
        | 0, hj => simp at hj; subst hj; exact ⟨_, rfl, HX.out.keep hb9⟩
        | j + 1, hj => simp at hj⟩)
      have HB9 := Lib.hid (below_step HB5.out hb9)
      clear hown9 hgr9 hb9
      go_wp2_with fail
      go_roundw
      case rel =>
        obtain ⟨A', m', e, -, -, h⟩ := HV9.out
        injection e with e1 e2 e3
        subst e1
        exact .inr ⟨_, _, rfl, by go_num, h, HB9.out⟩
      case measure => simp [intOf]
    · have hF3 := HF2.out.1.more hb
      obtain ⟨j0, j1, j2⟩ := hF3.cells
      have q0 := cell_keep hb HK.out.1
      have q1 := cell_keep hb HK.out.2.1
      have q2 := cell_keep hb HK.out.2.2.1
      have q3 := cell_keep hb HK.out.2.2.2.1
      have q4 := cell_keep hb HK.out.2.2.2.2
      have HKK := Lib.hid (And.intro (And.intro j0 (And.intro j1 j2)) (And.intro q0 (And.intro q1 (And.intro q2 (And.intro q3 q4)))))
      have HW := Lib.hid (show ∀ w' : World, Below wr.heap.size wr w' → Calls Tryz.prog 60 #[.agg #[.int .i64 b.1.k, .int .i64 b.1.n, .slice S b.1.al.length sc, .pointer ea], .slice DA ds.length dcap, .slice A 1 m] w' (VPost u w') from fun (w' : World) (hb' : Below wr.heap.size wr w') => with_any ds f (eval_any ds f).1 b [freeP level] u HU.out.1 w' (.slice DA ds.length dcap) _ _ A m (by simp) (hF3.1.1.keep hb') ((HF2.out.2.keep hb).keep hb') (hvs.keep hb'))
      have HT2 := Lib.hid (fun (w' : World) (up : Value) (hb' : Below wr.heap.size wr w') (hup : ValAt w' u up) => HT.out u (level + 1) t w' (.slice DA ds.length dcap) up HU.out.2 (hF3.1.1.keep hb') hup)
      have hrb := HR.out.more hb
      have hn1 : g ≠ w1.heap.size := HNE.out.1
      have hn2 : g + 1 ≠ w1.heap.size := HNE.out.2.1
      have hn3 : g + 2 ≠ w1.heap.size := HNE.out.2.2.1
      have hn4 : vb ≠ w1.heap.size := HNE.out.2.2.2.1
      have hn5 : bb ≠ w1.heap.size := HNE.out.2.2.2.2
      have HRB := Lib.hid hrb
      have HBW := Lib.hid hb
      clear hF3 hvs hb hrb
      go_wp2_with fail
      go_region_held3 (fun w' => (w'.cell? ⟨g, 0, none⟩ = some (.slice DA ds.length dcap) ∧ w'.cell? ⟨g + 1, 0, none⟩ = some (.pointer (some ⟨vb, 0, none⟩)) ∧ w'.cell? ⟨g + 2, 0, none⟩ = some (.int .i64 level)) ∧ w'.cell? ⟨vb, 3, none⟩ = some (.slice (some ⟨bb, bo, none⟩) v.bs.length bm) ∧ w'.cell? ⟨bb, bo, none⟩ = some (.int .i64 b.1.k) ∧ w'.cell? ⟨bb, bo + 1, none⟩ = some (.int .i64 b.1.n) ∧ w'.cell? ⟨bb, bo + 2, none⟩ = some (.slice S b.1.al.length sc) ∧ w'.cell? ⟨bb, bo + 3, none⟩ = some (.pointer ea)) (first | go_keep | exact ⟨⟨set3_other y0 hn1, set3_other y1 hn2, set3_other y2 hn3⟩, set3_other y3 hn4, set3_other y4 hn5, set3_other y5 hn5, set3_other y6 hn5, set3_other y7 hn5⟩)
        (first
          | ((with_reducible refine (HW.out _ (by (repeat (first | with_reducible exact Below.refl _ _ | with_reducible refine below_alloc' ?_ _ | with_reducible refine below_step ?_ HL1.out | with_reducible refine below_step ?_ HL2.out | with_reducible refine below_step ?_ HL3.out | with_reducible refine below_step ?_ HL4.out | with_reducible refine below_step ?_ HL5.out | with_reducible refine below_drew ?_)))).mono ?_); rintro e3 w3 ⟨up, rfl, hu3, hb3⟩; (obtain ⟨upb, rfl⟩ := hu3.form); (have HL1 := Lib.hid hb3); (have hbw : Below wr.heap.size wr w3 := by (repeat (first | with_reducible exact Below.refl _ _ | with_reducible refine below_alloc' ?_ _ | with_reducible refine below_step ?_ HL1.out | with_reducible refine below_step ?_ HL2.out | with_reducible refine below_step ?_ HL3.out | with_reducible refine below_step ?_ HL4.out | with_reducible refine below_step ?_ HL5.out | with_reducible refine below_drew ?_))); (have HU3 := Lib.hid hu3); (have x0 := cell_keep hbw HKK.out.1.1); (have x1 := cell_keep hbw HKK.out.1.2.1); (have x2 := cell_keep hbw HKK.out.1.2.2); (have x3 := cell_keep hbw HKK.out.2.1); (have x4 := cell_keep hbw HKK.out.2.2.1); (have x5 := cell_keep hbw HKK.out.2.2.2.1); (have x6 := cell_keep hbw HKK.out.2.2.2.2.1); (have x7 := cell_keep hbw HKK.out.2.2.2.2.2); clear hu3 hb3 hbw)
          | ((with_reducible refine (HT2.out _ _ (by (repeat (first | with_reducible exact Below.refl _ _ | with_reducible refine below_alloc' ?_ _ | with_reducible refine below_step ?_ HL1.out | with_reducible refine below_step ?_ HL2.out | with_reducible refine below_step ?_ HL3.out | with_reducible refine below_step ?_ HL4.out | with_reducible refine below_step ?_ HL5.out | with_reducible refine below_drew ?_))) (HU3.out.keep (by (repeat (first | with_reducible exact Below.refl _ _ | with_reducible refine below_alloc' ?_ _ | with_reducible refine below_step ?_ HL1.out | with_reducible refine below_step ?_ HL2.out | with_reducible refine below_step ?_ HL3.out | with_reducible refine below_step ?_ HL4.out | with_reducible refine below_step ?_ HL5.out | with_reducible refine below_drew ?_))))).mono ?_); rintro e4 w4 ⟨s4, rfl, hs4, hb4⟩; (obtain ⟨SA, scap, rfl, -⟩ := argsInS_iff.1 hs4); (have HL2 := Lib.hid hb4); (have hbw : Below wr.heap.size wr w4 := by (repeat (first | with_reducible exact Below.refl _ _ | with_reducible refine below_alloc' ?_ _ | with_reducible refine below_step ?_ HL1.out | with_reducible refine below_step ?_ HL2.out | with_reducible refine below_step ?_ HL3.out | with_reducible refine below_step ?_ HL4.out | with_reducible refine below_step ?_ HL5.out | with_reducible refine below_drew ?_))); (have HS4 := Lib.hid hs4); (obtain ⟨⟨r0, r1, r2⟩, g0, g1, g2⟩ := (HRB.out.more hbw).tri); (have y0 := cell_keep hbw HKK.out.1.1); (have y1 := cell_keep hbw HKK.out.1.2.1); (have y2 := cell_keep hbw HKK.out.1.2.2); (have y3 := cell_keep hbw HKK.out.2.1); (have y4 := cell_keep hbw HKK.out.2.2.1); (have y5 := cell_keep hbw HKK.out.2.2.2.1); (have y6 := cell_keep hbw HKK.out.2.2.2.2.1); (have y7 := cell_keep hbw HKK.out.2.2.2.2.2); clear hs4 hb4 hbw)
          | fail)
      all_goals go_wp2_with fail
      all_goals (
        have ho := term_out (w := w1) (a := .int .i64 t.k) (b := .int .i64 t.n) (c := .slice SA t.al.length scap) HS4.out (fun b hb => hb.elim) (Nat.le_refl _) (by have h5 := HSZ.out; have h6 := HBW.out.size; have h7 := HL1.out.size; simp at h7 ⊢; omega) (below_step (below_step HBA.out HBW.out) (show Below wr.heap.size wr w4 by (repeat (first | with_reducible exact Below.refl _ _ | with_reducible refine below_alloc' ?_ _ | with_reducible refine below_step ?_ HL1.out | with_reducible refine below_step ?_ HL2.out | with_reducible refine below_step ?_ HL3.out | with_reducible refine below_step ?_ HL4.out | with_reducible refine below_step ?_ HL5.out | with_reducible refine below_drew ?_))))
        refine bodyPost_ret (v := .agg #[.int .i64 t.k, .int .i64 t.n, .slice SA t.al.length scap]) (by simp [results, Tryz.results172, go_sem, r0, r1, r2]) rfl ⟨_, rfl, ho.1, ho.2⟩)
end Go.Proofs.YtjboibbgigkhkaaGreatDoor

/- package eval: Term. -/
namespace Go.Proofs.YtjboibbgigkhkaaGreatDoor
open Go.RowKit
set_option maxRecDepth 100000

theorem tf_new {ds : List ND} {v : Val} {level : Int} {D p : Value} {w : World} (hD : DeclsAt w ds D) (hv : ValAt w v p) :
    TF ds v level D p w.heap.size w ((((w.alloc (.cells #[D] 23)).alloc (.cells #[p] 63)).alloc (.cells #[.int .i64 level] 3)).alloc (.cells #[.int .i64 0, .int .i64 0, .slice none 0 0] 30)) ∧
    Blk ((((w.alloc (.cells #[D] 23)).alloc (.cells #[p] 63)).alloc (.cells #[.int .i64 level] 3)).alloc (.cells #[.int .i64 0, .int .i64 0, .slice none 0 0] 30)) (w.heap.size + 1 + 1 + 1) 30 #[.int .i64 0, .int .i64 0, .slice none 0 0] := by
  have hb := below_alloc' (below_alloc' (below_alloc' (below_alloc' (Below.refl w.heap.size w) (.cells #[D] 23)) (.cells #[p] 63)) (.cells #[.int .i64 level] 3)) (.cells #[.int .i64 0, .int .i64 0, .slice none 0 0] 30)
  exact ⟨⟨⟨hD.keep hb, hv.keep hb⟩, (((Blk.new' rfl).alloc _).alloc _).alloc _, ((Blk.new' (by simp)).alloc _).alloc _, (Blk.new' (by simp)).alloc _, hb⟩, Blk.new' (by simp)⟩

theorem pair_args {w : World} {S : Nat → Prop} {q : Nat} {ty : TypeId} {k n : Int} {x y : T} {s1 s2 : Value} (hB : Blk w q ty #[.int .i64 x.k, .int .i64 x.n, s1, .int .i64 y.k, .int .i64 y.n, s2]) (h1 : argsInS w S x s1) (h2 : argsInS w S y s2) (hq : S q) :
    argsInS w S (.mk k n [x, y]) (.slice (some ⟨q, 0, none⟩) 2 2) := by
  refine argsInS_iff.2 ⟨some ⟨q, 0, none⟩, 2, rfl, Nat.le_refl _, by unfold maxLen; omega, fun _ => ⟨q, 0, rfl, hq, cellsInS.mk_ fun i t hi => ?_⟩⟩
  match i, hi with
  | 0, hi => cases hi; exact ⟨s1, hB.cell 0, hB.cell 1, hB.cell 2, h1⟩
  | 1, hi => cases hi; exact ⟨s2, hB.cell 3, hB.cell 4, hB.cell 5, h2⟩
  | i + 2, hi => simp [T.al] at hi

theorem eterm_fin {w w1 w2 w3 w4 : World} {k n : Int} {x y : T} {s3 s4 : Value} {ty : TypeId} {a b c d : Value} (h01 : Below w.heap.size w w1) (h12 : Below w1.heap.size w1 w2) (hsz : w1.heap.size = w.heap.size + 4) (hlt : w1.heap.size < w2.heap.size ∧ w.heap.size + 1 + 1 + 1 < w2.heap.size)
    (hs3 : argsInS w3 (orNew nowhere w2 w3) x s3) (hs4 : argsInS w4 (orNew nowhere w3 w4) y s4) (h23 : Below w2.heap.size w2 w3) (h34 : Below w3.heap.size w3 w4) :
    TermPost (.mk k n [x, y]) nowhere w (.returned (.agg #[.int .i64 k, .int .i64 n, .slice (some ⟨w4.heap.size, 0, none⟩) 2 2]))
      (((((w4.alloc (.cells #[.int .i64 x.k, .int .i64 x.n, s3, .int .i64 y.k, .int .i64 y.n, s4] ty)).setCell ⟨w1.heap.size, 2, none⟩ a).setCell ⟨w.heap.size + 1 + 1 + 1, 0, none⟩ b).setCell ⟨w.heap.size + 1 + 1 + 1, 1, none⟩ c).setCell ⟨w.heap.size + 1 + 1 + 1, 2, none⟩ d) := by
  have h45 := below_alloc' (Below.refl w4.heap.size w4) (.cells #[.int .i64 x.k, .int .i64 x.n, s3, .int .i64 y.k, .int .i64 y.n, s4] ty)
  have hB := Blk.new w4 ty #[.int .i64 x.k, .int .i64 x.n, s3, .int .i64 y.k, .int .i64 y.n, s4]
  have e5 : (w4.alloc (.cells #[.int .i64 x.k, .int .i64 x.n, s3, .int .i64 y.k, .int .i64 y.n, s4] ty)).heap.size = w4.heap.size + 1 := by simp
  have h05 := below_step (below_step (below_step (below_step h01 h12) h23) h34) h45
  have z3 := h23.size
  have z4 := h34.size
  have hx : argsInS (w4.alloc (.cells #[.int .i64 x.k, .int .i64 x.n, s3, .int .i64 y.k, .int .i64 y.n, s4] ty)) (fun b => w2.heap.size ≤ b ∧ b < w4.heap.size + 1) x s3 :=
    hs3.keep (fun b hb => by rcases hb with hb | hb; exact hb.elim; exact ⟨hb.1, by have := hb.2; omega⟩) fun p hp => (h34.trans (h45.mono z4)).cell (by rcases hp with hp | hp; exact hp.elim; exact hp.2)
  have hy : argsInS (w4.alloc (.cells #[.int .i64 x.k, .int .i64 x.n, s3, .int .i64 y.k, .int .i64 y.n, s4] ty)) (fun b => w2.heap.size ≤ b ∧ b < w4.heap.size + 1) y s4 :=
    hs4.keep (fun b hb => by rcases hb with hb | hb; exact hb.elim; exact ⟨by have := hb.1; omega, by have := hb.2; omega⟩) fun p hp => h45.cell (by rcases hp with hp | hp; exact hp.elim; exact hp.2)
  have hp := pair_args (k := k) (n := n) hB hx hy ⟨by omega, by omega⟩
  refine ⟨_, rfl, hp.keep (fun b hb => .inr ⟨by have := h01.size; have := h12.size; omega, by simp [World.setCell]; exact hb.2⟩) fun p hp => ?_, (((h05.setCell h01.size _).setCell (show w.heap.size ≤ w.heap.size + 1 + 1 + 1 by omega) _).setCell (show w.heap.size ≤ w.heap.size + 1 + 1 + 1 by omega) _).setCell (show w.heap.size ≤ w.heap.size + 1 + 1 + 1 by omega) _⟩
  have n1 : p.block ≠ w1.heap.size := by have := hp.1; omega
  have n2 : p.block ≠ w.heap.size + 1 + 1 + 1 := by have := hp.1; omega
  exact World.cell?_of_block (by rw [Below.heap_setCell _ _ _ _ n2, Below.heap_setCell _ _ _ _ n2, Below.heap_setCell _ _ _ _ n2, Below.heap_setCell _ _ _ _ n1])

set_option maxHeartbeats 1600000 in
theorem term_step (ds : List ND) (f : Nat) (hT : TermC ds f) : TermC ds (f + 1) := by
  intro v level t w D p hr hD hv
  obtain ⟨k, n, xs, bs⟩ := v
  obtain ⟨DA, dcap, rfl, -⟩ := id hD
  obtain ⟨vb, rfl, -⟩ := val_kn hv
  have hF := tf_new (level := level) hD hv
  have HT := Lib.hid hT
  unfold termP at hr
  clear hD hv hT
  have hlev : 0 ≤ level ∧ level ≤ 1000 := by
    refine Decidable.byContradiction fun h => ?_
    rw [if_pos h] at hr
    cases hr
  rw [if_neg (fun h => h hlev)] at hr
  have HL1 := Lib.hid trivial
  have HL2 := Lib.hid trivial
  have HL3 := Lib.hid trivial
  have HL4 := Lib.hid trivial
  have HL5 := Lib.hid trivial
  have HSZ := Lib.hid (show ((((w.alloc (.cells #[.slice DA ds.length dcap] 23)).alloc (.cells #[.pointer (some ⟨vb, 0, none⟩)] 63)).alloc (.cells #[.int .i64 level] 3)).alloc (.cells #[.int .i64 0, .int .i64 0, .slice none 0 0] 30)).heap.size = w.heap.size + 4 by simp)
  by_cases h3 : k = 3 ∨ k = 6
  · rw [if_pos h3] at hr
    simp only [Option.bind_eq_some_iff] at hr
    obtain ⟨a, ha, c, hc, x, hx, u, hu, y, hy, hr⟩ := hr
    cases hr
    have HV := Lib.hid (And.intro (And.intro ha hc) (And.intro hx (And.intro hu hy)))
    have n1 : (k == 1) = false := kind_ne (by omega)
    clear ha hc hx hu hy
    rcases h3 with h3 | h3
    all_goals
      first
        | have n3 : (k == 3) = true := by simp [h3]; done
        | (have n3 : (k == 3) = false := by simp [h3]; done
           have n4 : (k == 4) = false := by simp [h3]; done
           have n6 : (k == 6) = true := by simp [h3]; done)
      clear h3
      go_enter Tryz.func165, Tryz.ntmps165
      go_wp2_with fail
      generalize (((w.alloc (.cells #[.slice DA ds.length dcap] 23)).alloc (.cells #[.pointer (some ⟨vb, 0, none⟩)] 63)).alloc (.cells #[.int .i64 level] 3)).alloc (.cells #[.int .i64 0, .int .i64 0, .slice none 0 0] 30) = w1 at *
      obtain ⟨k0, k1, k2⟩ := hF.1.cells
      obtain ⟨b, A, m, B, l, e, ⟨c0, c1, c2, c3⟩, -, -⟩ := hF.1.1.2.open_
      cases e
      simp only [Val.k, Val.n, Val.args] at c0 c1 c2
      have hbt := below_alloc' (Below.refl w1.heap.size w1) (.cells #[.int .i64 0, .int .i64 0, .slice none 0 0] 30)
      have d0 := cell_keep hbt c0
      have d1 := cell_keep hbt c1
      have d2 := cell_keep hbt k1
      have hb2 := below_drew (below_alloc' (Below.refl w1.heap.size w1) (.cells #[.int .i64 k, .int .i64 n, .slice none 0 0] 30))
      have HW2 := Lib.hid (And.intro (hF.1.more hb2) (And.intro (hF.2.more hb2) (Blk.drew' (Blk.new w1 30 #[.int .i64 k, .int .i64 n, .slice none 0 0]))))
      have HB2 := Lib.hid (And.intro hF.1.2.2.2.2 hb2)
      clear hF hbt hb2
      go_region
      generalize (w1.alloc (.cells #[.int .i64 k, .int .i64 n, .slice none 0 0] 30)).drew = w2 at *
      clear k0 k1 k2 c0 c1 c2 c3 d0 d1 d2
      obtain ⟨k0, k1, k2⟩ := HW2.out.1.cells
      obtain ⟨b, A, m, B, l, e, ⟨c0, c1, c2, c3⟩, -, -⟩ := HW2.out.1.1.2.open_
      cases e
      simp only [Val.k, Val.n, Val.args] at c0 c1 c2
      obtain ⟨⟨t0, t1, t2⟩, y0, y1, y2⟩ := HW2.out.2.2.tri
      obtain ⟨⟨r0, r1, r2⟩, z0, z1, z2⟩ := HW2.out.2.1.tri
      have HC1 := Lib.hid (show Calls Tryz.prog 171 #[.int .i64 0, .pointer (some ⟨w.heap.size, 0, none⟩), .pointer (some ⟨w.heap.size + 1, 0, none⟩), .pointer (some ⟨w.heap.size + 1 + 1, 0, none⟩)] w2 (TermPost x nowhere w2) from
        t1_any ds f HT.out (.mk k n xs bs) a level x _ _ w.heap.size 0 w w2 HW2.out.1 (by decide) HV.out.1.1 HV.out.2.1)
      go_wp2_with fail
      clear k0 k1 k2 c0 c1 c2 c3 t0 t1 t2 y0 y1 y2 r0 r1 r2 z0 z1 z2
      refine HC1.out.mono ?_
      rintro e3 w3 ⟨s3, rfl, hs3, hb3⟩
      obtain ⟨A3, cap3, rfl, -⟩ := argsInS_iff.1 hs3
      have HC2 := Lib.hid (show Calls Tryz.prog 172 #[.int .i64 0, .int .i64 1, .pointer (some ⟨w.heap.size + 1 + 1, 0, none⟩), .pointer (some ⟨w.heap.size, 0, none⟩), .pointer (some ⟨w.heap.size + 1, 0, none⟩)] w3 (TermPost y nowhere w3) from
        t2_any ds f HT.out (.mk k n xs bs) u c level hlev.1 hlev.2 y _ _ w.heap.size w w3 (HW2.out.1.more hb3) HV.out.1.2 HV.out.2.2.1 HV.out.2.2.2)
      have HS3 := Lib.hid hs3
      have HB3 := Lib.hid hb3
      clear hs3 hb3
      go_wp2_with fail
      refine HC2.out.mono ?_
      rintro e4 w4 ⟨s4, rfl, hs4, hb4⟩
      obtain ⟨A4, cap4, rfl, -⟩ := argsInS_iff.1 hs4
      have HS4 := Lib.hid hs4
      have HB4 := Lib.hid hb4
      have hb5 := below_alloc' (Below.refl w4.heap.size w4) (.cells #[.int .i64 x.k, .int .i64 x.n, .slice A3 x.al.length cap3, .int .i64 y.k, .int .i64 y.n, .slice A4 y.al.length cap4] 30)
      have hb25 := below_step (below_step HB3.out hb4) hb5
      obtain ⟨⟨t0, t1, t2⟩, y0, y1, y2⟩ := (HW2.out.2.2.more hb25).tri
      obtain ⟨⟨r0, r1, r2⟩, z0, z1, z2⟩ := (HW2.out.2.1.more hb25).tri
      have hb24 := below_step HB3.out hb4
      obtain ⟨-, y3, y4, y5⟩ := (HW2.out.2.2.more hb24).tri
      obtain ⟨-, z3, z4, z5⟩ := (HW2.out.2.1.more hb24).tri
      have hn1 : w1.heap.size ≠ w4.heap.size := Nat.ne_of_lt (HW2.out.2.2.more hb24).lt
      have hn2 : w.heap.size + 1 + 1 + 1 ≠ w4.heap.size := Nat.ne_of_lt (HW2.out.2.1.more hb24).lt
      have HLT := Lib.hid (And.intro HW2.out.2.2.lt HW2.out.2.1.lt)
      have hne : w1.heap.size ≠ w.heap.size + 1 + 1 + 1 := by have := HSZ.out; omega
      have hne2 : w.heap.size + 1 + 1 + 1 ≠ w1.heap.size := by have := HSZ.out; omega
      clear hs4 hb4 hb5 hb25 hb24
      go_wp2_with fail
      refine bodyPost_ret (v := .agg #[.int .i64 k, .int .i64 n, .slice (some ⟨w4.heap.size, 0, none⟩) 2 2]) (by simp [results, Tryz.results165, go_sem, r0, r1, r2]) rfl ?_
      exact eterm_fin HB2.out.1 HB2.out.2 HSZ.out HLT.out HS3.out HS4.out HB3.out HB4.out
  rw [if_neg h3] at hr
  by_cases h1 : k = 1 ∨ k = 4 ∨ k = 7 ∨ k = 17
  · rw [if_pos h1] at hr; cases hr
  rw [if_neg h1] at hr
  cases xs with
  | cons x r => cases hr
  | nil =>
    cases hr
    have n1 : (k == 1) = false := kind_ne (by omega)
    have n3 : (k == 3) = false := kind_ne (by omega)
    have n4 : (k == 4) = false := kind_ne (by omega)
    have n6 : (k == 6) = false := kind_ne (by omega)
    have n7 : (k == 7) = false := kind_ne (by omega)
    have n17 : (k == 17) = false := kind_ne (by omega)
    clear h3 h1
    go_enter Tryz.func165, Tryz.ntmps165
    go_wp2_with fail
    generalize (((w.alloc (.cells #[.slice DA ds.length dcap] 23)).alloc (.cells #[.pointer (some ⟨vb, 0, none⟩)] 63)).alloc (.cells #[.int .i64 level] 3)).alloc (.cells #[.int .i64 0, .int .i64 0, .slice none 0 0] 30) = w1 at *
    obtain ⟨k0, k1, k2⟩ := hF.1.cells
    obtain ⟨b, A, m, B, l, e, ⟨c0, c1, c2, c3⟩, -, -⟩ := hF.1.1.2.open_
    cases e
    simp only [Val.k, Val.n, Val.args, List.length_nil] at c0 c1 c2
    have hbt := below_alloc' (Below.refl w1.heap.size w1) (.cells #[.int .i64 0, .int .i64 0, .slice none 0 0] 30)
    have d0 := cell_keep hbt c0
    have d1 := cell_keep hbt c1
    have d2 := cell_keep hbt k1
    have hb2 := below_drew (below_alloc' (Below.refl w1.heap.size w1) (.cells #[.int .i64 k, .int .i64 n, .slice none 0 0] 30))
    have HW2 := Lib.hid (And.intro (hF.1.more hb2) (And.intro (hF.2.more hb2) (Blk.drew' (Blk.new w1 30 #[.int .i64 k, .int .i64 n, .slice none 0 0]))))
    have HB2 := Lib.hid (And.intro hF.1.2.2.2.2 hb2)
    clear hF hbt hb2
    go_region
    generalize (w1.alloc (.cells #[.int .i64 k, .int .i64 n, .slice none 0 0] 30)).drew = w2 at *
    clear k0 k1 k2 c0 c1 c2 c3 d0 d1 d2
    obtain ⟨k0, k1, k2⟩ := HW2.out.1.cells
    obtain ⟨b, A, m, B, l, e, ⟨c0, c1, c2, c3⟩, -, -⟩ := HW2.out.1.1.2.open_
    cases e
    simp only [Val.k, Val.n, Val.args, List.length_nil] at c0 c1 c2
    obtain ⟨⟨t0, t1, t2⟩, y0, y1, y2⟩ := HW2.out.2.2.tri
    obtain ⟨⟨r0, r1, r2⟩, z0, z1, z2⟩ := HW2.out.2.1.tri
    go_wp2_with fail
    go_loopw [31] (fun iv wr => iv = .int .i64 0 ∧ wr = w2) (fun _ _ => 0)
    case atStart => exact ⟨rfl, rfl⟩
    case round =>
      obtain ⟨rfl, rfl⟩ := hrel
      go_wp2_with fail
      have HSZ2 := HSZ.out
      refine bodyPost_ret (v := .agg #[.int .i64 k, .int .i64 n, .slice none 0 0]) (by simp [results, Tryz.results165, go_sem, r0, r1, r2]) rfl ⟨_, rfl, args_none _ _ _ _, ?_⟩
      exact (((below_step (HB2.out.1) HB2.out.2).setCell (show w.heap.size ≤ w.heap.size + 1 + 1 + 1 by omega) _).setCell (show w.heap.size ≤ w.heap.size + 1 + 1 + 1 by omega) _).setCell (show w.heap.size ≤ w.heap.size + 1 + 1 + 1 by omega) _

theorem term_any (ds : List ND) : ∀ f, TermC ds f := by
  intro f
  induction f with
  | zero => intro v level t w D p h; unfold termP at h; cases h
  | succ f ih => exact term_step ds f ih
end Go.Proofs.YtjboibbgigkhkaaGreatDoor

/- package infer: what it has at hand; under, value, clo. -/
namespace Go.Proofs.YtjboibbgigkhkaaGreatDoor
open Go.RowKit
set_option maxRecDepth 100000

def FinderAt (w : World) (ds : List ND) (g : Fi) (fp : Value) : Prop := ∃ fb D v e, fp = .pointer (some ⟨fb, 0, none⟩) ∧ (w.cell? ⟨fb, 0, none⟩ = some D ∧ w.cell? ⟨fb, 1, none⟩ = some v ∧ w.cell? ⟨fb, 2, none⟩ = some e) ∧ DeclsAt w ds D ∧ ValsIn w g.types v ∧ EnvAt w g.env e
theorem FinderAt.keep {w w' : World} {ds : List ND} {g : Fi} {fp : Value} (h : FinderAt w ds g fp) (hb : Below w.heap.size w w') : FinderAt w' ds g fp := by
  obtain ⟨fb, D, v, e, h1, ⟨h2, h3, h4⟩, h5, h6, h7⟩ := h
  exact ⟨fb, D, v, e, h1, ⟨cell_keep hb h2, cell_keep hb h3, cell_keep hb h4⟩, h5.keep hb, h6.keep hb, h7.keep hb⟩
theorem FinderAt.of {w : World} {ds : List ND} {g : Fi} {D v e : Value} {b : Nat} (hB : Blk w b 182 #[D, v, e]) (hD : DeclsAt w ds D) (hv : ValsIn w g.types v) (he : EnvAt w g.env e) : FinderAt w ds g (.pointer (some ⟨b, 0, none⟩)) :=
  ⟨_, D, v, e, rfl, ⟨hB.cell 0, hB.cell 1, hB.cell 2⟩, hD, hv, he⟩
theorem env_blk {w : World} {l : List Val} {v : Val} {b kl : Nat} {e : Value} (hB : Blk w b 143 #[.pointer (some ⟨kl, 0, none⟩), e]) (hv : ValAt w v (.pointer (some ⟨kl, 0, none⟩))) (he : EnvAt w l e) : EnvAt w (v :: l) (.pointer (some ⟨b, 0, none⟩)) :=
  EnvAt.cons (hB.cell 0) (hB.cell 1) hv he

theorem env_blk' {w : World} {l : List Val} {v : Val} {b : Nat} {e : Value} (h : ∃ kl, Blk w b 143 #[.pointer (some ⟨kl, 0, none⟩), e] ∧ ValAt w v (.pointer (some ⟨kl, 0, none⟩))) (he : EnvAt w l e) : EnvAt w (v :: l) (.pointer (some ⟨b, 0, none⟩)) := by
  obtain ⟨kl, h1, h2⟩ := h
  exact env_blk h1 h2 he

set_option maxHeartbeats 6400000 in
theorem funder_any (ds : List ND) (g : Fi) (t : Val) (hl : g.types.length ≤ 100000) (w : World) (fp tp : Value) (hf : FinderAt w ds g fp) (ht : ValAt w t tp) :
    Calls Tryz.prog 163 #[fp, tp] w (fun e w' => ∃ fp', e = .returned fp' ∧ FinderAt w' ds (g.under t) fp' ∧ Below w.heap.size w w') := by
  obtain ⟨fb, D, v, e, rfl, ⟨c0, c1, c2⟩, hD, hvi, he⟩ := hf
  obtain ⟨DA, dcap, rfl, -⟩ := id hD
  obtain ⟨A, m, rfl, hlm, hm, hvs⟩ := id hvi
  obtain ⟨ea, rfl⟩ := he.form
  obtain ⟨tb, rfl⟩ := ht.form
  obtain ⟨ps, hps, hrd⟩ := hvs.reads
  obtain ⟨i0, hi0, hz0, hz1, hz2⟩ := info_parts Tryz.infoVal
  have HCL := Lib.hid (show ∀ w' : World, Below w.heap.size w w' → Calls Tryz.prog 170 #[.slice A g.types.length m] w' (OwnPost 63 1 g.types.length w.heap.size ps w') from
    fun w' hb => (vclone_any g.types.length ps w' A m ((hrd.below hb).more hb.size) hps.2.1 (by omega)).mono fun e w'' h => by obtain ⟨V, h1, h2, h3⟩ := h; exact ⟨V, h1, own_mono h2 hb.size, h3⟩)
  have HFR := Lib.hid (fun (w' : World) => free_at (g.types.length : Int) w')
  have HP := Lib.hid (And.intro hD (And.intro (And.intro ht he) hps))
  have HMX := Lib.hid (show g.types.length + 1 ≤ maxLen ∧ (g.types.length + 1) * 8 ≤ 140737488355328 from ⟨by unfold maxLen; omega, by omega⟩)
  have HK := Lib.hid (And.intro c0 (And.intro c1 c2))
  have HONE := Lib.hid (show ∀ u ∈ [Value.pointer (some ⟨tb, 0, none⟩)], u.oneCell' = true from by intro u hu; simp at hu; subst hu; rfl)
  clear hD hvi hvs ht hps hrd hlm hm hl he
  have HL1 := Lib.hid trivial
  have HB3 := Lib.hid trivial
  have HXB := Lib.hid trivial
  have HXE := Lib.hid trivial
  have HV3 := Lib.hid trivial
  go_enter Tryz.func163, Tryz.ntmps163
  go_wp2_with fail
  go_region_held3 (fun w' => w'.cell? ⟨fb, 0, none⟩ = some (.slice DA ds.length dcap) ∧ w'.cell? ⟨fb, 1, none⟩ = some (.slice A g.types.length m) ∧ w'.cell? ⟨fb, 2, none⟩ = some (.pointer ea)) (go_keep)
    (first
      | ((with_reducible refine (HCL.out _ ?_).mono ?_); (focus (repeat (first | with_reducible exact Below.refl _ _ | with_reducible exact HB3.out | with_reducible refine below_alloc' ?_ _ | with_reducible refine below_step ?_ HL1.out | with_reducible refine below_drew ?_))); rintro e1 w1 ⟨V, rfl, hown, hb1⟩; (have HL1 := Lib.hid hb1); (have HO1 := Lib.hid hown); (have hbw : Below w.heap.size w w1 := by (repeat (first | with_reducible exact Below.refl _ _ | with_reducible exact HB3.out | with_reducible refine below_alloc' ?_ _ | with_reducible refine below_step ?_ HL1.out | with_reducible refine below_drew ?_))); (have q0 := cell_keep hbw HK.out.1); (have q1 := cell_keep hbw HK.out.2.1); (have q2 := cell_keep hbw HK.out.2.2); clear hown hb1 hbw)
      | ((with_reducible refine (HFR.out _).mono ?_); rintro e2 w2 ⟨rfl, rfl⟩)
      | ((refine step_append_any _ rfl (.tmp 13) (.tmp 15) 93 rfl w.heap.size 63 i0 (.pointer none) 1 8 Tryz.underlying93 hi0 hz0 hz1 hz2 rfl (by decide) V g.types.length ps rfl (own_keep HO1.out (by (repeat (first | with_reducible exact Below.refl _ _ | with_reducible exact HB3.out | with_reducible refine below_alloc' ?_ _ | with_reducible refine below_step ?_ HL1.out | with_reducible refine below_drew ?_)))) _ _ 1 _ [.pointer (some ⟨tb, 0, none⟩)] rfl (by first | exact reads_blk (Blk.new _ _ _) | exact reads_blk ((Blk.new _ _ _).alloc _) | exact reads_blk (((Blk.new _ _ _).alloc _).alloc _) | exact reads_blk ((Blk.new w1 63 #[.pointer (some ⟨tb, 0, none⟩)]).more (by (repeat (first | with_reducible exact Below.refl _ _ | with_reducible exact HB3.out | with_reducible refine below_alloc' ?_ _ | with_reducible refine below_step ?_ HL1.out | with_reducible refine below_drew ?_)))) | exact reads_blk ((Blk.new w 63 #[.pointer (some ⟨tb, 0, none⟩)]).more (by (repeat (first | with_reducible exact Below.refl _ _ | with_reducible exact HB3.out | with_reducible refine below_alloc' ?_ _ | with_reducible refine below_step ?_ HL1.out | with_reducible refine below_drew ?_)))) | exact reads_blk ((Blk.new w.drew 63 #[.pointer (some ⟨tb, 0, none⟩)]).more (by (repeat (first | with_reducible exact Below.refl _ _ | with_reducible exact HB3.out | with_reducible refine below_alloc' ?_ _ | with_reducible refine below_step ?_ HL1.out | with_reducible refine below_drew ?_))))) HONE.out HMX.out.1 HMX.out.2 (below_size (by (repeat (first | with_reducible exact Below.refl _ _ | with_reducible exact HB3.out | with_reducible refine below_alloc' ?_ _ | with_reducible refine below_step ?_ HL1.out | with_reducible refine below_drew ?_)))) ?_); intro V3 w3 hown3 hgr3 _; (obtain ⟨A3, cap3, hV3⟩ := ownf hown3); subst hV3; (have hb3 : Below w.heap.size w w3 := below_grown (by (repeat (first | with_reducible exact Below.refl _ _ | with_reducible exact HB3.out | with_reducible refine below_alloc' ?_ _ | with_reducible refine below_step ?_ HL1.out | with_reducible refine below_drew ?_))) hgr3 (fun k hk => (HO1.out.lt k hk).1)); (have HB3 := Lib.hid hb3); (try (have HXB := Lib.hid (blk_grown (cs := #[.int .i64 1, .int .i64 g.types.length, .slice none 0 0, .slice none 0 0]) (t := 96) hgr3 (by first | exact Blk.new _ _ _ | exact (Blk.new _ _ _).alloc _ | exact ((Blk.new _ _ _).alloc _).alloc _) (fun k hk => by have := (HO1.out.lt k hk).2; simp; omega)))); (try (have HXE := Lib.hid (blk_grown (t := 143) hgr3 (by first | exact Blk.new _ _ _ | exact (Blk.new _ _ _).alloc _) (fun k hk => by have := (HO1.out.lt k hk).2; simp; omega)))); (have HV3 := Lib.hid (ValsIn.of_own (l := g.types ++ [t]) (by simpa using hown3) ((HP.out.2.2.keep hb3).snoc (HP.out.2.1.1.keep hb3)))); (have s0 := cell_keep hb3 HK.out.1); (have s1 := cell_keep hb3 HK.out.2.1); (have s2 := cell_keep hb3 HK.out.2.2); clear hown3 hgr3 hb3)
      | fail)
  all_goals go_wp2_with fail
  all_goals go_ret
  all_goals (
    refine ⟨_, rfl, FinderAt.of (g := g.under t) (D := .slice DA ds.length dcap) (by refine Blk.new' ?_; simp; done) (HP.out.1.keep (by (repeat (first | with_reducible exact Below.refl _ _ | with_reducible exact HB3.out | with_reducible refine below_alloc' ?_ _ | with_reducible refine below_step ?_ HL1.out | with_reducible refine below_drew ?_)))) (HV3.out.keep (by (repeat (first | with_reducible exact Below.refl _ _ | with_reducible exact HB3.out | with_reducible refine below_alloc' ?_ _ | with_reducible refine below_step ?_ HL1.out | with_reducible refine below_drew ?_)))) ?_, by (repeat (first | with_reducible exact Below.refl _ _ | with_reducible exact HB3.out | with_reducible refine below_alloc' ?_ _ | with_reducible refine below_step ?_ HL1.out | with_reducible refine below_drew ?_))⟩
    refine env_blk' (v := freeP g.types.length) (l := g.env) ?_ (HP.out.2.1.2.keep (by (repeat (first | with_reducible exact Below.refl _ _ | with_reducible exact HB3.out | with_reducible refine below_alloc' ?_ _ | with_reducible refine below_step ?_ HL1.out | with_reducible refine below_drew ?_))))
    first
      | (refine ⟨_, HXE.out.alloc _, ?_⟩; refine free_blk ?_; first | exact HXB.out.alloc _ | exact (HXB.out.alloc _).alloc _ | (refine (Blk.new' ?_).alloc _; simp; done) | (refine ((Blk.new' ?_).alloc _).alloc _; simp; done) | (refine (((Blk.new' ?_).alloc _).alloc _).alloc _; simp; done))
      | (refine ⟨_, (Blk.new' (by simp; done)).alloc _, ?_⟩; refine free_blk ?_; first | exact HXB.out.alloc _ | exact (HXB.out.alloc _).alloc _ | (refine (Blk.new' ?_).alloc _; simp; done) | (refine ((Blk.new' ?_).alloc _).alloc _; simp; done) | (refine (((Blk.new' ?_).alloc _).alloc _).alloc _; simp; done))
      | (refine ⟨_, ((Blk.new' (by simp; done)).alloc _).alloc _, ?_⟩; refine free_blk ?_; first | exact HXB.out.alloc _ | exact (HXB.out.alloc _).alloc _ | (refine (Blk.new' ?_).alloc _; simp; done) | (refine ((Blk.new' ?_).alloc _).alloc _; simp; done) | (refine (((Blk.new' ?_).alloc _).alloc _).alloc _; simp; done)))

theorem fvalue_any (ds : List ND) (f : Nat) (g : Fi) (t : T) (v : Val) (hv : evalP (ds.map Prod.snd) f (.value t g.env) = some v) (w : World) (fp s : Value) (hf : FinderAt w ds g fp) (hs : argsIn w w.heap.size t s) :
    Calls Tryz.prog 112 #[fp, .agg #[.int .i64 t.k, .int .i64 t.n, s]] w (VPost v w) := by
  have hba := below_alloc' (Below.refl w.heap.size w) (.cells #[.int .i64 t.k, .int .i64 t.n, s] 30)
  obtain ⟨fb, D, tv, e, rfl, ⟨c0, c1, c2⟩, hD, -, he⟩ := hf.keep hba
  obtain ⟨DA, dcap, rfl, -⟩ := id hD
  obtain ⟨ea, rfl⟩ := he.form
  obtain ⟨SA, scap, rfl, -⟩ := argsIn_iff.1 hs
  have hdr := below_drew hba
  have HC := Lib.hid ((eval_any ds f).1 t g.env v (w.alloc (.cells #[.int .i64 t.k, .int .i64 t.n, .slice SA t.al.length scap] 30)).drew _ _ _ hv (hD.keep (Below.refl _ _).drew) (hs.keep hdr.size hdr) (he.keep (Below.refl _ _).drew))
  have HB := Lib.hid hba
  obtain ⟨⟨k0, k1, k2⟩, -⟩ := (Blk.new w 30 #[.int .i64 t.k, .int .i64 t.n, .slice SA t.al.length scap]).tri
  clear hf hD he hs hba hdr
  go_enter Tryz.func112, Tryz.ntmps112
  go_wp2_with fail
  generalize w.alloc (.cells #[.int .i64 t.k, .int .i64 t.n, .slice SA t.al.length scap] 30) = w1 at *
  refine still_tail 9 (by kernel_rfl) (by kernel_rfl) ?_
  simp only [List.take_succ_cons, List.take_zero, List.drop_succ_cons, List.drop_zero]
  repeat still_step
  try refine wpStill_nil ?_
  go_wp2_with fail
  refine HC.out.mono ?_
  rintro e w2 ⟨p, rfl, hp, hb2⟩
  obtain ⟨pb, rfl⟩ := hp.form
  go_wp2_with fail
  go_ret
  exact ⟨_, rfl, hp, below_step HB.out (drew_trans hb2)⟩

theorem fclo_any (ds : List ND) (g : Fi) (t : T) (w : World) (fp s : Value) (hf : FinderAt w ds g fp) (hs : argsIn w w.heap.size t s) :
    Calls Tryz.prog 164 #[fp, .agg #[.int .i64 t.k, .int .i64 t.n, s]] w (CPost (t, g.env) w) := by
  obtain ⟨fb, D, tv, e, rfl, ⟨c0, c1, c2⟩, hD, -, he⟩ := hf
  obtain ⟨ea, rfl⟩ := he.form
  obtain ⟨SA, scap, rfl, -⟩ := argsIn_iff.1 hs
  have hb1 := below_alloc' (Below.refl w.heap.size w) (.cells #[.int .i64 t.k, .int .i64 t.n, .slice SA t.al.length scap] 30)
  have d2 := cell_keep (below_alloc' hb1 (.cells #[.int .i64 0, .int .i64 0, .slice none 0 0, .pointer none] 100)) c2
  have hb := below_drew (below_alloc' hb1 (.cells #[.int .i64 t.k, .int .i64 t.n, .slice SA t.al.length scap, .pointer ea] 100))
  have HE := Lib.hid (And.intro (hs.keep hb.size hb) (And.intro (he.keep hb) hb))
  clear hD he hs hb1 hb
  go_enter Tryz.func164, Tryz.ntmps164
  go_wp2_with fail
  go_region
  go_wp2_with fail
  refine bodyPost_ret (v := .agg #[.int .i64 t.k, .int .i64 t.n, .slice SA t.al.length scap, .pointer ea]) (by simp [results, Tryz.results164, go_sem]) rfl ⟨_, _, rfl, ⟨HE.out.1, HE.out.2.1⟩, HE.out.2.2⟩
end Go.Proofs.YtjboibbgigkhkaaGreatDoor

/- package infer: sort, check, both, by the contract of infer. -/
namespace Go.Proofs.YtjboibbgigkhkaaGreatDoor
open Go.RowKit
set_option maxRecDepth 100000

def IPost (v : Val) (w : World) (e : Ending) (w' : World) : Prop := ∃ p, e = .returned (.tuple #[p, .int .i64 0]) ∧ ValAt w' v p ∧ Below w.heap.size w w'
def InferC (ds : List ND) (f : Nat) : Prop := ∀ (g : Fi) (t : T) (v : Val) (w : World) (fp s : Value), inferQ (ds.map Prod.snd) f g t = some v → g.types.length + 3 * f ≤ 9000 → FinderAt w ds g fp → argsIn w w.heap.size t s →
  Calls Tryz.prog 135 #[fp, .agg #[.int .i64 t.k, .int .i64 t.n, s]] w (IPost v w)

/-- a term in its box -/
theorem box_new {w : World} {t : T} {s : Value} (hs : argsIn w w.heap.size t s) : argsIn (w.alloc (.cells #[.int .i64 t.k, .int .i64 t.n, s] 30)) (w.alloc (.cells #[.int .i64 t.k, .int .i64 t.n, s] 30)).heap.size t s :=
  hs.keep (below_alloc' (Below.refl w.heap.size w) _).size (below_alloc' (Below.refl w.heap.size w) _)

theorem sort_any (ds : List ND) (f : Nat) (hI : InferC ds f) (g : Fi) (t : T) (n : Int) (w : World) (fp s : Value) (hn : sortQ (inferQ (ds.map Prod.snd) f) g t = some n) (hl : g.types.length + 3 * f ≤ 9000) (hf : FinderAt w ds g fp) (hs : argsIn w w.heap.size t s) :
    Calls Tryz.prog 110 #[fp, .agg #[.int .i64 t.k, .int .i64 t.n, s]] w (fun e w' => e = .returned (.tuple #[.int .i64 n, .int .i64 0]) ∧ Below w.heap.size w w') := by
  unfold sortQ at hn
  simp only [Option.bind_eq_some_iff] at hn
  obtain ⟨v, hv, hn⟩ := hn
  by_cases h2 : v.k = 2
  case neg => rw [if_neg h2] at hn; cases hn
  rw [if_pos h2] at hn
  have hba := below_alloc' (Below.refl w.heap.size w) (.cells #[.int .i64 t.k, .int .i64 t.n, s] 30)
  have HC := Lib.hid (hI g t v _ fp s hv hl (hf.keep hba) (box_new hs))
  have HB := Lib.hid hba
  obtain ⟨SA, scap, rfl, -⟩ := argsIn_iff.1 hs
  obtain ⟨fb, -, -, -, rfl, -⟩ := hf
  have h2b : (v.k != 2) = false := by simpa using h2
  have h0b : ((0 : Int) != 0) = false := by decide
  cases hn
  clear hs hba hv hl h2
  go_enter Tryz.func110, Tryz.ntmps110
  go_wp2_with fail
  refine HC.out.mono ?_
  rintro e w1 ⟨p, rfl, hp, hb1⟩
  obtain ⟨pb, rfl, p0, p1⟩ := val_kn hp
  have HB1 := Lib.hid (below_step HB.out hb1)
  clear hp hb1
  go_wp2_with fail
  go_ret2
  exact ⟨rfl, HB1.out⟩

theorem check_any (ds : List ND) (f : Nat) (hI : InferC ds f) (g : Fi) (t : T) (want : Val) (q : Bool) (w : World) (fp s wp : Value) (hq : checkQ (ds.map Prod.snd) f (inferQ (ds.map Prod.snd) f) g t want = some q) (hl : g.types.length + 3 * f ≤ 9000) (hf : FinderAt w ds g fp) (hs : argsIn w w.heap.size t s) (hw : ValAt w want wp) :
    Calls Tryz.prog 111 #[fp, .agg #[.int .i64 t.k, .int .i64 t.n, s], wp] w (StrPost (.int .i64 (if q then 0 else 10)) w) := by
  unfold checkQ at hq
  simp only [Option.bind_eq_some_iff] at hq
  obtain ⟨v, hv, hq⟩ := hq
  have hba := below_alloc' (Below.refl w.heap.size w) (.cells #[.int .i64 t.k, .int .i64 t.n, s] 30)
  have HC := Lib.hid (hI g t v _ fp s hv hl (hf.keep hba) (box_new hs))
  have HB := Lib.hid hba
  have HF := Lib.hid (And.intro (hf.keep hba) (hw.keep hba))
  have HQ := Lib.hid (And.intro hq hl)
  obtain ⟨SA, scap, rfl, -⟩ := argsIn_iff.1 hs
  obtain ⟨fb, -, -, -, rfl, -⟩ := hf
  obtain ⟨wb, rfl⟩ := hw.form
  obtain ⟨r, hr⟩ : ∃ r : Int, (if q then (0 : Int) else 10) = r := ⟨_, rfl⟩
  rw [hr]
  have HR := Lib.hid hr
  clear hr
  have h0b : ((0 : Int) != 0) = false := by decide
  have HL1 := Lib.hid trivial
  have HL2 := Lib.hid trivial
  have HL3 := Lib.hid trivial
  have HL4 := Lib.hid trivial
  have HL5 := Lib.hid trivial
  clear hs hba hv hl hq hw
  go_enter Tryz.func111, Tryz.ntmps111
  go_wp2_with fail
  refine HC.out.mono ?_
  rintro e w1 ⟨p, rfl, hp, hb1⟩
  obtain ⟨pb, rfl⟩ := hp.form
  have HB1 := Lib.hid (below_step HB.out hb1)
  obtain ⟨fb', D, tv, ev, e, ⟨c0, c1, c2⟩, hD, hvi, -⟩ := HF.out.1.keep hb1
  cases e
  obtain ⟨DA, dcap, rfl, -⟩ := id hD
  obtain ⟨A, m, rfl, -⟩ := id hvi
  have hww := HF.out.2.keep hb1
  have HK := Lib.hid (And.intro c0 c1)
  have HS := Lib.hid (fun (w' : World) (hb : Below w1.heap.size w1 w') => Sorts_any ds f g.types v want q w' _ _ _ _ HQ.out.1 (by have := HQ.out.2; omega) (hD.keep hb) (hvi.keep hb) (hp.keep hb) (hww.keep hb))
  clear hp hb1 hD hvi hww c2
  go_wp2_with fail
  go_region_held3 (fun w' => w'.cell? ⟨fb, 0, none⟩ = some (.slice DA ds.length dcap) ∧ w'.cell? ⟨fb, 1, none⟩ = some (.slice A g.types.length m)) (go_keep)
    (first
      | ((with_reducible refine (HS.out _ (by (repeat (first | with_reducible exact Below.refl _ _ | with_reducible refine below_alloc' ?_ _ | with_reducible refine below_step ?_ HL1.out | with_reducible refine below_step ?_ HL2.out | with_reducible refine below_step ?_ HL3.out | with_reducible refine below_step ?_ HL4.out | with_reducible refine below_step ?_ HL5.out | with_reducible refine below_drew ?_)))).mono ?_); rintro e2 w2 ⟨rfl, hb2⟩; (have HL1 := Lib.hid hb2); (have hbw : Below w1.heap.size w1 w2 := by (repeat (first | with_reducible exact Below.refl _ _ | with_reducible refine below_alloc' ?_ _ | with_reducible refine below_step ?_ HL1.out | with_reducible refine below_step ?_ HL2.out | with_reducible refine below_step ?_ HL3.out | with_reducible refine below_step ?_ HL4.out | with_reducible refine below_step ?_ HL5.out | with_reducible refine below_drew ?_))); (have HBW := Lib.hid hbw); (have q0 := cell_keep hbw HK.out.1); (have q1 := cell_keep hbw HK.out.2); clear hb2 hbw)
      | fail)
  cases q with
  | true =>
    go_wp2_with fail
    go_ret
    exact ⟨by rw [← HR.out]; rfl, below_step HB1.out HBW.out⟩
  | false =>
    go_wp2_with fail
    go_ret
    exact ⟨by rw [← HR.out]; rfl, below_step HB1.out HBW.out⟩

theorem both_any (ds : List ND) (f : Nat) (hI : InferC ds f) (g : Fi) (a b : T) (r : Int × Val) (w : World) (fp sa sb : Value) (hr : bothQ (ds.map Prod.snd) f (inferQ (ds.map Prod.snd) f) g a b = some r) (hl : g.types.length + 3 * f + 1 ≤ 9000) (hf : FinderAt w ds g fp) (ha : argsIn w w.heap.size a sa) (hb : argsIn w w.heap.size b sb) :
    Calls Tryz.prog 153 #[fp, .agg #[.int .i64 a.k, .int .i64 a.n, sa], .agg #[.int .i64 b.k, .int .i64 b.n, sb]] w (fun e w' => ∃ p, e = .returned (.tuple #[.int .i64 r.1, p, .int .i64 0]) ∧ ValAt w' r.2 p ∧ Below w.heap.size w w') := by
  unfold bothQ at hr
  simp only [Option.bind_eq_some_iff] at hr
  obtain ⟨x, hx, v, hv, y, hy, hr⟩ := hr
  cases hr
  obtain ⟨mx, hmx⟩ : ∃ m : Int, max x y = m := ⟨_, rfl⟩
  rw [hmx]
  have HMX := Lib.hid hmx
  clear hmx
  have hba := below_alloc' (below_alloc' (Below.refl w.heap.size w) (.cells #[.int .i64 a.k, .int .i64 a.n, sa] 30)) (.cells #[.int .i64 b.k, .int .i64 b.n, sb] 30)
  have hBb := Blk.new (w.alloc (.cells #[.int .i64 a.k, .int .i64 a.n, sa] 30)) 30 #[.int .i64 b.k, .int .i64 b.n, sb]
  rw [show (w.alloc (.cells #[.int .i64 a.k, .int .i64 a.n, sa] 30)).heap.size = w.heap.size + 1 by simp] at hBb
  have HBB := Lib.hid (And.intro ((Blk.new w 30 #[.int .i64 a.k, .int .i64 a.n, sa]).alloc (.cells #[.int .i64 b.k, .int .i64 b.n, sb] 30)) hBb)
  have HF := Lib.hid (And.intro (hf.keep hba) (And.intro (ha.keep hba.size hba) (hb.keep hba.size hba)))
  have HB := Lib.hid hba
  have HV := Lib.hid (And.intro hI (And.intro hx (And.intro hv (And.intro hy hl))))
  obtain ⟨SA, scap, rfl, -⟩ := argsIn_iff.1 ha
  obtain ⟨SB, scapb, rfl, -⟩ := argsIn_iff.1 hb
  obtain ⟨fb, -, -, -, rfl, -⟩ := hf
  have h0b : ((0 : Int) != 0) = false := by decide
  have HL1 := Lib.hid trivial
  have HL2 := Lib.hid trivial
  have HL3 := Lib.hid trivial
  have HL4 := Lib.hid trivial
  have HL5 := Lib.hid trivial
  clear ha hba hb hBb hI hx hv hy hl
  go_enter Tryz.func153, Tryz.ntmps153
  go_wp2_with fail
  generalize (w.alloc (.cells #[.int .i64 a.k, .int .i64 a.n, .slice SA a.al.length scap] 30)).alloc (.cells #[.int .i64 b.k, .int .i64 b.n, .slice SB b.al.length scapb] 30) = w1 at *
  refine (sort_any ds f HV.out.1 g a x w1 _ _ HV.out.2.1 (by have := HV.out.2.2.2.2; omega) HF.out.1 HF.out.2.1).mono ?_
  rintro e w2 ⟨rfl, hb2⟩
  obtain ⟨⟨a0, a1, a2⟩, -⟩ := (HBB.out.1.more hb2).tri
  have HB2 := Lib.hid hb2
  clear hb2
  go_wp2_with fail
  refine (fvalue_any ds f g a v HV.out.2.2.1 w2 _ _ (HF.out.1.keep HB2.out) (HF.out.2.1.keep HB2.out.size HB2.out)).mono ?_
  rintro e w3 ⟨p, rfl, hp, hb3⟩
  obtain ⟨pb, rfl⟩ := hp.form
  have HB3' := Lib.hid (below_step HB2.out hb3)
  obtain ⟨⟨b0, b1, b2⟩, -⟩ := (HBB.out.2.more HB3'.out).tri
  have HK := Lib.hid (And.intro b0 (And.intro b1 b2))
  have HP := Lib.hid hp
  have HU := Lib.hid (fun (w' : World) (hb : Below w3.heap.size w3 w') => funder_any ds g v (by have := HV.out.2.2.2.2; omega) w' _ _ ((HF.out.1.keep HB3'.out).keep hb) (HP.out.keep hb))
  have HS2 := Lib.hid (fun (w' : World) (fp' : Value) (hb : Below w3.heap.size w3 w') (hf' : FinderAt w' ds (g.under v) fp') => sort_any ds f HV.out.1 (g.under v) b y w' fp' _ HV.out.2.2.2.1 (by have := HV.out.2.2.2.2; simp [Fi.under]; omega) hf' ((HF.out.2.2.keep HB3'.out.size HB3'.out).keep hb.size hb))
  clear hp hb3 a0 a1 a2
  go_wp2_with fail
  go_region_held3 (fun w' => w'.cell? ⟨w.heap.size + 1, 0, none⟩ = some (.int .i64 b.k) ∧ w'.cell? ⟨w.heap.size + 1, 1, none⟩ = some (.int .i64 b.n) ∧ w'.cell? ⟨w.heap.size + 1, 2, none⟩ = some (.slice SB b.al.length scapb)) (go_keep)
    (first
      | ((with_reducible refine (HU.out _ (by (repeat (first | with_reducible exact Below.refl _ _ | with_reducible refine below_alloc' ?_ _ | with_reducible refine below_step ?_ HL1.out | with_reducible refine below_step ?_ HL2.out | with_reducible refine below_step ?_ HL3.out | with_reducible refine below_step ?_ HL4.out | with_reducible refine below_step ?_ HL5.out | with_reducible refine below_drew ?_)))).mono ?_); rintro e4 w4 ⟨fp4, rfl, hf4, hb4⟩; (obtain ⟨fb4, -, -, -, rfl, -⟩ := id hf4); (have HL1 := Lib.hid hb4); (have hbw : Below w3.heap.size w3 w4 := by (repeat (first | with_reducible exact Below.refl _ _ | with_reducible refine below_alloc' ?_ _ | with_reducible refine below_step ?_ HL1.out | with_reducible refine below_step ?_ HL2.out | with_reducible refine below_step ?_ HL3.out | with_reducible refine below_step ?_ HL4.out | with_reducible refine below_step ?_ HL5.out | with_reducible refine below_drew ?_))); (have HF4 := Lib.hid hf4); (have q0 := cell_keep hbw HK.out.1); (have q1 := cell_keep hbw HK.out.2.1); (have q2 := cell_keep hbw HK.out.2.2); clear hf4 hb4 hbw)
      | ((with_reducible refine (HS2.out _ _ (by (repeat (first | with_reducible exact Below.refl _ _ | with_reducible refine below_alloc' ?_ _ | with_reducible refine below_step ?_ HL1.out | with_reducible refine below_step ?_ HL2.out | with_reducible refine below_step ?_ HL3.out | with_reducible refine below_step ?_ HL4.out | with_reducible refine below_step ?_ HL5.out | with_reducible refine below_drew ?_))) (HF4.out.keep (by (repeat (first | with_reducible exact Below.refl _ _ | with_reducible refine below_alloc' ?_ _ | with_reducible refine below_step ?_ HL1.out | with_reducible refine below_step ?_ HL2.out | with_reducible refine below_step ?_ HL3.out | with_reducible refine below_step ?_ HL4.out | with_reducible refine below_step ?_ HL5.out | with_reducible refine below_drew ?_))))).mono ?_); rintro e5 w5 ⟨rfl, hb5⟩; (have HL2 := Lib.hid hb5); (have hbw : Below w3.heap.size w3 w5 := by (repeat (first | with_reducible exact Below.refl _ _ | with_reducible refine below_alloc' ?_ _ | with_reducible refine below_step ?_ HL1.out | with_reducible refine below_step ?_ HL2.out | with_reducible refine below_step ?_ HL3.out | with_reducible refine below_step ?_ HL4.out | with_reducible refine below_step ?_ HL5.out | with_reducible refine below_drew ?_))); (have HBW := Lib.hid hbw); (have r0 := cell_keep hbw HK.out.1); (have r1 := cell_keep hbw HK.out.2.1); (have r2 := cell_keep hbw HK.out.2.2); clear hb5 hbw)
      | fail)
  go_wp2_with fail
  all_goals go_ret3
  all_goals
    first
      | (obtain rfl : mx = y := by have := HMX.out; omega
         exact ⟨_, rfl, HP.out.keep HBW.out, below_step (below_step HB.out HB3'.out) HBW.out⟩)
      | (obtain rfl : mx = x := by have := HMX.out; omega
         exact ⟨_, rfl, HP.out.keep HBW.out, below_step (below_step HB.out HB3'.out) HBW.out⟩)
end Go.Proofs.YtjboibbgigkhkaaGreatDoor

/- infer.Sort, infer.Check where nothing is bound, by the contract of infer. -/
namespace Go.Proofs.YtjboibbgigkhkaaGreatDoor
open Go.RowKit
set_option maxRecDepth 100000

theorem types_nil (D : Value) (w : World) : Calls Tryz.prog 133 #[D, .slice none 0 0] w (fun e w' => e = .returned (.slice none 0 0) ∧ w' = w) := by
  go_enter Tryz.func133, Tryz.ntmps133
  go_wp2_with fail
  go_loopw [5, 10] (fun v i wr => v = .slice none 0 0 ∧ i = .int .i64 0 ∧ wr = w) (fun _ _ _ => 0)
  case atStart => exact ⟨rfl, rfl, rfl⟩
  case round =>
    obtain ⟨rfl, rfl, rfl⟩ := hrel
    go_wp2_with fail
    go_ret
    exact ⟨rfl, rfl⟩
theorem open_nil (w : World) : Calls Tryz.prog 134 #[.int .i64 0] w (fun e w' => e = .returned (.pointer none) ∧ w' = w) := by
  go_enter Tryz.func134, Tryz.ntmps134
  go_wp2_with fail
  go_loopw [3, 6] (fun v i wr => v = .pointer none ∧ i = .int .i64 0 ∧ wr = w) (fun _ _ _ => 0)
  case atStart => exact ⟨rfl, rfl, rfl⟩
  case round =>
    obtain ⟨rfl, rfl, rfl⟩ := hrel
    go_wp2_with fail
    go_ret
    exact ⟨rfl, rfl⟩
def FPost (ds : List ND) (g : Fi) (w : World) (e : Ending) (w' : World) : Prop := ∃ fp, e = .returned fp ∧ FinderAt w' ds g fp ∧ Below w.heap.size w w'
theorem fin_any (ds : List ND) (w : World) (D : Value) (hD : DeclsAt w ds D) : Calls Tryz.prog 109 #[D, .slice none 0 0] w (FPost ds ⟨[], []⟩ w) := by
  obtain ⟨DA, dcap, rfl, -⟩ := id hD
  have HD := Lib.hid hD
  clear hD
  go_enter Tryz.func109, Tryz.ntmps109
  go_wp2_with fail
  refine (types_nil _ _).mono ?_
  rintro e w1 ⟨rfl, rfl⟩
  go_wp2_with fail
  refine (open_nil _).mono ?_
  rintro e w2 ⟨rfl, rfl⟩
  go_wp2_with fail
  go_ret
  have hb := below_alloc' (Below.refl w2.heap.size w2) (.cells #[.slice DA ds.length dcap, .slice none 0 0, .pointer none] 182)
  exact ⟨_, rfl, FinderAt.of (g := ⟨[], []⟩) (Blk.new w2 _ _) (HD.out.keep hb) (ValsIn.nil _) (EnvAt.nil _), hb⟩

set_option maxHeartbeats 1600000 in
theorem isort_any (ds : List ND) (f : Nat) (hI : InferC ds f) (t : T) (n : Int) (w : World) (D s : Value) (hn : sortTop' (ds.map Prod.snd) f t = some n) (hl : 3 * f ≤ 9000) (hD : DeclsAt w ds D) (hs : argsIn w w.heap.size t s) :
    Calls Tryz.prog 89 #[D, .slice none 0 0, .agg #[.int .i64 t.k, .int .i64 t.n, s]] w (StrPost (.tuple #[.int .i64 n, .int .i64 0]) w) := by
  obtain ⟨DA, dcap, rfl, -⟩ := id hD
  obtain ⟨SA, scap, rfl, -⟩ := argsIn_iff.1 hs
  have hba := below_alloc' (Below.refl w.heap.size w) (.cells #[.int .i64 t.k, .int .i64 t.n, .slice SA t.al.length scap] 30)
  have HB := Lib.hid hba
  have HT := Lib.hid (And.intro (hD.keep hba) (box_new hs))
  have HN := Lib.hid (And.intro hn hl)
  obtain ⟨k0, k1, k2⟩ := (Blk.new w 30 #[.int .i64 t.k, .int .i64 t.n, .slice SA t.al.length scap]).tri.1
  clear hD hs hba hn hl
  have HL1 := Lib.hid trivial
  have HL2 := Lib.hid trivial
  have HL3 := Lib.hid trivial
  have HL4 := Lib.hid trivial
  have HL5 := Lib.hid trivial
  go_enter Tryz.func89, Tryz.ntmps89
  go_wp2_with fail
  generalize w.alloc (.cells #[.int .i64 t.k, .int .i64 t.n, .slice SA t.al.length scap] 30) = w1 at *
  have HK1 := Lib.hid (And.intro k0 (And.intro k1 k2))
  have HIN := Lib.hid (fun (w' : World) (hb : Below w1.heap.size w1 w') => fin_any ds w' _ (HT.out.1.keep hb))
  have HSO := Lib.hid (fun (w' : World) (fp : Value) (hb : Below w1.heap.size w1 w') (hf : FinderAt w' ds ⟨[], []⟩ fp) => sort_any ds f hI ⟨[], []⟩ t n w' fp _ HN.out.1 (by simpa using HN.out.2) hf (HT.out.2.keep hb.size hb))
  go_region_held3 (fun w' => w'.cell? ⟨w.heap.size, 0, none⟩ = some (.int .i64 t.k) ∧ w'.cell? ⟨w.heap.size, 1, none⟩ = some (.int .i64 t.n) ∧ w'.cell? ⟨w.heap.size, 2, none⟩ = some (.slice SA t.al.length scap)) (go_keep)
    (first
      | ((with_reducible refine (HIN.out _ (by (repeat (first | with_reducible exact Below.refl _ _ | with_reducible refine below_alloc' ?_ _ | with_reducible refine below_step ?_ HL1.out | with_reducible refine below_step ?_ HL2.out | with_reducible refine below_step ?_ HL3.out | with_reducible refine below_step ?_ HL4.out | with_reducible refine below_step ?_ HL5.out | with_reducible refine below_drew ?_)))).mono ?_); rintro e2 w2 ⟨fp, rfl, hf2, hb2⟩; (have HL1 := Lib.hid hb2); (have hbw : Below w1.heap.size w1 w2 := by (repeat (first | with_reducible exact Below.refl _ _ | with_reducible refine below_alloc' ?_ _ | with_reducible refine below_step ?_ HL1.out | with_reducible refine below_step ?_ HL2.out | with_reducible refine below_step ?_ HL3.out | with_reducible refine below_step ?_ HL4.out | with_reducible refine below_step ?_ HL5.out | with_reducible refine below_drew ?_))); (have HF2 := Lib.hid hf2); (have zHK10_0 := cell_keep hbw HK1.out.1); (have zHK10_1 := cell_keep hbw HK1.out.2.1); (have zHK10_2 := cell_keep hbw HK1.out.2.2); clear hf2 hb2 hbw)
      | ((with_reducible refine (HSO.out _ _ (by (repeat (first | with_reducible exact Below.refl _ _ | with_reducible refine below_alloc' ?_ _ | with_reducible refine below_step ?_ HL1.out | with_reducible refine below_step ?_ HL2.out | with_reducible refine below_step ?_ HL3.out | with_reducible refine below_step ?_ HL4.out | with_reducible refine below_step ?_ HL5.out | with_reducible refine below_drew ?_))) (HF2.out.keep (by (repeat (first | with_reducible exact Below.refl _ _ | with_reducible refine below_alloc' ?_ _ | with_reducible refine below_step ?_ HL1.out | with_reducible refine below_step ?_ HL2.out | with_reducible refine below_step ?_ HL3.out | with_reducible refine below_step ?_ HL4.out | with_reducible refine below_step ?_ HL5.out | with_reducible refine below_drew ?_))))).mono ?_); rintro e3 w3 ⟨rfl, hb3⟩; (have HL2 := Lib.hid hb3); (have hbw : Below w1.heap.size w1 w3 := by (repeat (first | with_reducible exact Below.refl _ _ | with_reducible refine below_alloc' ?_ _ | with_reducible refine below_step ?_ HL1.out | with_reducible refine below_step ?_ HL2.out | with_reducible refine below_step ?_ HL3.out | with_reducible refine below_step ?_ HL4.out | with_reducible refine below_step ?_ HL5.out | with_reducible refine below_drew ?_))); (have HB3 := Lib.hid hbw); (have zHK11_0 := cell_keep hbw HK1.out.1); (have zHK11_1 := cell_keep hbw HK1.out.2.1); (have zHK11_2 := cell_keep hbw HK1.out.2.2); clear hb3 hbw)
      | fail)
  all_goals go_wp2_with fail
  all_goals go_ret2
  all_goals exact ⟨rfl, below_step HB.out HB3.out⟩

set_option maxHeartbeats 1600000 in
theorem icheck_any (ds : List ND) (f : Nat) (hI : InferC ds f) (t want : T) (q : Bool) (w : World) (D s s' : Value) (hq : checkTop' (ds.map Prod.snd) f t want = some q) (hl : 3 * f ≤ 9000) (hD : DeclsAt w ds D) (hs : argsIn w w.heap.size t s) (hs' : argsIn w w.heap.size want s') :
    Calls Tryz.prog 90 #[D, .slice none 0 0, .agg #[.int .i64 t.k, .int .i64 t.n, s], .agg #[.int .i64 want.k, .int .i64 want.n, s']] w (StrPost (.int .i64 (if q then 0 else 10)) w) := by
  obtain ⟨DA, dcap, rfl, -⟩ := id hD
  obtain ⟨SA, scap, rfl, -⟩ := argsIn_iff.1 hs
  obtain ⟨SB, scb, rfl, -⟩ := argsIn_iff.1 hs'
  unfold checkTop' at hq
  simp only [Option.bind_eq_some_iff] at hq
  obtain ⟨v, hv, hq⟩ := hq
  have hba := below_alloc' (Below.refl w.heap.size w) (.cells #[.int .i64 t.k, .int .i64 t.n, .slice SA t.al.length scap] 30)
  have hbb := below_alloc' hba (.cells #[.int .i64 want.k, .int .i64 want.n, .slice SB want.al.length scb] 30)
  have HB := Lib.hid hbb
  have HT := Lib.hid (And.intro (hD.keep hbb) (And.intro (hs.keep hbb.size hbb) (hs'.keep hbb.size hbb)))
  have HN := Lib.hid (And.intro hv (And.intro hq hl))
  have hb1 := (Blk.new w 30 #[.int .i64 t.k, .int .i64 t.n, .slice SA t.al.length scap]).alloc (.cells #[.int .i64 want.k, .int .i64 want.n, .slice SB want.al.length scb] 30)
  have hb2 := Blk.new (w.alloc (.cells #[.int .i64 t.k, .int .i64 t.n, .slice SA t.al.length scap] 30)) 30 #[.int .i64 want.k, .int .i64 want.n, .slice SB want.al.length scb]
  rw [show (w.alloc (.cells #[.int .i64 t.k, .int .i64 t.n, .slice SA t.al.length scap] 30)).heap.size = w.heap.size + 1 by simp] at hb2
  have HBL := Lib.hid (And.intro hb1 hb2)
  clear hD hs hs' hba hbb hv hq hl hb1 hb2
  have HL1 := Lib.hid trivial
  have HL2 := Lib.hid trivial
  have HL3 := Lib.hid trivial
  have HL4 := Lib.hid trivial
  have HL5 := Lib.hid trivial
  obtain ⟨r, hr⟩ : ∃ r : Int, (if q then (0 : Int) else 10) = r := ⟨_, rfl⟩
  rw [hr]
  have HR := Lib.hid hr
  clear hr
  go_enter Tryz.func90, Tryz.ntmps90
  go_wp2_with fail
  generalize (w.alloc (.cells #[.int .i64 t.k, .int .i64 t.n, .slice SA t.al.length scap] 30)).alloc (.cells #[.int .i64 want.k, .int .i64 want.n, .slice SB want.al.length scb] 30) = w1 at *
  refine (fin_any ds w1 _ HT.out.1).mono ?_
  rintro e2 w2 ⟨fp, rfl, hf2, hb2⟩
  obtain ⟨fb, -, -, -, rfl, -⟩ := id hf2
  obtain ⟨k0, k1, k2⟩ := (HBL.out.1.more hb2).tri.1
  obtain ⟨m0, m1, m2⟩ := (HBL.out.2.more hb2).tri.1
  have HL02 := Lib.hid hb2
  have HF2 := Lib.hid hf2
  clear hf2 hb2
  go_wp2_with fail
  have HK1 := Lib.hid (And.intro k0 (And.intro k1 (And.intro k2 (And.intro m0 (And.intro m1 m2)))))
  have HVL := Lib.hid (fun (w' : World) (hb : Below w2.heap.size w2 w') => fvalue_any ds f ⟨[], []⟩ want v HN.out.1 w' _ _ (HF2.out.keep hb) (HT.out.2.2.keep (below_step HL02.out hb).size (below_step HL02.out hb)))
  have HCK := Lib.hid (show ∀ (w' : World) (up : Value), Below w2.heap.size w2 w' → ValAt w' v up → Calls Tryz.prog 111 #[.pointer (some ⟨fb, 0, none⟩), .agg #[.int .i64 t.k, .int .i64 t.n, .slice SA t.al.length scap], up] w' (StrPost (.int .i64 r) w') from
    fun w' up hb hu => by rw [← HR.out]; exact check_any ds f hI ⟨[], []⟩ t v q w' _ _ _ HN.out.2.1 (by simpa using HN.out.2.2) (HF2.out.keep hb) (HT.out.2.1.keep (below_step HL02.out hb).size (below_step HL02.out hb)) hu)
  go_region_held3 (fun w' => w'.cell? ⟨w.heap.size, 0, none⟩ = some (.int .i64 t.k) ∧ w'.cell? ⟨w.heap.size, 1, none⟩ = some (.int .i64 t.n) ∧ w'.cell? ⟨w.heap.size, 2, none⟩ = some (.slice SA t.al.length scap) ∧ w'.cell? ⟨w.heap.size + 1, 0, none⟩ = some (.int .i64 want.k) ∧ w'.cell? ⟨w.heap.size + 1, 1, none⟩ = some (.int .i64 want.n) ∧ w'.cell? ⟨w.heap.size + 1, 2, none⟩ = some (.slice SB want.al.length scb)) (go_keep)
    (first
      | ((with_reducible refine (HVL.out _ (by (repeat (first | with_reducible exact Below.refl _ _ | with_reducible refine below_alloc' ?_ _ | with_reducible refine below_step ?_ HL1.out | with_reducible refine below_step ?_ HL2.out | with_reducible refine below_step ?_ HL3.out | with_reducible refine below_step ?_ HL4.out | with_reducible refine below_step ?_ HL5.out | with_reducible refine below_drew ?_)))).mono ?_); rintro e3 w3 ⟨up, rfl, hu3, hb3⟩; (obtain ⟨ub, rfl⟩ := hu3.form); (have HL1 := Lib.hid hb3); (have hbw : Below w2.heap.size w2 w3 := by (repeat (first | with_reducible exact Below.refl _ _ | with_reducible refine below_alloc' ?_ _ | with_reducible refine below_step ?_ HL1.out | with_reducible refine below_step ?_ HL2.out | with_reducible refine below_step ?_ HL3.out | with_reducible refine below_step ?_ HL4.out | with_reducible refine below_step ?_ HL5.out | with_reducible refine below_drew ?_))); (have HU3 := Lib.hid hu3); (have zHK10_0 := cell_keep hbw HK1.out.1); (have zHK10_1 := cell_keep hbw HK1.out.2.1); (have zHK10_2 := cell_keep hbw HK1.out.2.2.1); (have zHK10_3 := cell_keep hbw HK1.out.2.2.2.1); (have zHK10_4 := cell_keep hbw HK1.out.2.2.2.2.1); (have zHK10_5 := cell_keep hbw HK1.out.2.2.2.2.2); clear hu3 hb3 hbw)
      | ((with_reducible refine (HCK.out _ _ (by (repeat (first | with_reducible exact Below.refl _ _ | with_reducible refine below_alloc' ?_ _ | with_reducible refine below_step ?_ HL1.out | with_reducible refine below_step ?_ HL2.out | with_reducible refine below_step ?_ HL3.out | with_reducible refine below_step ?_ HL4.out | with_reducible refine below_step ?_ HL5.out | with_reducible refine below_drew ?_))) (HU3.out.keep (by (repeat (first | with_reducible exact Below.refl _ _ | with_reducible refine below_alloc' ?_ _ | with_reducible refine below_step ?_ HL1.out | with_reducible refine below_step ?_ HL2.out | with_reducible refine below_step ?_ HL3.out | with_reducible refine below_step ?_ HL4.out | with_reducible refine below_step ?_ HL5.out | with_reducible refine below_drew ?_))))).mono ?_); rintro e4 w4 ⟨rfl, hb4⟩; (have HL2 := Lib.hid hb4); (have hbw : Below w2.heap.size w2 w4 := by (repeat (first | with_reducible exact Below.refl _ _ | with_reducible refine below_alloc' ?_ _ | with_reducible refine below_step ?_ HL1.out | with_reducible refine below_step ?_ HL2.out | with_reducible refine below_step ?_ HL3.out | with_reducible refine below_step ?_ HL4.out | with_reducible refine below_step ?_ HL5.out | with_reducible refine below_drew ?_))); (have HBW4 := Lib.hid hbw); (have zHK11_0 := cell_keep hbw HK1.out.1); (have zHK11_1 := cell_keep hbw HK1.out.2.1); (have zHK11_2 := cell_keep hbw HK1.out.2.2.1); (have zHK11_3 := cell_keep hbw HK1.out.2.2.2.1); (have zHK11_4 := cell_keep hbw HK1.out.2.2.2.2.1); (have zHK11_5 := cell_keep hbw HK1.out.2.2.2.2.2); clear hb4 hbw)
      | fail)
  all_goals go_wp2_with fail
  all_goals go_ret
  all_goals exact ⟨rfl, below_step (below_step HB.out HL02.out) HBW4.out⟩
end Go.Proofs.YtjboibbgigkhkaaGreatDoor

/- package infer: function, by the contract of infer. -/
namespace Go.Proofs.YtjboibbgigkhkaaGreatDoor
open Go.RowKit
set_option maxRecDepth 100000

/-- an argument in its row -/
def ArgAt (w : World) (ab o : Nat) (a : T) (S : Option Addr) (m : Nat) : Prop := (w.cell? ⟨ab, o, none⟩ = some (.int .i64 a.k) ∧ w.cell? ⟨ab, o + 1, none⟩ = some (.int .i64 a.n) ∧ w.cell? ⟨ab, o + 2, none⟩ = some (.slice S a.al.length m)) ∧ argsIn w w.heap.size a (.slice S a.al.length m)
theorem ArgAt.keep {w w' : World} {ab o : Nat} {a : T} {S : Option Addr} {m : Nat} (h : ArgAt w ab o a S m) (hb : Below w.heap.size w w') : ArgAt w' ab o a S m :=
  ⟨⟨cell_keep hb h.1.1, cell_keep hb h.1.2.1, cell_keep hb h.1.2.2⟩, h.2.keep hb.size hb⟩
theorem arg_at {w : World} {t a : T} {ab ao cap i : Nat} (hs : argsIn w w.heap.size t (.slice (some ⟨ab, ao, none⟩) t.al.length cap)) (ha : t.al[i]? = some a) : ∃ S m, ArgAt w ab (ao + i * 3) a S m := by
  obtain ⟨ab', ao', S, m, e, -, c1, c2, c3, c4⟩ := vf_arg hs ha
  cases e
  exact ⟨S, m, ⟨c1, c2, c3⟩, c4⟩
theorem arg_form {w : World} {t a : T} {A : Option Addr} {cap i : Nat} (hs : argsIn w w.heap.size t (.slice A t.al.length cap)) (ha : t.al[i]? = some a) : ∃ ab ao, A = some ⟨ab, ao, none⟩ := by
  obtain ⟨ab, ao, S, m, e, -⟩ := vf_arg hs ha
  exact ⟨ab, ao, e⟩
theorem term_in {w w' : World} {t : T} {s : Value} (h : argsInS w' (orNew nowhere w w') t s) : argsIn w' w'.heap.size t s := argsInS.keep h (fun b hb => by rcases hb with hb | hb; exact hb.elim; exact hb.2) fun _ _ => rfl

/-- a term in its box, its arguments' row known -/
structure TB (t : T) (g ab ao cap : Nat) (w : World) : Prop where
  blk : Blk w g 30 #[.int .i64 t.k, .int .i64 t.n, .slice (some ⟨ab, ao, none⟩) t.al.length cap]
  args : argsIn w w.heap.size t (.slice (some ⟨ab, ao, none⟩) t.al.length cap)
theorem TB.keep {t : T} {g ab ao cap : Nat} {w w' : World} (h : TB t g ab ao cap w) (hb : Below w.heap.size w w') : TB t g ab ao cap w' := ⟨h.blk.more hb, h.args.keep hb.size hb⟩
theorem TB.new {t : T} {ab ao cap : Nat} {w : World} (hs : argsIn w w.heap.size t (.slice (some ⟨ab, ao, none⟩) t.al.length cap)) : TB t w.heap.size ab ao cap (w.alloc (.cells #[.int .i64 t.k, .int .i64 t.n, .slice (some ⟨ab, ao, none⟩) t.al.length cap] 30)) :=
  ⟨Blk.new _ _ _, box_new hs⟩

set_option maxHeartbeats 1600000 in
theorem fapp_any (ds : List ND) (f : Nat) (hI : InferC ds f) (g : Fi) (n : Int) (al : List T) (a b : T) (v : Val) (w : World) (fp s : Value) (ha : al[0]? = some a) (hb : al[1]? = some b) (hv : appQ (ds.map Prod.snd) f (inferQ (ds.map Prod.snd) f) g a b = some v)
    (hl : g.types.length + 3 * f ≤ 9000) (hf : FinderAt w ds g fp) (hs : argsIn w w.heap.size (.mk 5 n al) s) :
    Calls Tryz.prog 154 #[fp, .agg #[.int .i64 5, .int .i64 n, s]] w (IPost v w) := by
  obtain ⟨SA, scap, hse, -⟩ := argsIn_iff.1 hs
  simp only [T.al] at hse
  subst hse
  obtain ⟨ab, ao, rfl⟩ := arg_form (t := .mk 5 n al) hs ha
  unfold appQ at hv
  simp only [Option.bind_eq_some_iff] at hv
  obtain ⟨pv, hpv, hv⟩ := hv
  by_cases h3 : pv.k = 3
  case neg => rw [if_neg h3] at hv; cases hv
  rw [if_pos h3] at hv
  simp only [thenQ, Option.bind_eq_some_iff] at hv
  obtain ⟨x, hx, q, hq, hv⟩ := hv
  cases q with
  | false => simp at hv
  | true =>
  rw [if_pos rfl] at hv
  simp only [Option.bind_eq_some_iff] at hv
  obtain ⟨c, hc, u, hu, hv⟩ := hv
  have h3b : (pv.k != 3) = false := by simpa using h3
  have hba := below_alloc' (Below.refl w.heap.size w) (.cells #[.int .i64 5, .int .i64 n, .slice (some ⟨ab, ao, none⟩) al.length scap] 30)
  have htb := TB.new (t := .mk 5 n al) hs
  simp only [T.k, T.n, T.al] at htb
  obtain ⟨S0, m0, ha0⟩ := arg_at htb.args ha
  obtain ⟨S1, m1, ha1⟩ := arg_at htb.args hb
  simp only [Nat.zero_mul, Nat.one_mul, Nat.add_zero] at ha0 ha1
  have hlen0 : (0 : Int) < (al.length : Int) := by have := (List.getElem?_eq_some_iff.1 ha).1; omega
  have hlen1 : (1 : Int) < (al.length : Int) := by have := (List.getElem?_eq_some_iff.1 hb).1; omega
  have HT := Lib.hid (And.intro htb (And.intro ha0 (And.intro ha1 (hf.keep hba))))
  have HB := Lib.hid hba
  have HV := Lib.hid (And.intro hI (And.intro hpv (And.intro (And.intro hx hq) (And.intro hc (And.intro hu (And.intro hv hl))))))
  obtain ⟨fb, -, -, -, rfl, -⟩ := hf
  clear hs hba htb ha0 ha1 hpv hx hq hc hu hv hl hI ha hb h3
  have h0b : ((0 : Int) != 0) = false := by decide
  have HL1 := Lib.hid trivial
  have HL2 := Lib.hid trivial
  have HL3 := Lib.hid trivial
  have HL4 := Lib.hid trivial
  have HL5 := Lib.hid trivial
  obtain ⟨⟨k0, k1, k2⟩, -⟩ := HT.out.1.blk.tri
  obtain ⟨a0, a1, a2⟩ := HT.out.2.1.1
  simp only [T.k, T.n, T.al] at k0 k1 k2
  go_enter Tryz.func154, Tryz.ntmps154
  go_wp2_with fail
  generalize w.alloc (.cells #[.int .i64 5, .int .i64 n, .slice (some ⟨ab, ao, none⟩) al.length scap] 30) = w1 at *
  refine (HV.out.1 g a pv w1 _ _ HV.out.2.1 HV.out.2.2.2.2.2.2 HT.out.2.2.2 HT.out.2.1.2).mono ?_
  rintro e2 w2 ⟨p, rfl, hp, hb2⟩
  have HP := Lib.hid hp
  obtain ⟨pb, rfl, p0, -⟩ := val_kn hp
  obtain ⟨pb', pa, po, pm, xb, e, p2, hpl, px, hxv⟩ := val_arg0 hp HV.out.2.2.1.1
  cases e
  have HL0 := Lib.hid hb2
  clear k0 k1 k2 a0 a1 a2
  have hT2 := HT.out.1.keep hb2
  have hA2 := HT.out.2.2.1.keep hb2
  have hF2 := HT.out.2.2.2.keep hb2
  obtain ⟨⟨k0, k1, k2⟩, -⟩ := hT2.blk.tri
  obtain ⟨b0, b1, b2⟩ := hA2.1
  simp only [T.k, T.n, T.al] at k0 k1 k2
  have HK := Lib.hid (And.intro k2 (And.intro p2 (And.intro px (And.intro b0 (And.intro b1 b2)))))
  have HT2 := Lib.hid (And.intro hT2 (And.intro hA2 hF2))
  have HCK := Lib.hid (show ∀ w' : World, Below w2.heap.size w2 w' → Calls Tryz.prog 111 #[.pointer (some ⟨fb, 0, none⟩), .agg #[.int .i64 b.k, .int .i64 b.n, .slice S1 b.al.length m1], .pointer (some ⟨xb, 0, none⟩)] w' (StrPost (.int .i64 0) w') from
    fun w' hb => check_any ds f HV.out.1 g b x true w' _ _ _ HV.out.2.2.1.2 HV.out.2.2.2.2.2.2 (HT2.out.2.2.keep hb) (HT2.out.2.1.2.keep hb.size hb) (hxv.keep hb))
  clear hp hb2 hT2 hA2 hF2 hxv
  go_wp2_with fail
  go_region_held3 (fun w' => w'.cell? ⟨w.heap.size, 2, none⟩ = some (.slice (some ⟨ab, ao, none⟩) al.length scap) ∧ w'.cell? ⟨pb, 2, none⟩ = some (.slice (some ⟨pa, po, none⟩) pv.args.length pm) ∧ w'.cell? ⟨pa, po, none⟩ = some (.pointer (some ⟨xb, 0, none⟩)) ∧
      w'.cell? ⟨ab, ao + 3, none⟩ = some (.int .i64 b.k) ∧ w'.cell? ⟨ab, ao + 3 + 1, none⟩ = some (.int .i64 b.n) ∧ w'.cell? ⟨ab, ao + 3 + 2, none⟩ = some (.slice S1 b.al.length m1)) (go_keep)
    (first
      | ((go_at_call 111); (with_reducible refine (HCK.out _ (by (repeat (first | with_reducible exact Below.refl _ _ | with_reducible refine below_alloc' ?_ _ | with_reducible refine below_step ?_ HL1.out | with_reducible refine below_step ?_ HL2.out | with_reducible refine below_step ?_ HL3.out | with_reducible refine below_step ?_ HL4.out | with_reducible refine below_step ?_ HL5.out | with_reducible refine below_drew ?_)))).mono ?_); rintro e3 w3 ⟨rfl, hb3⟩; (have HL1 := Lib.hid hb3); (have hbw : Below w2.heap.size w2 w3 := by (repeat (first | with_reducible exact Below.refl _ _ | with_reducible refine below_alloc' ?_ _ | with_reducible refine below_step ?_ HL1.out | with_reducible refine below_step ?_ HL2.out | with_reducible refine below_step ?_ HL3.out | with_reducible refine below_step ?_ HL4.out | with_reducible refine below_step ?_ HL5.out | with_reducible refine below_drew ?_))); (have HBW := Lib.hid hbw); (have q0 := cell_keep hbw HK.out.1); (have q1 := cell_keep hbw HK.out.2.1); (have q2 := cell_keep hbw HK.out.2.2.1); (have q3 := cell_keep hbw HK.out.2.2.2.1); (have q4 := cell_keep hbw HK.out.2.2.2.2.1); (have q5 := cell_keep hbw HK.out.2.2.2.2.2); clear hb3 hbw)
      | fail)
  clear k0 k1 k2 p0 p2 px b0 b1 b2 hpl q1 q2
  obtain ⟨pb', ca, co, cm, CS, csc, cea, e, c3, hcl, ⟨d0, d1, d2, d3⟩, hcv⟩ := val_clo0 (HP.out.keep HBW.out) HV.out.2.2.2.1
  cases e
  have hF3 := HT2.out.2.2.keep HBW.out
  obtain ⟨fb', D, tv, ev, e, ⟨f0, f1, f2⟩, hD, -, -⟩ := id hF3
  cases e
  obtain ⟨DA, dcap, rfl, -⟩ := id hD
  have HK3 := Lib.hid (And.intro q0 (And.intro (And.intro q3 (And.intro q4 q5)) (And.intro c3 (And.intro (And.intro d0 (And.intro d1 (And.intro d2 d3))) f0))))
  have HVL := Lib.hid (fun (w' : World) (hb : Below w3.heap.size w3 w') => fvalue_any ds f g b u HV.out.2.2.2.2.1 w' _ _ (hF3.keep hb) ((HT2.out.2.1.2.keep HBW.out.size HBW.out).keep hb.size hb))
  have HW := Lib.hid (show ∀ (w' : World) (k : Nat) (xp : Value), Below w3.heap.size w3 w' → ValAt w' u xp → Blk w' k 63 #[xp] →
      Calls Tryz.prog 60 #[.agg #[.int .i64 c.1.k, .int .i64 c.1.n, .slice CS c.1.al.length csc, .pointer cea], .slice DA ds.length dcap, .slice (some ⟨k, 0, none⟩) 1 1] w' (VPost v w') from
    fun w' k xp hb hx hB => with_any ds f (eval_any ds f).1 c [u] v HV.out.2.2.2.2.2.1 w' _ _ _ (some ⟨k, 0, none⟩) 1 (by simp) (hD.keep hb) (hcv.keep hb) (vals_blk hB hx))
  clear hF3 hD hcv f1 f2
  go_wp2_with fail
  go_region_held3 (fun w' => w'.cell? ⟨w.heap.size, 2, none⟩ = some (.slice (some ⟨ab, ao, none⟩) al.length scap) ∧ (w'.cell? ⟨ab, ao + 3, none⟩ = some (.int .i64 b.k) ∧ w'.cell? ⟨ab, ao + 3 + 1, none⟩ = some (.int .i64 b.n) ∧ w'.cell? ⟨ab, ao + 3 + 2, none⟩ = some (.slice S1 b.al.length m1)) ∧
      w'.cell? ⟨pb, 3, none⟩ = some (.slice (some ⟨ca, co, none⟩) pv.bs.length cm) ∧ (w'.cell? ⟨ca, co, none⟩ = some (.int .i64 c.1.k) ∧ w'.cell? ⟨ca, co + 1, none⟩ = some (.int .i64 c.1.n) ∧ w'.cell? ⟨ca, co + 2, none⟩ = some (.slice CS c.1.al.length csc) ∧ w'.cell? ⟨ca, co + 3, none⟩ = some (.pointer cea)) ∧ w'.cell? ⟨fb, 0, none⟩ = some (.slice DA ds.length dcap)) (go_keep)
    (first
      | ((go_at_call 112); (with_reducible refine (HVL.out _ (by (repeat (first | with_reducible exact Below.refl _ _ | with_reducible refine below_alloc' ?_ _ | with_reducible refine below_step ?_ HL1.out | with_reducible refine below_step ?_ HL2.out | with_reducible refine below_step ?_ HL3.out | with_reducible refine below_step ?_ HL4.out | with_reducible refine below_step ?_ HL5.out | with_reducible refine below_drew ?_)))).mono ?_); rintro e4 w4 ⟨up, rfl, hu4, hb4⟩; (obtain ⟨upb, rfl⟩ := hu4.form); (have HL2 := Lib.hid hb4); (have hbw : Below w3.heap.size w3 w4 := by (repeat (first | with_reducible exact Below.refl _ _ | with_reducible refine below_alloc' ?_ _ | with_reducible refine below_step ?_ HL1.out | with_reducible refine below_step ?_ HL2.out | with_reducible refine below_step ?_ HL3.out | with_reducible refine below_step ?_ HL4.out | with_reducible refine below_step ?_ HL5.out | with_reducible refine below_drew ?_))); (have HU4 := Lib.hid hu4); (have x0 := cell_keep hbw HK3.out.1); (have x1 := cell_keep hbw HK3.out.2.1.1); (have x2 := cell_keep hbw HK3.out.2.1.2.1); (have x3 := cell_keep hbw HK3.out.2.1.2.2); (have x4 := cell_keep hbw HK3.out.2.2.1); (have x5 := cell_keep hbw HK3.out.2.2.2.1.1); (have x6 := cell_keep hbw HK3.out.2.2.2.1.2.1); (have x7 := cell_keep hbw HK3.out.2.2.2.1.2.2.1); (have x8 := cell_keep hbw HK3.out.2.2.2.1.2.2.2); (have x9 := cell_keep hbw HK3.out.2.2.2.2); clear hu4 hb4 hbw)
      | ((go_at_call 60); (with_reducible refine (HW.out _ _ _ (by (repeat (first | with_reducible exact Below.refl _ _ | with_reducible refine below_alloc' ?_ _ | with_reducible refine below_step ?_ HL1.out | with_reducible refine below_step ?_ HL2.out | with_reducible refine below_step ?_ HL3.out | with_reducible refine below_step ?_ HL4.out | with_reducible refine below_step ?_ HL5.out | with_reducible refine below_drew ?_))) (HU4.out.keep (by (repeat (first | with_reducible exact Below.refl _ _ | with_reducible refine below_alloc' ?_ _ | with_reducible refine below_step ?_ HL1.out | with_reducible refine below_step ?_ HL2.out | with_reducible refine below_step ?_ HL3.out | with_reducible refine below_step ?_ HL4.out | with_reducible refine below_step ?_ HL5.out | with_reducible refine below_drew ?_)))) (by (first | (refine (Blk.new' ?_); simp; done) | (refine ((Blk.new' ?_)).alloc _; simp; done) | (refine (((Blk.new' ?_)).alloc _).alloc _; simp; done) | (refine ((Blk.new' ?_)).more HL1.out; simp; done) | (refine (((Blk.new' ?_)).more HL1.out).alloc _; simp; done) | (refine ((((Blk.new' ?_)).more HL1.out).alloc _).alloc _; simp; done) | (refine (Blk.drew' (Blk.new' ?_)); simp; done) | (refine ((Blk.drew' (Blk.new' ?_))).alloc _; simp; done) | (refine (((Blk.drew' (Blk.new' ?_))).alloc _).alloc _; simp; done) | (refine ((Blk.drew' (Blk.new' ?_))).more HL1.out; simp; done) | (refine (((Blk.drew' (Blk.new' ?_))).more HL1.out).alloc _; simp; done) | (refine ((((Blk.drew' (Blk.new' ?_))).more HL1.out).alloc _).alloc _; simp; done)))).mono ?_); rintro e5 w5 ⟨vp, rfl, hv5, hb5⟩; (obtain ⟨vpb, rfl⟩ := hv5.form); (have HL3 := Lib.hid hb5); (have hbw : Below w3.heap.size w3 w5 := by (repeat (first | with_reducible exact Below.refl _ _ | with_reducible refine below_alloc' ?_ _ | with_reducible refine below_step ?_ HL1.out | with_reducible refine below_step ?_ HL2.out | with_reducible refine below_step ?_ HL3.out | with_reducible refine below_step ?_ HL4.out | with_reducible refine below_step ?_ HL5.out | with_reducible refine below_drew ?_))); (have HV5 := Lib.hid hv5); (have y0 := cell_keep hbw HK3.out.1); (have y1 := cell_keep hbw HK3.out.2.1.1); (have y2 := cell_keep hbw HK3.out.2.1.2.1); (have y3 := cell_keep hbw HK3.out.2.1.2.2); (have y4 := cell_keep hbw HK3.out.2.2.1); (have y5 := cell_keep hbw HK3.out.2.2.2.1.1); (have y6 := cell_keep hbw HK3.out.2.2.2.1.2.1); (have y7 := cell_keep hbw HK3.out.2.2.2.1.2.2.1); (have y8 := cell_keep hbw HK3.out.2.2.2.1.2.2.2); (have y9 := cell_keep hbw HK3.out.2.2.2.2); clear hv5 hb5 hbw)
      | fail)
  all_goals go_wp2_with fail
  all_goals go_ret2
  all_goals exact ⟨_, rfl, HV5.out, below_step (below_step HB.out (below_step HL0.out HBW.out)) (show Below w3.heap.size w3 w5 by (repeat (first | with_reducible exact Below.refl _ _ | with_reducible refine below_alloc' ?_ _ | with_reducible refine below_step ?_ HL1.out | with_reducible refine below_step ?_ HL2.out | with_reducible refine below_step ?_ HL3.out | with_reducible refine below_step ?_ HL4.out | with_reducible refine below_step ?_ HL5.out | with_reducible refine below_drew ?_)))⟩
end Go.Proofs.YtjboibbgigkhkaaGreatDoor

/- package infer: the type of a function; of a pair's part; by the contract of infer. -/
namespace Go.Proofs.YtjboibbgigkhkaaGreatDoor
open Go.RowKit
set_option maxRecDepth 100000

set_option maxHeartbeats 3200000 in
theorem flam_any (ds : List ND) (f : Nat) (hI : InferC ds f) (g : Fi) (n : Int) (al : List T) (a b : T) (r : Val) (w : World) (fp s : Value) (ha : al[0]? = some a) (hb : al[1]? = some b) (hv : lamQ (ds.map Prod.snd) f (inferQ (ds.map Prod.snd) f) g a b = some r)
    (hl : g.types.length + 3 * f + 1 ≤ 9000) (hf : FinderAt w ds g fp) (hs : argsIn w w.heap.size (.mk 4 n al) s) :
    Calls Tryz.prog 154 #[fp, .agg #[.int .i64 4, .int .i64 n, s]] w (IPost r w) := by
  obtain ⟨SA, scap, hse, -⟩ := argsIn_iff.1 hs
  simp only [T.al] at hse
  subst hse
  obtain ⟨ab, ao, rfl⟩ := arg_form (t := .mk 4 n al) hs ha
  unfold lamQ at hv
  simp only [Option.bind_eq_some_iff] at hv
  obtain ⟨m, hm, v, hva, u, hu, t, ht, hv⟩ := hv
  cases hv
  have hba := below_alloc' (Below.refl w.heap.size w) (.cells #[.int .i64 4, .int .i64 n, .slice (some ⟨ab, ao, none⟩) al.length scap] 30)
  have htb := TB.new (t := .mk 4 n al) hs
  simp only [T.k, T.n, T.al] at htb
  obtain ⟨S0, m0, ha0⟩ := arg_at htb.args ha
  obtain ⟨S1, m1, ha1⟩ := arg_at htb.args hb
  simp only [Nat.zero_mul, Nat.one_mul, Nat.add_zero] at ha0 ha1
  have hlenN : 0 < al.length := (List.getElem?_eq_some_iff.1 ha).1
  have hlen0 : (0 : Int) < (al.length : Int) := by have := (List.getElem?_eq_some_iff.1 ha).1; omega
  have hlen1 : (1 : Int) < (al.length : Int) := by have := (List.getElem?_eq_some_iff.1 hb).1; omega
  have HT := Lib.hid (And.intro htb (And.intro ha0 (And.intro ha1 (hf.keep hba))))
  have HB := Lib.hid hba
  have HV := Lib.hid (And.intro hI (And.intro hm (And.intro hva (And.intro hu (And.intro ht hl)))))
  obtain ⟨fb, -, -, -, rfl, -⟩ := hf
  clear hs hba htb ha0 ha1 hm hva hu ht hl hI ha hb
  have h0b : ((0 : Int) != 0) = false := by decide
  have HL1 := Lib.hid trivial
  have HL2 := Lib.hid trivial
  have HL3 := Lib.hid trivial
  have HL4 := Lib.hid trivial
  have HL5 := Lib.hid trivial
  obtain ⟨⟨k0, k1, k2⟩, -⟩ := HT.out.1.blk.tri
  obtain ⟨a0, a1, a2⟩ := HT.out.2.1.1
  simp only [T.k, T.n, T.al] at k0 k1 k2
  go_enter Tryz.func154, Tryz.ntmps154
  go_wp2_with fail
  generalize w.alloc (.cells #[.int .i64 4, .int .i64 n, .slice (some ⟨ab, ao, none⟩) al.length scap] 30) = w1 at *
  refine (sort_any ds f HV.out.1 g a m w1 _ _ HV.out.2.1 (by have := HV.out.2.2.2.2.2; omega) HT.out.2.2.2 HT.out.2.1.2).mono ?_
  rintro e2 w2 ⟨rfl, hb2⟩
  have HL0 := Lib.hid hb2
  clear k0 k1 k2 a0 a1 a2
  obtain ⟨⟨k0, k1, k2⟩, -⟩ := (HT.out.1.keep hb2).blk.tri
  obtain ⟨a0, a1, a2⟩ := (HT.out.2.1.keep hb2).1
  simp only [T.k, T.n, T.al] at k0 k1 k2
  clear hb2
  go_wp2_with fail
  refine (fvalue_any ds f g a v HV.out.2.2.1 w2 _ _ (HT.out.2.2.2.keep HL0.out) (HT.out.2.1.keep HL0.out).2).mono ?_
  rintro e3 w3 ⟨p, rfl, hp, hb3⟩
  obtain ⟨pb, rfl⟩ := hp.form
  have HL03 := Lib.hid (below_step HL0.out hb3)
  have HP := Lib.hid hp
  clear hp hb3 k0 k1 k2 a0 a1 a2
  go_wp2_with fail
  refine (funder_any ds g v (by have := HV.out.2.2.2.2.2; omega) w3 _ _ (HT.out.2.2.2.keep HL03.out) HP.out).mono ?_
  rintro e4 w4 ⟨fp4, rfl, hf4, hb4⟩
  obtain ⟨fb4, D4, tv4, ev4, rfl, ⟨i0, i1, i2⟩, hD4, hvi4, hev4⟩ := id hf4
  have HL04 := Lib.hid (below_step HL03.out hb4)
  have HF4 := Lib.hid (And.intro hf4 (HP.out.keep hb4))
  obtain ⟨⟨k0, k1, k2⟩, -⟩ := (HT.out.1.keep HL04.out).blk.tri
  obtain ⟨b0, b1, b2⟩ := (HT.out.2.2.1.keep HL04.out).1
  simp only [T.k, T.n, T.al] at k0 k1 k2
  clear hf4 hb4 i0 i1 i2 hD4 hvi4 hev4
  go_wp2_with fail
  refine (HV.out.1 (g.under v) b u w4 _ _ HV.out.2.2.2.1 (by have := HV.out.2.2.2.2.2; simp [Fi.under]; omega) HF4.out.1 (HT.out.2.2.1.keep HL04.out).2).mono ?_
  rintro e5 w5 ⟨q, rfl, hq, hb5⟩
  obtain ⟨qb, rfl⟩ := hq.form
  have HL05 := Lib.hid (below_step HL04.out hb5)
  obtain ⟨fb4', D5, tv5, ev5, e, ⟨i0, i1, i2⟩, hD5, hvi5, -⟩ := HF4.out.1.keep hb5
  cases e
  obtain ⟨A5, mm5, rfl, -⟩ := hvi5
  obtain ⟨N, hN⟩ : ∃ N, (g.under v).types.length = N := ⟨_, rfl⟩
  rw [hN] at i1
  have hNi : (N : Int) = g.types.length + 1 := by rw [← hN]; simp [Fi.under]
  obtain ⟨fb', D, tv, ev, e, ⟨f0, f1, f2⟩, hD, hvi, he⟩ := HT.out.2.2.2.keep HL05.out
  cases e
  obtain ⟨DA, dcap, rfl, -⟩ := id hD
  have HK := Lib.hid (And.intro f0 i1)
  have HQ := Lib.hid (And.intro hq (HF4.out.2.keep hb5))
  have HF := Lib.hid (HT.out.2.2.2.keep HL05.out)
  have HTM := Lib.hid (show ∀ w' : World, Below w5.heap.size w5 w' → Calls Tryz.prog 165 #[.slice DA ds.length dcap, .pointer (some ⟨qb, 0, none⟩), .int .i64 N] w' (TermPost t nowhere w') from
    fun w' hb => by rw [hNi]; exact term_any ds f u _ t w' _ _ HV.out.2.2.2.2.1 (hD.keep hb) (hq.keep hb))
  have HCL := Lib.hid (fun (w' : World) (s' : Value) (hb : Below w5.heap.size w5 w') (hs' : argsIn w' w'.heap.size t s') => fclo_any ds g t w' _ s' (HF.out.keep hb) hs')
  clear hq hb5 k0 k1 k2 b0 b1 b2 i0 i2 hD5 hN hNi f1 f2 hD hvi he
  go_wp2_with fail
  go_region_held3 (fun w' => w'.cell? ⟨fb, 0, none⟩ = some (.slice DA ds.length dcap) ∧ w'.cell? ⟨fb4, 1, none⟩ = some (.slice A5 N mm5)) (go_keep)
    (first
      | ((go_at_call 165); (with_reducible refine (HTM.out _ (by (repeat (first | with_reducible exact Below.refl _ _ | with_reducible refine below_alloc' ?_ _ | with_reducible refine below_step ?_ HL1.out | with_reducible refine below_step ?_ HL2.out | with_reducible refine below_step ?_ HL3.out | with_reducible refine below_step ?_ HL4.out | with_reducible refine below_step ?_ HL5.out | with_reducible refine below_drew ?_)))).mono ?_); rintro e6 w6 ⟨s6, rfl, hs6, hb6⟩; (obtain ⟨A6, cap6, rfl, -⟩ := argsInS_iff.1 hs6); (have HL1 := Lib.hid hb6); (have hbw : Below w5.heap.size w5 w6 := by (repeat (first | with_reducible exact Below.refl _ _ | with_reducible refine below_alloc' ?_ _ | with_reducible refine below_step ?_ HL1.out | with_reducible refine below_step ?_ HL2.out | with_reducible refine below_step ?_ HL3.out | with_reducible refine below_step ?_ HL4.out | with_reducible refine below_step ?_ HL5.out | with_reducible refine below_drew ?_))); (have HS6 := Lib.hid (term_in hs6)); (have x0 := cell_keep hbw HK.out.1); (have x1 := cell_keep hbw HK.out.2); clear hs6 hb6 hbw)
      | ((go_at_call 164); (with_reducible refine (HCL.out _ _ (by (repeat (first | with_reducible exact Below.refl _ _ | with_reducible refine below_alloc' ?_ _ | with_reducible refine below_step ?_ HL1.out | with_reducible refine below_step ?_ HL2.out | with_reducible refine below_step ?_ HL3.out | with_reducible refine below_step ?_ HL4.out | with_reducible refine below_step ?_ HL5.out | with_reducible refine below_drew ?_))) ((HS6.out.keep (below_size (by (repeat (first | with_reducible exact Below.refl _ _ | with_reducible refine below_alloc' ?_ _ | with_reducible refine below_step ?_ HL1.out | with_reducible refine below_step ?_ HL2.out | with_reducible refine below_step ?_ HL3.out | with_reducible refine below_step ?_ HL4.out | with_reducible refine below_step ?_ HL5.out | with_reducible refine below_drew ?_)))) (by (repeat (first | with_reducible exact Below.refl _ _ | with_reducible refine below_alloc' ?_ _ | with_reducible refine below_step ?_ HL1.out | with_reducible refine below_step ?_ HL2.out | with_reducible refine below_step ?_ HL3.out | with_reducible refine below_step ?_ HL4.out | with_reducible refine below_step ?_ HL5.out | with_reducible refine below_drew ?_)))))).mono ?_); rintro e7 w7 ⟨s7, ev7, rfl, hc7, hb7⟩; (obtain ⟨a7, rfl⟩ := hc7.2.form); (obtain ⟨A7, cap7, rfl, -⟩ := argsIn_iff.1 hc7.1); (have HL2 := Lib.hid hb7); (have hbw : Below w5.heap.size w5 w7 := by (repeat (first | with_reducible exact Below.refl _ _ | with_reducible refine below_alloc' ?_ _ | with_reducible refine below_step ?_ HL1.out | with_reducible refine below_step ?_ HL2.out | with_reducible refine below_step ?_ HL3.out | with_reducible refine below_step ?_ HL4.out | with_reducible refine below_step ?_ HL5.out | with_reducible refine below_drew ?_))); (have HC7 := Lib.hid hc7); (have y0 := cell_keep hbw HK.out.1); (have y1 := cell_keep hbw HK.out.2); clear hc7 hb7 hbw)
      | fail)
  all_goals go_wp2_with fail
  all_goals go_ret2
  all_goals (
    refine ⟨_, rfl, val_bind (xs := [v]) (ps := #[.pointer (some ⟨pb, 0, none⟩)]) (m := 1) (c := (t, g.env)) (ta := 63) (tb := 100) (tx := 96) rfl ?_ ?_ (Blk.new' (by simp; done)) (RowV.one (HQ.out.2.keep (by (repeat (first | with_reducible exact Below.refl _ _ | with_reducible refine below_alloc' ?_ _ | with_reducible refine below_step ?_ HL1.out | with_reducible refine below_step ?_ HL2.out | with_reducible refine below_step ?_ HL3.out | with_reducible refine below_step ?_ HL4.out | with_reducible refine below_step ?_ HL5.out | with_reducible refine below_drew ?_))))) (HC7.out.keep (by (repeat (first | with_reducible exact Below.refl _ _ | with_reducible refine below_alloc' ?_ _ | with_reducible refine below_step ?_ HL1.out | with_reducible refine below_step ?_ HL2.out | with_reducible refine below_step ?_ HL3.out | with_reducible refine below_step ?_ HL4.out | with_reducible refine below_step ?_ HL5.out | with_reducible refine below_drew ?_)))), below_step (below_step HB.out HL05.out) (by (repeat (first | with_reducible exact Below.refl _ _ | with_reducible refine below_alloc' ?_ _ | with_reducible refine below_step ?_ HL1.out | with_reducible refine below_step ?_ HL2.out | with_reducible refine below_step ?_ HL3.out | with_reducible refine below_step ?_ HL4.out | with_reducible refine below_step ?_ HL5.out | with_reducible refine below_drew ?_)))⟩
    · (first | (refine (Blk.new' ?_); simp; done) | (refine ((Blk.new' ?_)).alloc _; simp; done) | (refine (((Blk.new' ?_)).alloc _).alloc _; simp; done) | (refine ((Blk.new' ?_)).more HL1.out; simp; done) | (refine (((Blk.new' ?_)).more HL1.out).alloc _; simp; done) | (refine ((((Blk.new' ?_)).more HL1.out).alloc _).alloc _; simp; done) | (refine ((Blk.new' ?_)).more HL2.out; simp; done) | (refine (((Blk.new' ?_)).more HL2.out).alloc _; simp; done) | (refine ((((Blk.new' ?_)).more HL2.out).alloc _).alloc _; simp; done) | (refine (((Blk.new' ?_)).more HL1.out).more HL2.out; simp; done) | (refine ((((Blk.new' ?_)).more HL1.out).more HL2.out).alloc _; simp; done) | (refine (((((Blk.new' ?_)).more HL1.out).more HL2.out).alloc _).alloc _; simp; done) | (refine (Blk.drew' (Blk.new' ?_)); simp; done) | (refine ((Blk.drew' (Blk.new' ?_))).alloc _; simp; done) | (refine (((Blk.drew' (Blk.new' ?_))).alloc _).alloc _; simp; done) | (refine ((Blk.drew' (Blk.new' ?_))).more HL1.out; simp; done) | (refine (((Blk.drew' (Blk.new' ?_))).more HL1.out).alloc _; simp; done) | (refine ((((Blk.drew' (Blk.new' ?_))).more HL1.out).alloc _).alloc _; simp; done) | (refine ((Blk.drew' (Blk.new' ?_))).more HL2.out; simp; done) | (refine (((Blk.drew' (Blk.new' ?_))).more HL2.out).alloc _; simp; done) | (refine ((((Blk.drew' (Blk.new' ?_))).more HL2.out).alloc _).alloc _; simp; done) | (refine (((Blk.drew' (Blk.new' ?_))).more HL1.out).more HL2.out; simp; done) | (refine ((((Blk.drew' (Blk.new' ?_))).more HL1.out).more HL2.out).alloc _; simp; done) | (refine (((((Blk.drew' (Blk.new' ?_))).more HL1.out).more HL2.out).alloc _).alloc _; simp; done))
    · (first | (refine (Blk.new' ?_); simp; done) | (refine ((Blk.new' ?_)).alloc _; simp; done) | (refine (((Blk.new' ?_)).alloc _).alloc _; simp; done) | (refine (Blk.drew' (Blk.new' ?_)); simp; done) | (refine ((Blk.drew' (Blk.new' ?_))).alloc _; simp; done) | (refine (((Blk.drew' (Blk.new' ?_))).alloc _).alloc _; simp; done)))

set_option maxHeartbeats 3200000 in
theorem fpart_any (ds : List ND) (f : Nat) (hI : InferC ds f) (g : Fi) (k n : Int) (hk : k = 8 ∨ k = 9) (al : List T) (a : T) (r : Val) (w : World) (fp s : Value) (ha : al[0]? = some a) (hv : partQ (ds.map Prod.snd) f (inferQ (ds.map Prod.snd) f) g k a = some r)
    (hl : g.types.length + 3 * f ≤ 9000) (hf : FinderAt w ds g fp) (hs : argsIn w w.heap.size (.mk k n al) s) :
    Calls Tryz.prog 155 #[fp, .agg #[.int .i64 k, .int .i64 n, s]] w (IPost r w) := by
  obtain ⟨SA, scap, hse, -⟩ := argsIn_iff.1 hs
  simp only [T.al] at hse
  subst hse
  obtain ⟨ab, ao, rfl⟩ := arg_form (t := .mk k n al) hs ha
  unfold partQ at hv
  simp only [Option.bind_eq_some_iff] at hv
  obtain ⟨pv, hpv, hv⟩ := hv
  by_cases h6 : pv.k = 6
  case neg => rw [if_neg h6] at hv; cases hv
  rw [if_pos h6] at hv
  have h6b : (pv.k != 6) = false := by simpa using h6
  have h7b : (k != 7) = true := by rcases hk with rfl | rfl <;> decide
  have hba := below_alloc' (Below.refl w.heap.size w) (.cells #[.int .i64 k, .int .i64 n, .slice (some ⟨ab, ao, none⟩) al.length scap] 30)
  have htb := TB.new (t := .mk k n al) hs
  simp only [T.k, T.n, T.al] at htb
  obtain ⟨S0, m0, ha0⟩ := arg_at htb.args ha
  simp only [Nat.zero_mul, Nat.add_zero] at ha0
  have hlenN : 0 < al.length := (List.getElem?_eq_some_iff.1 ha).1
  have hlen0 : (0 : Int) < (al.length : Int) := by have := (List.getElem?_eq_some_iff.1 ha).1; omega
  have HT := Lib.hid (And.intro htb (And.intro ha0 (hf.keep hba)))
  have HB := Lib.hid hba
  have HV := Lib.hid (And.intro hI (And.intro hpv (And.intro hl hv)))
  obtain ⟨fb, -, -, -, rfl, -⟩ := hf
  clear hs hba htb ha0 hpv hl hI ha h6 hv
  have h0b : ((0 : Int) != 0) = false := by decide
  have HL1 := Lib.hid trivial
  have HL2 := Lib.hid trivial
  have HL3 := Lib.hid trivial
  have HL4 := Lib.hid trivial
  have HL5 := Lib.hid trivial
  obtain ⟨⟨k0, k1, k2⟩, -⟩ := HT.out.1.blk.tri
  obtain ⟨a0, a1, a2⟩ := HT.out.2.1.1
  simp only [T.k, T.n, T.al] at k0 k1 k2
  go_enter Tryz.func155, Tryz.ntmps155
  go_wp2_with fail
  generalize w.alloc (.cells #[.int .i64 k, .int .i64 n, .slice (some ⟨ab, ao, none⟩) al.length scap] 30) = w1 at *
  refine (HV.out.1 g a pv w1 _ _ HV.out.2.1 HV.out.2.2.1 HT.out.2.2 HT.out.2.1.2).mono ?_
  rintro e2 w2 ⟨p, rfl, hp, hb2⟩
  have HP := Lib.hid hp
  have HL0 := Lib.hid hb2
  obtain ⟨pb, rfl, p0, -⟩ := val_kn hp
  clear k0 k1 k2 a0 a1 a2
  obtain ⟨⟨k0, k1, k2⟩, -⟩ := (HT.out.1.keep hb2).blk.tri
  obtain ⟨a0, a1, a2⟩ := (HT.out.2.1.keep hb2).1
  simp only [T.k, T.n, T.al] at k0 k1 k2
  have hF2 := HT.out.2.2.keep hb2
  have HA2 := Lib.hid (HT.out.2.1.keep hb2).2
  clear hp hb2
  by_cases h8 : k = 8
  · have hv := HV.out.2.2.2
    rw [if_pos h8] at hv
    have h8b : (k == 8) = true := by simpa using h8
    obtain ⟨pb', pa, po, pm, xb, e, p2, hpl, px, hxv⟩ := val_arg0 HP.out hv
    cases e
    have HX := Lib.hid hxv
    clear hv hxv h8 hF2 hk
    go_wp2_with fail
    go_ret2
    exact ⟨_, rfl, HX.out, below_step HB.out HL0.out⟩
  · have hv := HV.out.2.2.2
    rw [if_neg h8] at hv
    simp only [Option.bind_eq_some_iff] at hv
    obtain ⟨c, hc, u, hu, x, hx, hv⟩ := hv
    have h8b : (k == 8) = false := by simpa using h8
    obtain ⟨pb', ca, co, cm, CS, csc, cea, e, c3, hcl, ⟨d0, d1, d2, d3⟩, hcv⟩ := val_clo0 HP.out hc
    cases e
    obtain ⟨fb', D, tv, ev, e, ⟨f0, f1, f2⟩, hD, -, -⟩ := id hF2
    cases e
    obtain ⟨DA, dcap, rfl, -⟩ := id hD
    have HK3 := Lib.hid (And.intro k2 (And.intro (And.intro a0 (And.intro a1 a2)) (And.intro c3 (And.intro (And.intro d0 (And.intro d1 (And.intro d2 d3))) f0))))
    have HVL := Lib.hid (fun (w' : World) (hb : Below w2.heap.size w2 w') => fvalue_any ds f g a u hu w' _ _ (hF2.keep hb) (HA2.out.keep hb.size hb))
    have HPT := Lib.hid (fun (w' : World) (up : Value) (hup : ValAt w' u up) => part_any 8 (.inl rfl) u x hx w' up hup)
    have HW := Lib.hid (show ∀ (w' : World) (k : Nat) (xp : Value), Below w2.heap.size w2 w' → ValAt w' x xp → Blk w' k 63 #[xp] →
        Calls Tryz.prog 60 #[.agg #[.int .i64 c.1.k, .int .i64 c.1.n, .slice CS c.1.al.length csc, .pointer cea], .slice DA ds.length dcap, .slice (some ⟨k, 0, none⟩) 1 1] w' (VPost r w') from
      fun w' k xp hb hx hB => with_any ds f (eval_any ds f).1 c [x] r hv w' _ _ _ (some ⟨k, 0, none⟩) 1 (by simp) (hD.keep hb) (hcv.keep hb) (vals_blk hB hx))
    clear hF2 hD hcv f1 f2 hc hu hx hv h8 hk
    go_wp2_with fail
    go_region_held3 (fun w' => w'.cell? ⟨w.heap.size, 2, none⟩ = some (.slice (some ⟨ab, ao, none⟩) al.length scap) ∧ (w'.cell? ⟨ab, ao, none⟩ = some (.int .i64 a.k) ∧ w'.cell? ⟨ab, ao + 1, none⟩ = some (.int .i64 a.n) ∧ w'.cell? ⟨ab, ao + 2, none⟩ = some (.slice S0 a.al.length m0)) ∧
        w'.cell? ⟨pb, 3, none⟩ = some (.slice (some ⟨ca, co, none⟩) pv.bs.length cm) ∧ (w'.cell? ⟨ca, co, none⟩ = some (.int .i64 c.1.k) ∧ w'.cell? ⟨ca, co + 1, none⟩ = some (.int .i64 c.1.n) ∧ w'.cell? ⟨ca, co + 2, none⟩ = some (.slice CS c.1.al.length csc) ∧ w'.cell? ⟨ca, co + 3, none⟩ = some (.pointer cea)) ∧ w'.cell? ⟨fb, 0, none⟩ = some (.slice DA ds.length dcap)) (go_keep)
      (first
        | ((go_at_call 112); (with_reducible refine (HVL.out _ (by (repeat (first | with_reducible exact Below.refl _ _ | with_reducible refine below_alloc' ?_ _ | with_reducible refine below_step ?_ HL1.out | with_reducible refine below_step ?_ HL2.out | with_reducible refine below_step ?_ HL3.out | with_reducible refine below_step ?_ HL4.out | with_reducible refine below_step ?_ HL5.out | with_reducible refine below_drew ?_)))).mono ?_); rintro e4 w4 ⟨up, rfl, hu4, hb4⟩; (obtain ⟨upb, rfl⟩ := hu4.form); (have HL1 := Lib.hid hb4); (have hbw : Below w2.heap.size w2 w4 := by (repeat (first | with_reducible exact Below.refl _ _ | with_reducible refine below_alloc' ?_ _ | with_reducible refine below_step ?_ HL1.out | with_reducible refine below_step ?_ HL2.out | with_reducible refine below_step ?_ HL3.out | with_reducible refine below_step ?_ HL4.out | with_reducible refine below_step ?_ HL5.out | with_reducible refine below_drew ?_))); (have HU4 := Lib.hid hu4); (have uk0 := cell_keep hbw HK3.out.1); (have uk1 := cell_keep hbw HK3.out.2.1.1); (have uk2 := cell_keep hbw HK3.out.2.1.2.1); (have uk3 := cell_keep hbw HK3.out.2.1.2.2); (have uk4 := cell_keep hbw HK3.out.2.2.1); (have uk5 := cell_keep hbw HK3.out.2.2.2.1.1); (have uk6 := cell_keep hbw HK3.out.2.2.2.1.2.1); (have uk7 := cell_keep hbw HK3.out.2.2.2.1.2.2.1); (have uk8 := cell_keep hbw HK3.out.2.2.2.1.2.2.2); (have uk9 := cell_keep hbw HK3.out.2.2.2.2); clear hu4 hb4 hbw)
        | ((go_at_call 58); (with_reducible refine (HPT.out _ _ (HU4.out.keep (by (repeat (first | with_reducible exact Below.refl _ _ | with_reducible refine below_alloc' ?_ _ | with_reducible refine below_step ?_ HL1.out | with_reducible refine below_step ?_ HL2.out | with_reducible refine below_step ?_ HL3.out | with_reducible refine below_step ?_ HL4.out | with_reducible refine below_step ?_ HL5.out | with_reducible refine below_drew ?_))))).mono ?_); rintro e5 w5 ⟨xp, rfl, hx5, hb5⟩; (obtain ⟨xpb, rfl⟩ := hx5.form); (have HL2 := Lib.hid hb5); (have hbw : Below w2.heap.size w2 w5 := by (repeat (first | with_reducible exact Below.refl _ _ | with_reducible refine below_alloc' ?_ _ | with_reducible refine below_step ?_ HL1.out | with_reducible refine below_step ?_ HL2.out | with_reducible refine below_step ?_ HL3.out | with_reducible refine below_step ?_ HL4.out | with_reducible refine below_step ?_ HL5.out | with_reducible refine below_drew ?_))); (have HX5 := Lib.hid hx5); (have vk0 := cell_keep hbw HK3.out.1); (have vk1 := cell_keep hbw HK3.out.2.1.1); (have vk2 := cell_keep hbw HK3.out.2.1.2.1); (have vk3 := cell_keep hbw HK3.out.2.1.2.2); (have vk4 := cell_keep hbw HK3.out.2.2.1); (have vk5 := cell_keep hbw HK3.out.2.2.2.1.1); (have vk6 := cell_keep hbw HK3.out.2.2.2.1.2.1); (have vk7 := cell_keep hbw HK3.out.2.2.2.1.2.2.1); (have vk8 := cell_keep hbw HK3.out.2.2.2.1.2.2.2); (have vk9 := cell_keep hbw HK3.out.2.2.2.2); clear hx5 hb5 hbw)
        | ((go_at_call 60); (with_reducible refine (HW.out _ _ _ (by (repeat (first | with_reducible exact Below.refl _ _ | with_reducible refine below_alloc' ?_ _ | with_reducible refine below_step ?_ HL1.out | with_reducible refine below_step ?_ HL2.out | with_reducible refine below_step ?_ HL3.out | with_reducible refine below_step ?_ HL4.out | with_reducible refine below_step ?_ HL5.out | with_reducible refine below_drew ?_))) (HX5.out.keep (by (repeat (first | with_reducible exact Below.refl _ _ | with_reducible refine below_alloc' ?_ _ | with_reducible refine below_step ?_ HL1.out | with_reducible refine below_step ?_ HL2.out | with_reducible refine below_step ?_ HL3.out | with_reducible refine below_step ?_ HL4.out | with_reducible refine below_step ?_ HL5.out | with_reducible refine below_drew ?_)))) (by (first | (refine (Blk.new' ?_); simp; done) | (refine ((Blk.new' ?_)).alloc _; simp; done) | (refine ((Blk.new' ?_)).more HL1.out; simp; done) | (refine (((Blk.new' ?_)).more HL1.out).alloc _; simp; done) | (refine ((Blk.new' ?_)).more HL2.out; simp; done) | (refine (((Blk.new' ?_)).more HL2.out).alloc _; simp; done) | (refine (((Blk.new' ?_)).more HL1.out).more HL2.out; simp; done) | (refine ((((Blk.new' ?_)).more HL1.out).more HL2.out).alloc _; simp; done) | (refine (Blk.drew' (Blk.new' ?_)); simp; done) | (refine ((Blk.drew' (Blk.new' ?_))).alloc _; simp; done) | (refine ((Blk.drew' (Blk.new' ?_))).more HL1.out; simp; done) | (refine (((Blk.drew' (Blk.new' ?_))).more HL1.out).alloc _; simp; done) | (refine ((Blk.drew' (Blk.new' ?_))).more HL2.out; simp; done) | (refine (((Blk.drew' (Blk.new' ?_))).more HL2.out).alloc _; simp; done) | (refine (((Blk.drew' (Blk.new' ?_))).more HL1.out).more HL2.out; simp; done) | (refine ((((Blk.drew' (Blk.new' ?_))).more HL1.out).more HL2.out).alloc _; simp; done)))).mono ?_); rintro e6 w6 ⟨vp, rfl, hv6, hb6⟩; (obtain ⟨vpb, rfl⟩ := hv6.form); (have HL3 := Lib.hid hb6); (have hbw : Below w2.heap.size w2 w6 := by (repeat (first | with_reducible exact Below.refl _ _ | with_reducible refine below_alloc' ?_ _ | with_reducible refine below_step ?_ HL1.out | with_reducible refine below_step ?_ HL2.out | with_reducible refine below_step ?_ HL3.out | with_reducible refine below_step ?_ HL4.out | with_reducible refine below_step ?_ HL5.out | with_reducible refine below_drew ?_))); (have HV6 := Lib.hid hv6); (have zk0 := cell_keep hbw HK3.out.1); (have zk1 := cell_keep hbw HK3.out.2.1.1); (have zk2 := cell_keep hbw HK3.out.2.1.2.1); (have zk3 := cell_keep hbw HK3.out.2.1.2.2); (have zk4 := cell_keep hbw HK3.out.2.2.1); (have zk5 := cell_keep hbw HK3.out.2.2.2.1.1); (have zk6 := cell_keep hbw HK3.out.2.2.2.1.2.1); (have zk7 := cell_keep hbw HK3.out.2.2.2.1.2.2.1); (have zk8 := cell_keep hbw HK3.out.2.2.2.1.2.2.2); (have zk9 := cell_keep hbw HK3.out.2.2.2.2); clear hv6 hb6 hbw)
        | fail)
    all_goals go_wp2_with fail
    all_goals go_ret2
    all_goals exact ⟨_, rfl, HV6.out, below_step (below_step HB.out HL0.out) (show Below w2.heap.size w2 w6 by (repeat (first | with_reducible exact Below.refl _ _ | with_reducible refine below_alloc' ?_ _ | with_reducible refine below_step ?_ HL1.out | with_reducible refine below_step ?_ HL2.out | with_reducible refine below_step ?_ HL3.out | with_reducible refine below_step ?_ HL4.out | with_reducible refine below_step ?_ HL5.out | with_reducible refine below_drew ?_)))⟩
end Go.Proofs.YtjboibbgigkhkaaGreatDoor

