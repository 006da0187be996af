/- parser.height: a type of types: strconv.Atoi and Itoa by the shelf's contracts. -/
import Derived.Test.YtjboibbgigkhkaaDoorPName
import Derived.Test.YtjboibbgigkhkaaDoorPShelf
import Derived.Lib.AppendIntMem
import Derived.Lib.AtoiErrMem
import Derived.Lib.AtoiAllCases
namespace Go.Proofs.YtjboibbgigkhkaaDoor
open Go.RowKit
set_option maxRecDepth 100000

/-- what the call reads of the library's variables -/
def Vars (w : World) : Prop := 8 ≤ w.heap.size ∧ Lib.TabIs Tryd.prog w "internal/strconv.uint64pow10" .u64 Lib.pow10Tab ∧ (∃ tp p, w.var? Tryd.prog "strconv.ErrSyntax" = some #[.iface tp p]) ∧ (∃ tp p, w.var? Tryd.prog "strconv.ErrRange" = some #[.iface tp p])

theorem gPow : Tryd.prog.globalNamed "internal/strconv.uint64pow10" = some 1 := by kernel_rfl
theorem gSyn : Tryd.prog.globalNamed "strconv.ErrSyntax" = some 4 := by kernel_rfl
theorem gRan : Tryd.prog.globalNamed "strconv.ErrRange" = some 5 := by kernel_rfl

theorem Vars.same {w w' : World} (h : Vars w) (hs : w.heap.size ≤ w'.heap.size) (hb : ∀ g, g < 8 → w'.heap[g]? = w.heap[g]?) : Vars w' := by
  have key : ∀ name g, Tryd.prog.globalNamed name = some g → g < 8 → w'.var? Tryd.prog name = w.var? Tryd.prog name := by
    intro name g hg hl
    unfold World.var?
    rw [hg]
    simp only [Option.bind_some]
    rw [hb g hl]
  obtain ⟨h0, h1, h2, h3⟩ := h
  refine ⟨by omega, ?_, ?_, ?_⟩
  · unfold Lib.TabIs at h1 ⊢
    rw [key _ _ gPow (by decide)]; exact h1
  · rw [key _ _ gSyn (by decide)]; exact h2
  · rw [key _ _ gRan (by decide)]; exact h3
theorem Vars.but {w w' : World} {R n : Nat} (h : Vars w) (hb : But R n w w') (hR : 8 ≤ R) (hn : 8 ≤ n) : Vars w' := h.same hb.size fun g hg => hb.block g (by omega) (by omega)
theorem Vars.below {w w' : World} (h : Vars w) (hb : Below w.heap.size w w') : Vars w' := h.same hb.size fun g hg => hb.block g (by have := h.1; omega)

/-- the number that a text spells, if it is spelt so -/
def canon (s : Str) : Option Int := match Lib.atoiAll s with
  | .ok v => if Lib.itoa v = s then some v else none
  | _ => none

theorem atoi_any (s : Str) (hs : s.length ≤ 1000000000000) (w : World) (hV : Vars w) :
    Calls Tryd.prog 72 #[.string ⟨s.toArray⟩] w (fun e w' => ∃ n ev, e = .returned (.tuple #[.int .i64 n, ev]) ∧ ((Lib.atoiAll s = .ok n ∧ ev = .nilIface) ∨ (canon s = none ∧ ∃ t p, ev = .iface t p)) ∧ Below w.heap.size w w') := by
  rcases h : Lib.atoiAll s with v | _ | _
  · refine (Tryd.strconv_Atoi_ok ⟨s.toArray⟩ (by show s.length ≤ _; omega) v (by simpa using h) w).mono ?_
    rintro e w' ⟨rfl, hw⟩
    refine ⟨v, _, rfl, .inl ⟨rfl, rfl⟩, ?_⟩
    rcases hw with rfl | ⟨t, rfl⟩
    · exact Below.refl _ _
    · exact Lib.bytesWorld_below _ _ _
  · obtain ⟨tp, p, hv⟩ := hV.2.2.1
    refine (Tryd.strconv_Atoi_syntax_var ⟨s.toArray⟩ (by show s.length ≤ _; omega) (fun v e => by simp [h] at e) (fun e => by simp [h] at e) tp p w hv).mono ?_
    rintro e w' ⟨N, rfl, -, -, hb⟩
    exact ⟨_, _, rfl, .inr ⟨by unfold canon; rw [h], _, _, rfl⟩, hb⟩
  · obtain ⟨tp, p, hv⟩ := hV.2.2.2
    refine (Tryd.strconv_Atoi_range_var ⟨s.toArray⟩ (by show s.length ≤ _; omega) (by simpa using h) tp p w hv).mono ?_
    rintro e w' ⟨N, rfl, -, -, hb⟩
    exact ⟨_, _, rfl, .inr ⟨by unfold canon; rw [h], _, _, rfl⟩, hb⟩

theorem itoa_any (n : Int) (h0 : -9223372036854775808 ≤ n) (h1 : n ≤ 9223372036854775807) (w : World) (hV : Vars w) :
    Calls Tryd.prog 34 #[.int .i64 n] w (fun e w' => e = .returned (.string ⟨(Lib.itoa n).toArray⟩) ∧ Below w.heap.size w w') := by
  refine (Tryd.strconv_Itoa n h0 h1 w hV.2.1).mono ?_
  rintro e w' ⟨rfl, k, os, rfl⟩
  exact ⟨rfl, Lib.below_grow _ _ (Nat.le_refl _) _ _⟩

theorem height_none {cn : Str → Option Int} {d : Str} {p : PS} (h : cn d = none) : height cn d p = (T0, p.fail 2) := by unfold height; rw [h]
theorem height_far {cn : Str → Option Int} {d : Str} {p : PS} {n : Int} (h : cn d = some n) (hn : n < 0 ∨ 3 < n) : height cn d p = (T0, p.fail 3) := by unfold height; rw [h]; exact if_pos hn
theorem height_some {cn : Str → Option Int} {d : Str} {p : PS} {n : Int} (h : cn d = some n) (hn : ¬ (n < 0 ∨ 3 < n)) : height cn d p = (.mk 2 n [], p) := by unfold height; rw [h]; exact if_neg hn

/-- the answer's box is filled -/
theorem box_end {w w3 : World} {R L : Nat} {D a b c : Value} {p : PS} (hR : PBox w3 R L D p) (hb : But R w.heap.size w w3) (hRw : R < w.heap.size) (hLw : L < w.heap.size) :
    PBox (((w3.setCell ⟨w.heap.size, 0, none⟩ a).setCell ⟨w.heap.size, 1, none⟩ b).setCell ⟨w.heap.size, 2, none⟩ c) R L D p ∧
      But R w.heap.size w (((w3.setCell ⟨w.heap.size, 0, none⟩ a).setCell ⟨w.heap.size, 1, none⟩ b).setCell ⟨w.heap.size, 2, none⟩ c) :=
  ⟨((hR.far (a := ⟨w.heap.size, 0, none⟩) (by simp; omega) (by simp; omega) _).far (a := ⟨w.heap.size, 1, none⟩) (by simp; omega) (by simp; omega) _).far (a := ⟨w.heap.size, 2, none⟩) (by simp; omega) (by simp; omega) _,
    ((hb.setCell (p := ⟨w.heap.size, 0, none⟩) (Nat.le_refl _) _).setCell (p := ⟨w.heap.size, 1, none⟩) (Nat.le_refl _) _).setCell (p := ⟨w.heap.size, 2, none⟩) (Nat.le_refl _) _⟩

set_option maxHeartbeats 1600000 in
theorem pheight_any (d : Str) (hd : d.length ≤ 1000000000000) (R L : Nat) (D : Value) (p : PS) (w : World) (hR : PBox w R L D p) (hV : Vars w) :
    Calls Tryd.prog 54 #[.pointer (some ⟨R, 0, none⟩), .string ⟨d.toArray⟩] w (PPost (atomV (height canon d p).1) (height canon d p).2 R L D w) := by
  have hRl := hR.lt
  have hLl := hR.ltL
  have HP := Lib.hid hR
  have hb0 := (Below.refl w.heap.size w).alloc (Nat.le_refl _) (.cells #[.int .i64 0, .int .i64 0, .slice none 0 0] 24)
  have hblk := Blk.new w 24 #[.int .i64 0, .int .i64 0, .slice none 0 0]
  have HV := Lib.hid hV
  clear hR hV
  go_enter Tryd.func54, Tryd.ntmps54
  go_wp2_with fail
  refine (atoi_any d hd _ (HV.out.below hb0)).mono ?_
  rintro e w1 ⟨n, ev, rfl, hcase, hb1⟩
  have hbb := hb0.trans (hb1.mono hb0.size)
  have hB1 := hblk.below hb1 (by simp)
  have hR1 := HP.out.below hbb
  have hV1 := HV.out.below hbb
  have hs1 := hbb.size
  have HB1 := Lib.hid (And.intro hbb (And.intro hR1 hV1))
  clear hb1 hbb hblk hb0 hR1 hV1
  rcases hcase with ⟨hok, rfl⟩ | ⟨hno, tp, pp, rfl⟩
  · obtain ⟨hn0, hn1⟩ := Lib.atoiAll_bounds hok
    have HOK := Lib.hid hok
    clear hok
    go_wp2_with fail
    refine (itoa_any n hn0 hn1 w1 HB1.out.2.2).mono ?_
    rintro e w2 ⟨rfl, hb2⟩
    have hB2 := hB1.below hb2 hB1.lt
    have hbb := HB1.out.1.trans (hb2.mono hs1)
    have hR2 := HB1.out.2.1.below hb2
    have hs2 := hbb.size
    have HB2 := Lib.hid (And.intro hbb hR2)
    clear hb2 hbb hR2 hB1 HB1
    by_cases he : Lib.itoa n = d
    · have heb : (Lib.itoa n == d) = true := by simpa using he
      have HC := Lib.hid (show canon d = some n from by unfold canon; rw [HOK.out]; exact if_pos he)
      clear he
      by_cases hn : n < 0 ∨ 3 < n
      · have HH := Lib.hid (height_far (p := p) HC.out hn)
        obtain ⟨⟨d0, d1, d2⟩, e0, e1, e2⟩ := hB2.tri
        rcases hn with hn | hn
        · go_wp2_with fail
          refine (pfail_any _ R L D p 3 HB2.out.2).mono ?_
          rintro e w3 ⟨rfl, hR3, hb3⟩
          obtain ⟨⟨d0, d1, d2⟩, e0, e1, e2⟩ := (hB2.but hb3 hB2.lt (by omega)).tri
          have HE := Lib.hid (And.intro hR3 ((but_of (X := R) HB2.out.1).trans (hb3.mono hs2)))
          clear hR3 hb3 hB2
          go_wp2_with fail
          refine bodyPost_ret (v := .agg #[.int .i64 0, .int .i64 0, .slice none 0 0]) (by simp [results, Tryd.results54, go_sem, d0, d1, d2]) rfl ?_
          rw [HH.out]
          exact ⟨rfl, box_end HE.out.1 HE.out.2 hRl hLl⟩
        · have hn' : ¬ n < 0 := by omega
          go_wp2_with fail
          refine (pfail_any _ R L D p 3 HB2.out.2).mono ?_
          rintro e w3 ⟨rfl, hR3, hb3⟩
          obtain ⟨⟨d0, d1, d2⟩, e0, e1, e2⟩ := (hB2.but hb3 hB2.lt (by omega)).tri
          have HE := Lib.hid (And.intro hR3 ((but_of (X := R) HB2.out.1).trans (hb3.mono hs2)))
          clear hR3 hb3 hB2
          go_wp2_with fail
          refine bodyPost_ret (v := .agg #[.int .i64 0, .int .i64 0, .slice none 0 0]) (by simp [results, Tryd.results54, go_sem, d0, d1, d2]) rfl ?_
          rw [HH.out]
          exact ⟨rfl, box_end HE.out.1 HE.out.2 hRl hLl⟩
      · have HH := Lib.hid (height_some (p := p) HC.out hn)
        have hn1 : ¬ n < 0 := fun h => hn (.inl h)
        have hn2 : ¬ 3 < n := fun h => hn (.inr h)
        obtain ⟨⟨d0, d1, d2⟩, e0, e1, e2⟩ := hB2.tri
        clear hn
        go_wp2_with fail
        refine bodyPost_ret (v := .agg #[.int .i64 2, .int .i64 n, .slice none 0 0]) (by simp [results, Tryd.results54, go_sem, d0, d1, d2]) rfl ?_
        rw [HH.out]
        exact ⟨rfl, box_end HB2.out.2 (but_of HB2.out.1) hRl hLl⟩
    · have heb : (Lib.itoa n == d) = false := by simpa using he
      have HC := Lib.hid (show canon d = none from by unfold canon; rw [HOK.out]; exact if_neg he)
      have HH := Lib.hid (height_none (p := p) HC.out)
      clear he
      go_wp2_with fail
      refine (pfail_any _ R L D p 2 HB2.out.2).mono ?_
      rintro e w3 ⟨rfl, hR3, hb3⟩
      obtain ⟨⟨d0, d1, d2⟩, e0, e1, e2⟩ := (hB2.but hb3 hB2.lt (by omega)).tri
      have HE := Lib.hid (And.intro hR3 ((but_of (X := R) HB2.out.1).trans (hb3.mono hs2)))
      clear hR3 hb3 hB2
      go_wp2_with fail
      refine bodyPost_ret (v := .agg #[.int .i64 0, .int .i64 0, .slice none 0 0]) (by simp [results, Tryd.results54, go_sem, d0, d1, d2]) rfl ?_
      rw [HH.out]
      exact ⟨rfl, box_end HE.out.1 HE.out.2 hRl hLl⟩
  · have HH := Lib.hid (height_none (p := p) hno)
    clear hno
    go_wp2_with fail
    refine (pfail_any _ R L D p 2 HB1.out.2.1).mono ?_
    rintro e w3 ⟨rfl, hR3, hb3⟩
    obtain ⟨⟨d0, d1, d2⟩, e0, e1, e2⟩ := (hB1.but hb3 hB1.lt (by omega)).tri
    have HE := Lib.hid (And.intro hR3 ((but_of (X := R) HB1.out.1).trans (hb3.mono hs1)))
    clear hR3 hb3 hB1
    go_wp2_with fail
    refine bodyPost_ret (v := .agg #[.int .i64 0, .int .i64 0, .slice none 0 0]) (by simp [results, Tryd.results54, go_sem, d0, d1, d2]) rfl ?_
    rw [HH.out]
    exact ⟨rfl, box_end HE.out.1 HE.out.2 hRl hLl⟩
end Go.Proofs.YtjboibbgigkhkaaDoor
