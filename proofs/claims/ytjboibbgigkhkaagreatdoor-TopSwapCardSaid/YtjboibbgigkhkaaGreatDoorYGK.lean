/- parser.height: a type of types: strconv.Atoi and Itoa by the shelf's contracts. -/
import Derived.Test.YtjboibbgigkhkaaGreatDoorYGJ
import Derived.Test.YtjboibbgigkhkaaGreatDoorYPShelf
import Derived.Lib.AppendIntMem
import Derived.Lib.AtoiErrMem
import Derived.Lib.AtoiAllCases
import Derived.Test.YtjboibbgigkhkaaGreatDoorYEvalT
import Derived.Test.YtjboibbgigkhkaaGreatDoorYGH
import Derived.Test.YtjboibbgigkhkaaGreatDoorYGB
import Derived.Test.YtjboibbgigkhkaaGreatDoorYSame
import Derived.Test.YtjboibbgigkhkaaGreatDoorYGI
import Derived.Test.YtjboibbgigkhkaaGreatDoorYGA
namespace Go.Proofs.YtjboibbgigkhkaaGreatDoor
open Go.RowKit
set_option maxRecDepth 100000

/-- what the call reads of the library's variables -/
def Vars (w : World) : Prop := 8 ≤ w.heap.size ∧ Lib.TabIs Tryz.prog w "internal/strconv.uint64pow10" .u64 Lib.pow10Tab ∧ (∃ tp p, w.var? Tryz.prog "strconv.ErrSyntax" = some #[.iface tp p]) ∧ (∃ tp p, w.var? Tryz.prog "strconv.ErrRange" = some #[.iface tp p])

theorem gPow : Tryz.prog.globalNamed "internal/strconv.uint64pow10" = some 3 := by kernel_rfl
theorem gSyn : Tryz.prog.globalNamed "strconv.ErrSyntax" = some 4 := by kernel_rfl
theorem gRan : Tryz.prog.globalNamed "strconv.ErrRange" = some 5 := by kernel_rfl

theorem Vars.same {w w' : World} (h : Vars w) (hs : w.heap.size ≤ w'.heap.size) (hb : ∀ g, g < 8 → w'.heap[g]? = w.heap[g]?) : Vars w' := by
  have key : ∀ name g, Tryz.prog.globalNamed name = some g → g < 8 → w'.var? Tryz.prog name = w.var? Tryz.prog name := by
    intro name g hg hl
    unfold World.var?
    rw [hg]
    simp only [Option.bind_some]
    rw [hb g hl]
  obtain ⟨h0, h1, h2, h3⟩ := h
  refine ⟨by omega, ?_, ?_, ?_⟩
  · unfold Lib.TabIs at h1 ⊢
    rw [key _ _ gPow (by decide)]; exact h1
  · rw [key _ _ gSyn (by decide)]; exact h2
  · rw [key _ _ gRan (by decide)]; exact h3
theorem Vars.but {w w' : World} {R n : Nat} (h : Vars w) (hb : But R n w w') (hR : 8 ≤ R) (hn : 8 ≤ n) : Vars w' := h.same hb.size fun g hg => hb.block g (by omega) (by omega)
theorem Vars.below {w w' : World} (h : Vars w) (hb : Below w.heap.size w w') : Vars w' := h.same hb.size fun g hg => hb.block g (by have := h.1; omega)

/-- the number that a text spells, if it is spelt so -/
def canon (s : Str) : Option Int := match Lib.atoiAll s with
  | .ok v => if Lib.itoa v = s then some v else none
  | _ => none

theorem atoi_any (s : Str) (hs : s.length ≤ 1000000000000) (w : World) (hV : Vars w) :
    Calls Tryz.prog 97 #[.string ⟨s.toArray⟩] w (fun e w' => ∃ n ev, e = .returned (.tuple #[.int .i64 n, ev]) ∧ ((Lib.atoiAll s = .ok n ∧ ev = .nilIface) ∨ (canon s = none ∧ ∃ t p, ev = .iface t p)) ∧ Below w.heap.size w w') := by
  rcases h : Lib.atoiAll s with v | _ | _
  · refine (Tryz.strconv_Atoi_ok ⟨s.toArray⟩ (by show s.length ≤ _; omega) v (by simpa using h) w).mono ?_
    rintro e w' ⟨rfl, hw⟩
    refine ⟨v, _, rfl, .inl ⟨rfl, rfl⟩, ?_⟩
    rcases hw with rfl | ⟨t, rfl⟩
    · exact Below.refl _ _
    · exact Lib.bytesWorld_below _ _ _
  · obtain ⟨tp, p, hv⟩ := hV.2.2.1
    refine (Tryz.strconv_Atoi_syntax_var ⟨s.toArray⟩ (by show s.length ≤ _; omega) (fun v e => by simp [h] at e) (fun e => by simp [h] at e) tp p w hv).mono ?_
    rintro e w' ⟨N, rfl, -, -, hb⟩
    exact ⟨_, _, rfl, .inr ⟨by unfold canon; rw [h], _, _, rfl⟩, hb⟩
  · obtain ⟨tp, p, hv⟩ := hV.2.2.2
    refine (Tryz.strconv_Atoi_range_var ⟨s.toArray⟩ (by show s.length ≤ _; omega) (by simpa using h) tp p w hv).mono ?_
    rintro e w' ⟨N, rfl, -, -, hb⟩
    exact ⟨_, _, rfl, .inr ⟨by unfold canon; rw [h], _, _, rfl⟩, hb⟩

theorem itoa_any (n : Int) (h0 : -9223372036854775808 ≤ n) (h1 : n ≤ 9223372036854775807) (w : World) (hV : Vars w) :
    Calls Tryz.prog 42 #[.int .i64 n] w (fun e w' => e = .returned (.string ⟨(Lib.itoa n).toArray⟩) ∧ Below w.heap.size w w') := by
  refine (Tryz.strconv_Itoa n h0 h1 w hV.2.1).mono ?_
  rintro e w' ⟨rfl, k, os, rfl⟩
  exact ⟨rfl, Lib.below_grow _ _ (Nat.le_refl _) _ _⟩

theorem height_none {cn : Str → Option Int} {d : Str} {p : PS} (h : cn d = none) : height cn d p = (T0, p.fail 2) := by unfold height; rw [h]
theorem height_far {cn : Str → Option Int} {d : Str} {p : PS} {n : Int} (h : cn d = some n) (hn : n < 0 ∨ 3 < n) : height cn d p = (T0, p.fail 3) := by unfold height; rw [h]; exact if_pos hn
theorem height_some {cn : Str → Option Int} {d : Str} {p : PS} {n : Int} (h : cn d = some n) (hn : ¬ (n < 0 ∨ 3 < n)) : height cn d p = (.mk 2 n [], p) := by unfold height; rw [h]; exact if_neg hn

/-- the answer's box is filled -/
theorem box_end {w w3 : World} {R L : Nat} {D a b c : Value} {p : PS} (hR : PBox w3 R L D p) (hb : But R w.heap.size w w3) (hRw : R < w.heap.size) (hLw : L < w.heap.size) :
    PBox (((w3.setCell ⟨w.heap.size, 0, none⟩ a).setCell ⟨w.heap.size, 1, none⟩ b).setCell ⟨w.heap.size, 2, none⟩ c) R L D p ∧
      But R w.heap.size w (((w3.setCell ⟨w.heap.size, 0, none⟩ a).setCell ⟨w.heap.size, 1, none⟩ b).setCell ⟨w.heap.size, 2, none⟩ c) :=
  ⟨((hR.far (a := ⟨w.heap.size, 0, none⟩) (by simp; omega) (by simp; omega) _).far (a := ⟨w.heap.size, 1, none⟩) (by simp; omega) (by simp; omega) _).far (a := ⟨w.heap.size, 2, none⟩) (by simp; omega) (by simp; omega) _,
    ((hb.setCell (p := ⟨w.heap.size, 0, none⟩) (Nat.le_refl _) _).setCell (p := ⟨w.heap.size, 1, none⟩) (Nat.le_refl _) _).setCell (p := ⟨w.heap.size, 2, none⟩) (Nat.le_refl _) _⟩

set_option maxHeartbeats 1600000 in
theorem pheight_any (d : Str) (hd : d.length ≤ 1000000000000) (R L : Nat) (D : Value) (p : PS) (w : World) (hR : PBox w R L D p) (hV : Vars w) :
    Calls Tryz.prog 72 #[.pointer (some ⟨R, 0, none⟩), .string ⟨d.toArray⟩] w (PPost (atomV (height canon d p).1) (height canon d p).2 R L D w) := by
  have hRl := hR.lt
  have hLl := hR.ltL
  have HP := Lib.hid hR
  have hb0 := (Below.refl w.heap.size w).alloc (Nat.le_refl _) (.cells #[.int .i64 0, .int .i64 0, .slice none 0 0] 30)
  have hblk := Blk.new w 30 #[.int .i64 0, .int .i64 0, .slice none 0 0]
  have HV := Lib.hid hV
  clear hR hV
  go_enter Tryz.func72, Tryz.ntmps72
  go_wp2_with fail
  refine (atoi_any d hd _ (HV.out.below hb0)).mono ?_
  rintro e w1 ⟨n, ev, rfl, hcase, hb1⟩
  have hbb := hb0.trans (hb1.mono hb0.size)
  have hB1 := hblk.below hb1 (by simp)
  have hR1 := HP.out.below hbb
  have hV1 := HV.out.below hbb
  have hs1 := hbb.size
  have HB1 := Lib.hid (And.intro hbb (And.intro hR1 hV1))
  clear hb1 hbb hblk hb0 hR1 hV1
  rcases hcase with ⟨hok, rfl⟩ | ⟨hno, tp, pp, rfl⟩
  · obtain ⟨hn0, hn1⟩ := Lib.atoiAll_bounds hok
    have HOK := Lib.hid hok
    clear hok
    go_wp2_with fail
    refine (itoa_any n hn0 hn1 w1 HB1.out.2.2).mono ?_
    rintro e w2 ⟨rfl, hb2⟩
    have hB2 := hB1.below hb2 hB1.lt
    have hbb := HB1.out.1.trans (hb2.mono hs1)
    have hR2 := HB1.out.2.1.below hb2
    have hs2 := hbb.size
    have HB2 := Lib.hid (And.intro hbb hR2)
    clear hb2 hbb hR2 hB1 HB1
    by_cases he : Lib.itoa n = d
    · have heb : (Lib.itoa n == d) = true := by simpa using he
      have HC := Lib.hid (show canon d = some n from by unfold canon; rw [HOK.out]; exact if_pos he)
      clear he
      by_cases hn : n < 0 ∨ 3 < n
      · have HH := Lib.hid (height_far (p := p) HC.out hn)
        obtain ⟨⟨d0, d1, d2⟩, e0, e1, e2⟩ := hB2.tri
        rcases hn with hn | hn
        · go_wp2_with fail
          refine (pfail_any _ R L D p 3 HB2.out.2).mono ?_
          rintro e w3 ⟨rfl, hR3, hb3⟩
          obtain ⟨⟨d0, d1, d2⟩, e0, e1, e2⟩ := (hB2.but hb3 hB2.lt (by omega)).tri
          have HE := Lib.hid (And.intro hR3 ((but_of (X := R) HB2.out.1).trans (hb3.mono hs2)))
          clear hR3 hb3 hB2
          go_wp2_with fail
          refine bodyPost_ret (v := .agg #[.int .i64 0, .int .i64 0, .slice none 0 0]) (by simp [results, Tryz.results72, go_sem, d0, d1, d2]) rfl ?_
          rw [HH.out]
          exact ⟨rfl, box_end HE.out.1 HE.out.2 hRl hLl⟩
        · have hn' : ¬ n < 0 := by omega
          go_wp2_with fail
          refine (pfail_any _ R L D p 3 HB2.out.2).mono ?_
          rintro e w3 ⟨rfl, hR3, hb3⟩
          obtain ⟨⟨d0, d1, d2⟩, e0, e1, e2⟩ := (hB2.but hb3 hB2.lt (by omega)).tri
          have HE := Lib.hid (And.intro hR3 ((but_of (X := R) HB2.out.1).trans (hb3.mono hs2)))
          clear hR3 hb3 hB2
          go_wp2_with fail
          refine bodyPost_ret (v := .agg #[.int .i64 0, .int .i64 0, .slice none 0 0]) (by simp [results, Tryz.results72, go_sem, d0, d1, d2]) rfl ?_
          rw [HH.out]
          exact ⟨rfl, box_end HE.out.1 HE.out.2 hRl hLl⟩
      · have HH := Lib.hid (height_some (p := p) HC.out hn)
        have hn1 : ¬ n < 0 := fun h => hn (.inl h)
        have hn2 : ¬ 3 < n := fun h => hn (.inr h)
        obtain ⟨⟨d0, d1, d2⟩, e0, e1, e2⟩ := hB2.tri
        clear hn
        go_wp2_with fail
        refine bodyPost_ret (v := .agg #[.int .i64 2, .int .i64 n, .slice none 0 0]) (by simp [results, Tryz.results72, go_sem, d0, d1, d2]) rfl ?_
        rw [HH.out]
        exact ⟨rfl, box_end HB2.out.2 (but_of HB2.out.1) hRl hLl⟩
    · have heb : (Lib.itoa n == d) = false := by simpa using he
      have HC := Lib.hid (show canon d = none from by unfold canon; rw [HOK.out]; exact if_neg he)
      have HH := Lib.hid (height_none (p := p) HC.out)
      clear he
      go_wp2_with fail
      refine (pfail_any _ R L D p 2 HB2.out.2).mono ?_
      rintro e w3 ⟨rfl, hR3, hb3⟩
      obtain ⟨⟨d0, d1, d2⟩, e0, e1, e2⟩ := (hB2.but hb3 hB2.lt (by omega)).tri
      have HE := Lib.hid (And.intro hR3 ((but_of (X := R) HB2.out.1).trans (hb3.mono hs2)))
      clear hR3 hb3 hB2
      go_wp2_with fail
      refine bodyPost_ret (v := .agg #[.int .i64 0, .int .i64 0, .slice none 0 0]) (by simp [results, Tryz.results72, go_sem, d0, d1, d2]) rfl ?_
      rw [HH.out]
      exact ⟨rfl, box_end HE.out.1 HE.out.2 hRl hLl⟩
  · have HH := Lib.hid (height_none (p := p) hno)
    clear hno
    go_wp2_with fail
    refine (pfail_any _ R L D p 2 HB1.out.2.1).mono ?_
    rintro e w3 ⟨rfl, hR3, hb3⟩
    obtain ⟨⟨d0, d1, d2⟩, e0, e1, e2⟩ := (hB1.but hb3 hB1.lt (by omega)).tri
    have HE := Lib.hid (And.intro hR3 ((but_of (X := R) HB1.out.1).trans (hb3.mono hs1)))
    clear hR3 hb3 hB1
    go_wp2_with fail
    refine bodyPost_ret (v := .agg #[.int .i64 0, .int .i64 0, .slice none 0 0]) (by simp [results, Tryz.results72, go_sem, d0, d1, d2]) rfl ?_
    rw [HH.out]
    exact ⟨rfl, box_end HE.out.1 HE.out.2 hRl hLl⟩
end Go.Proofs.YtjboibbgigkhkaaGreatDoor

/- Plain: a book's lines, read and taken. No program here. -/
namespace Go.Proofs.YtjboibbgigkhkaaGreatDoor

/-- the first term of words, and what is behind it -/
def cutP : List Str → Int → List Str × List Str
  | [], _ => ([], [])
  | w :: r, d =>
    let d' := if w = [40] then d + 1 else if w = [41] then d - 1 else d
    if d' ≤ 0 then ([w], r) else (w :: (cutP r d').1, (cutP r d').2)

def readP (names : List Str) (s : Str) : Option ND :=
  if 1500 < s.length then none else
  match words s with
  | o :: df :: nm :: rest =>
    if o ≠ [40] ∨ df ≠ [100, 101, 102] ∨ rest.getLast? ≠ some [41] ∨ isName nm = false then none else
    let a := cutP rest.dropLast 0
    let b := cutP a.2 0
    if b.2 ≠ [] then none else
    let t := parse canon names (Lib.join a.1 [32]) []
    let u := parse canon names (Lib.join b.1 [32]) []
    if t.2 ≠ 0 ∨ u.2 ≠ 0 then none else some (nm, t.1, u.1)
  | _ => none

/-- what has to hold, but for what the body is of -/
def addable (ds : List ND) (d : ND) : Bool :=
  isName d.1 && decide (idxOf (ds.map Prod.fst) d.1 < 0) && decide (ds.length < 12) && wrong d.2.1 0 ds.length == 0 && wrong d.2.2 0 ds.length == 0 && (sortTop' (ds.map Prod.snd) 400 d.2.1).isSome

def loadP : List Str → List ND → Option (List ND)
  | [], ds => some ds
  | x :: r, ds => if x = [] then loadP r ds else (readP (ds.map Prod.fst) x).bind fun d =>
    if addable ds d && checkTop' (ds.map Prod.snd) 400 d.2.2 d.2.1 == some true then loadP r (ds ++ [d]) else none

def sumsB : Str := [40, 100, 101, 102, 32, 97, 100, 100, 32, 40, 112, 105, 32, 110, 97, 116, 32, 97, 32, 40, 112, 105, 32, 110, 97, 116, 32, 98, 32, 110, 97, 116, 41, 41, 32, 40, 102, 110, 32, 110, 97, 116, 32, 97, 32, 40, 102, 110, 32, 110, 97, 116, 32, 98, 32, 40, 114, 101, 99, 32, 110, 32, 110, 97, 116, 32, 98, 32, 109, 32, 107, 32, 40, 115, 117, 99, 32, 107, 41, 32, 97, 41, 41, 41, 41, 10, 40, 100, 101, 102, 32, 109, 117, 108, 32, 40, 112, 105, 32, 110, 97, 116, 32, 97, 32, 40, 112, 105, 32, 110, 97, 116, 32, 98, 32, 110, 97, 116, 41, 41, 32, 40, 102, 110, 32, 110, 97, 116, 32, 97, 32, 40, 102, 110, 32, 110, 97, 116, 32, 98, 32, 40, 114, 101, 99, 32, 110, 32, 110, 97, 116, 32, 122, 101, 114, 111, 32, 109, 32, 107, 32, 40, 40, 97, 100, 100, 32, 98, 41, 32, 107, 41, 32, 97, 41, 41, 41, 41, 10, 40, 100, 101, 102, 32, 115, 119, 97, 112, 32, 40, 112, 105, 32, 40, 115, 105, 103, 32, 110, 97, 116, 32, 110, 32, 110, 97, 116, 41, 32, 112, 32, 40, 115, 105, 103, 32, 110, 97, 116, 32, 110, 32, 110, 97, 116, 41, 41, 32, 40, 102, 110, 32, 40, 115, 105, 103, 32, 110, 97, 116, 32, 110, 32, 110, 97, 116, 41, 32, 112, 32, 40, 112, 97, 105, 114, 32, 110, 97, 116, 32, 110, 32, 110, 97, 116, 32, 40, 115, 110, 100, 32, 112, 41, 32, 40, 102, 115, 116, 32, 112, 41, 41, 41, 41, 10, 40, 100, 101, 102, 32, 105, 115, 32, 40, 112, 105, 32, 110, 97, 116, 32, 97, 32, 40, 112, 105, 32, 110, 97, 116, 32, 98, 32, 85, 48, 41, 41, 32, 40, 102, 110, 32, 110, 97, 116, 32, 97, 32, 40, 114, 101, 99, 32, 110, 32, 40, 112, 105, 32, 110, 97, 116, 32, 98, 32, 85, 48, 41, 32, 40, 102, 110, 32, 110, 97, 116, 32, 98, 32, 40, 114, 101, 99, 32, 110, 32, 85, 48, 32, 117, 110, 105, 116, 32, 109, 32, 107, 32, 101, 109, 112, 116, 121, 32, 98, 41, 41, 32, 109, 32, 102, 32, 40, 102, 110, 32, 110, 97, 116, 32, 98, 32, 40, 114, 101, 99, 32, 110, 32, 85, 48, 32, 101, 109, 112, 116, 121, 32, 106, 32, 107, 32, 40, 102, 32, 106, 41, 32, 98, 41, 41, 32, 97, 41, 41, 41, 10]
def oneB : Str := [40, 100, 101, 102, 32, 111, 110, 101, 32, 110, 97, 116, 32, 40, 115, 117, 99, 32, 122, 101, 114, 111, 41, 41]
def lineB1 : Str := [40, 100, 101, 102, 32, 97, 100, 100, 32, 40, 112, 105, 32, 110, 97, 116, 32, 97, 32, 40, 112, 105, 32, 110, 97, 116, 32, 98, 32, 110, 97, 116, 41, 41, 32, 40, 102, 110, 32, 110, 97, 116, 32, 97, 32, 40, 102, 110, 32, 110, 97, 116, 32, 98, 32, 40, 114, 101, 99, 32, 110, 32, 110, 97, 116, 32, 98, 32, 109, 32, 107, 32, 40, 115, 117, 99, 32, 107, 41, 32, 97, 41, 41, 41, 41]
def lineB2 : Str := [40, 100, 101, 102, 32, 109, 117, 108, 32, 40, 112, 105, 32, 110, 97, 116, 32, 97, 32, 40, 112, 105, 32, 110, 97, 116, 32, 98, 32, 110, 97, 116, 41, 41, 32, 40, 102, 110, 32, 110, 97, 116, 32, 97, 32, 40, 102, 110, 32, 110, 97, 116, 32, 98, 32, 40, 114, 101, 99, 32, 110, 32, 110, 97, 116, 32, 122, 101, 114, 111, 32, 109, 32, 107, 32, 40, 40, 97, 100, 100, 32, 98, 41, 32, 107, 41, 32, 97, 41, 41, 41, 41]
def lineB3 : Str := [40, 100, 101, 102, 32, 115, 119, 97, 112, 32, 40, 112, 105, 32, 40, 115, 105, 103, 32, 110, 97, 116, 32, 110, 32, 110, 97, 116, 41, 32, 112, 32, 40, 115, 105, 103, 32, 110, 97, 116, 32, 110, 32, 110, 97, 116, 41, 41, 32, 40, 102, 110, 32, 40, 115, 105, 103, 32, 110, 97, 116, 32, 110, 32, 110, 97, 116, 41, 32, 112, 32, 40, 112, 97, 105, 114, 32, 110, 97, 116, 32, 110, 32, 110, 97, 116, 32, 40, 115, 110, 100, 32, 112, 41, 32, 40, 102, 115, 116, 32, 112, 41, 41, 41, 41]
def lineB4 : Str := [40, 100, 101, 102, 32, 105, 115, 32, 40, 112, 105, 32, 110, 97, 116, 32, 97, 32, 40, 112, 105, 32, 110, 97, 116, 32, 98, 32, 85, 48, 41, 41, 32, 40, 102, 110, 32, 110, 97, 116, 32, 97, 32, 40, 114, 101, 99, 32, 110, 32, 40, 112, 105, 32, 110, 97, 116, 32, 98, 32, 85, 48, 41, 32, 40, 102, 110, 32, 110, 97, 116, 32, 98, 32, 40, 114, 101, 99, 32, 110, 32, 85, 48, 32, 117, 110, 105, 116, 32, 109, 32, 107, 32, 101, 109, 112, 116, 121, 32, 98, 41, 41, 32, 109, 32, 102, 32, 40, 102, 110, 32, 110, 97, 116, 32, 98, 32, 40, 114, 101, 99, 32, 110, 32, 85, 48, 32, 101, 109, 112, 116, 121, 32, 106, 32, 107, 32, 40, 102, 32, 106, 41, 32, 98, 41, 41, 32, 97, 41, 41, 41]
def sumsL : List Str := [lineB1, lineB2, lineB3, lineB4, []]
def dOne : T × T := (tNat, tSuc (.mk 15 0 []))
def oneN : List ND := [([111, 110, 101], dOne)]
def fourN : List ND := [([97, 100, 100], dAdd), ([109, 117, 108], dMul), ([115, 119, 97, 112], dSwap), ([105, 115], dIs)]
instance : DecidableEq T := fun a b => decidable_of_iff (sameT a b = true) (same_iff.1 a b)
theorem fourN_snd : fourN.map Prod.snd = four := rfl
theorem one_load : loadP [oneB] [] = some oneN := by decide +kernel
theorem sums_load : loadP sumsL [] = some fourN := by decide +kernel
theorem one_at : (evalP [dOne] 400 (.value (tD 0) [])).bind (numberP 200) = some (1, true) := by decide +kernel
end Go.Proofs.YtjboibbgigkhkaaGreatDoor

/- text.Name: whether a text may be a name; kinds' words as the program looks them up. -/
namespace Go.Proofs.YtjboibbgigkhkaaGreatDoor
open Go.RowKit
set_option maxRecDepth 100000

theorem kindFrom_zero {s : Str} : ∀ (f k : Nat), (∀ j, k ≤ j → j < k + f → word j ≠ s) → kindFrom s k f = 0
  | 0, _, _ => rfl
  | f + 1, k, h => by
    rw [kindFrom_step, if_neg (fun e => h k (Nat.le_refl _) (by omega) e.2)]
    exact kindFrom_zero f (k + 1) fun j h1 h2 => h j (by omega) (by omega)

theorem word_in : ∀ j, 3 ≤ j → j < 18 → word j ∈ W18 := fun j _ h => (show ∀ j, j < 18 → 3 ≤ j → word j ∈ W18 from by decide) j h ‹_›

theorem idx_out {s : Str} (h : s ∉ W18) : idxOf W18 s = -1 ∧ kindOf s = 0 := by
  constructor
  · exact idxOf_none fun j hj e => h (e ▸ List.getElem_mem hj)
  · exact kindFrom_zero 15 3 fun j h1 h2 e => h (e ▸ word_in j h1 (by omega))

theorem idx_kind {s : Str} (h0 : s ≠ []) (hU : s.head? ≠ some 85) : idxOf W18 s + 1 = kindOf s := by
  by_cases h : s ∈ W18
  · simp only [W18, List.mem_cons, List.not_mem_nil, or_false] at h
    rcases h with h | h | h | h | h | h | h | h | h | h | h | h | h | h | h | h | h | h <;> subst h <;> first | rfl | exact absurd rfl h0 | exact absurd rfl hU
  · rw [(idx_out h).1, (idx_out h).2]; rfl

theorem idx_ge (s : Str) : -1 ≤ idxOf W18 s ∧ idxOf W18 s ≤ 17 := by
  by_cases h : s ∈ W18
  · simp only [W18, List.mem_cons, List.not_mem_nil, or_false] at h
    rcases h with h | h | h | h | h | h | h | h | h | h | h | h | h | h | h | h | h | h <;> subst h <;> decide
  · rw [(idx_out h).1]; omega

/-- what the program looks for ahead of a bracket's arguments -/
theorem idx_head (s : Str) : (0 < idxOf W18 s + 1 ∧ (shape (idxOf W18 s + 1)).getD [] ≠ [] ↔ 0 < kindOf s ∧ shape (kindOf s) ≠ some []) ∧ (0 < idxOf W18 s + 1 ∧ (shape (idxOf W18 s + 1)).getD [] ≠ [] → idxOf W18 s + 1 = kindOf s) := by
  by_cases h : s ∈ W18
  · simp only [W18, List.mem_cons, List.not_mem_nil, or_false] at h
    rcases h with h | h | h | h | h | h | h | h | h | h | h | h | h | h | h | h | h | h <;> subst h <;> decide
  · rw [(idx_out h).1, (idx_out h).2]; decide

def abc : Str := [97, 98, 99, 100, 101, 102, 103, 104, 105, 106, 107, 108, 109, 110, 111, 112, 113, 114, 115, 116, 117, 118, 119, 120, 121, 122]

theorem abc_low (c : UInt8) : abc.contains c = decide (97 ≤ c ∧ c ≤ 122) := by
  revert c
  have h : ∀ n : Fin 256, abc.contains (UInt8.ofNat n.val) = decide (97 ≤ UInt8.ofNat n.val ∧ UInt8.ofNat n.val ≤ 122) := by decide +kernel
  intro c
  have h2 := h ⟨c.toNat, c.toNat_lt⟩
  simpa using h2

theorem dropWhile_nil_iff {p : UInt8 → Bool} : ∀ {l : Str}, l.dropWhile p = [] ↔ l.all p = true
  | [] => by simp
  | a :: r => by
    rw [List.dropWhile_cons, List.all_cons]
    cases h : p a with
    | true => simpa using dropWhile_nil_iff
    | false => simp

theorem dropWhile_head {p : UInt8 → Bool} : ∀ {l r : Str} {a : UInt8}, l.dropWhile p = a :: r → p a = false
  | [], _, _, h => by cases h
  | b :: l, r, a, h => by
    rw [List.dropWhile_cons] at h
    cases hb : p b with
    | true => rw [hb] at h; exact dropWhile_head h
    | false =>
      rw [hb] at h
      cases h
      exact hb

theorem trim_nil (s cs : Str) : Lib.trimS s cs = [] ↔ s.all (cs.contains ·) = true := by
  unfold Lib.trimS Lib.trimLeftS Lib.trimRightS
  rw [dropWhile_nil_iff]
  constructor
  · intro h
    cases hd : s.reverse.dropWhile (cs.contains ·) with
    | nil =>
      have := dropWhile_nil_iff.1 hd
      rwa [List.all_reverse] at this
    | cons a r =>
      rw [hd, List.all_reverse, List.all_cons, dropWhile_head hd] at h
      cases h
  · intro h
    have : s.reverse.dropWhile (cs.contains ·) = [] := dropWhile_nil_iff.2 (by rw [List.all_reverse]; exact h)
    rw [this]; rfl

theorem isName_trim {s : Str} (h0 : s ≠ []) (h8 : s.length ≤ 8) (hk : ¬ 0 ≤ idxOf W18 s) (hd : s ≠ [100, 101, 102]) : isName s = (Lib.trimS s abc == []) := by
  have h1 : s ∉ W18 := fun h => hk (by
    simp only [W18, List.mem_cons, List.not_mem_nil, or_false] at h
    rcases h with h | h | h | h | h | h | h | h | h | h | h | h | h | h | h | h | h | h <;> subst h <;> decide)
  have b1 : (s == []) = false := by simpa using h0
  have b2 : (s == [100, 101, 102]) = false := by simpa using hd
  rw [isName_eq, b1, b2, decide_eq_true h8, (idx_out h1).2]
  simp only [Bool.not_false, Bool.true_and, beq_self_eq_true]
  have e : s.all low = s.all (abc.contains ·) := by
    congr 1
    funext c
    rw [abc_low]; rfl
  rw [e]
  by_cases ht : Lib.trimS s abc = []
  · rw [(trim_nil _ _).1 ht, ht]; rfl
  · have : s.all (abc.contains ·) = false := Bool.eq_false_iff.2 fun h => ht ((trim_nil _ _).2 h)
    rw [this]
    exact (beq_eq_false_iff_ne.2 ht).symm

theorem isName_in {s : Str} (h : 0 ≤ idxOf W18 s) : isName s = false := by
  have h1 : s ∈ W18 := Classical.byContradiction fun hn => by rw [(idx_out hn).1] at h; omega
  simp only [W18, List.mem_cons, List.not_mem_nil, or_false] at h1
  rcases h1 with h | h | h | h | h | h | h | h | h | h | h | h | h | h | h | h | h | h <;> subst h <;> rfl

theorem isName_long {s : Str} (h : ¬ s.length ≤ 8) : isName s = false := by
  rw [isName_eq, decide_eq_false h]; simp

/-- a row of texts that was just laid -/
theorem strs_new (w : World) (R : Nat) (l : List Str) (hR : R ≠ w.heap.size) (hl : l.length ≤ 1000000000000) : Strs (w.alloc (.cells (strc l).toArray 9)) R l (.slice (some ⟨w.heap.size, 0, none⟩) l.length l.length) := by
  refine ⟨_, _, rfl, Nat.le_refl _, by unfold maxLen; omega, fun _ => ⟨w.heap.size, 0, rfl, by simp, by omega, fun j s hj => ?_⟩⟩
  rw [Nat.zero_add, (Blk.new w 9 (strc l).toArray).cell j]
  simp [strc, hj]

theorem pnm_any (s : Str) (hs : s.length ≤ 1000000000000) (w : World) :
    Calls Tryz.prog 13 #[.string ⟨s.toArray⟩] w (StrPost (.bool (isName s)) w) := by
  by_cases h0 : s = []
  · subst h0
    go_enter Tryz.func13, Tryz.ntmps13
    go_wp2_with fail
    go_ret
    exact ⟨rfl, Below.refl _ _⟩
  · have hl0 : 0 < s.length := by cases s with
      | nil => exact absurd rfl h0
      | cons a r => simp
    by_cases h8 : s.length ≤ 8
    · have h1 : ¬ (s.length : Int) < 1 := by omega
      have h2 : ¬ 8 < (s.length : Int) := by omega
      have H8 := Lib.hid (And.intro h0 h8)
      clear h0 h8
      go_enter Tryz.func13, Tryz.ntmps13
      go_wp2_with fail
      refine (pwords_any _).mono ?_
      rintro e w1 ⟨rfl, rfl⟩
      go_wp2_with fail
      refine (contains_any (w.heap.size + 1) W18 s _ _ (strs_new w _ W18 (by omega) (by decide)) (by decide)).mono ?_
      rintro e w2 ⟨rfl, hb2⟩
      have HB := Lib.hid (((Below.refl w.heap.size w).alloc (Nat.le_refl _) (.cells (strc W18).toArray 9)).trans (hb2.mono (by simp)))
      clear hb2
      by_cases hk : 0 ≤ idxOf W18 s
      · have HN := Lib.hid (isName_in hk)
        rw [decide_eq_true hk]
        clear hk
        go_wp2_with fail
        go_ret
        rw [HN.out]
        exact ⟨rfl, HB.out⟩
      · have HK := Lib.hid hk
        rw [decide_eq_false hk]
        clear hk
        by_cases hd : s = [100, 101, 102]
        · have hdb : (s == [100, 101, 102]) = true := by simpa using hd
          have HN := Lib.hid (show isName s = false from by rw [hd]; rfl)
          clear hd
          go_wp2_with fail
          go_ret
          rw [HN.out]
          exact ⟨rfl, HB.out⟩
        · have hdb : (s == [100, 101, 102]) = false := by simpa using hd
          have HN := Lib.hid (isName_trim H8.out.1 H8.out.2 HK.out hd)
          clear hd
          go_wp2_with fail
          refine (Tryz.strings_Trim_set ⟨s.toArray⟩ ⟨abc.toArray⟩ w2 (by show s.length ≤ _; omega) (by decide) (Go.Proofs.ascii_of_all (by decide))).mono ?_
          rintro e w3 ⟨rfl, hb3⟩
          have HB3 := Lib.hid (HB.out.trans (hb3.mono HB.out.size))
          obtain ⟨q, hq⟩ : ∃ q, Lib.trimS s abc = q := ⟨_, rfl⟩
          have hn := HN.out
          rw [hq] at hn
          have HN2 := Lib.hid hn
          have hqq : Lib.trimS (⟨s.toArray⟩ : ByteArray).data.toList (⟨abc.toArray⟩ : ByteArray).data.toList = q := hq
          rw [hqq]
          clear hb3 hn hq hqq HN HB
          go_wp2_with fail
          go_ret
          rw [HN2.out]
          exact ⟨by cases q <;> rfl, HB3.out⟩
    · have h1 : ¬ (s.length : Int) < 1 := by omega
      have h2 : 8 < (s.length : Int) := by omega
      have HN := Lib.hid (isName_long h8)
      clear h0 h8
      go_enter Tryz.func13, Tryz.ntmps13
      go_wp2_with fail
      go_ret
      rw [HN.out]
      exact ⟨rfl, Below.refl _ _⟩
end Go.Proofs.YtjboibbgigkhkaaGreatDoor

/- term.Binds: the numbers lie in a new row; text.names. -/
namespace Go.Proofs.YtjboibbgigkhkaaGreatDoor
open Go.RowKit
set_option maxRecDepth 100000

/-- the slice value s holds these small numbers, in a block from lo on -/
def intsN (lo : Nat) (w : World) (l : List Nat) (s : Value) : Prop := ∃ A cap, s = .slice A l.length cap ∧ ∀ i x, l[i]? = some x → ∃ b off, A = some ⟨b, off, none⟩ ∧ lo ≤ b ∧ b < w.heap.size ∧ w.cell? ⟨b, off + i, none⟩ = some (.int .i64 (x : Nat))

theorem intsN.but {lo R n : Nat} {w w' : World} {l : List Nat} {s : Value} (h : intsN lo w l s) (hR : R < lo) (hn : w.heap.size ≤ n) (hb : But R n w w') : intsN lo w' l s := by
  obtain ⟨A, cap, h1, h2⟩ := h
  refine ⟨A, cap, h1, fun i x hx => ?_⟩
  obtain ⟨b, off, e, hlo, hlt, hc⟩ := h2 i x hx
  exact ⟨b, off, e, hlo, Nat.lt_of_lt_of_le hlt hb.size, (hb.cell (p := ⟨b, _, none⟩) (Nat.lt_of_lt_of_le hlt hn) (by simp; omega)).trans hc⟩
theorem intsN_nil (w : World) (lo : Nat) : intsN lo w [] (.slice none 0 0) := ⟨none, 0, rfl, fun i x h => by simp at h⟩
theorem intsN_new (w : World) (l : List Nat) (t : TypeId) : intsN w.heap.size (w.alloc (.cells (l.map fun x => Value.int .i64 (x : Nat)).toArray t)) l (.slice (some ⟨w.heap.size, 0, none⟩) l.length l.length) := by
  refine ⟨_, _, rfl, fun i x hx => ⟨w.heap.size, 0, rfl, Nat.le_refl _, by simp, ?_⟩⟩
  rw [World.cell?_alloc_at _ _ _ _ rfl]
  simp [hx]

def BindsNew (k : Int) (w : World) (e : Ending) (w' : World) : Prop := ∃ s, e = .returned (.tuple #[s, .bool (shape k).isSome]) ∧ intsN w.heap.size w' ((shape k).getD []) s ∧ Below w.heap.size w w'

set_option maxHeartbeats 1600000 in
theorem binds_new (k : Int) (w : World) :
    Calls Tryz.prog 76 #[.int .i64 k] w (BindsNew k w) := by
  by_cases h1 : k < 1
  · have hp : ∀ w' : World, Below w.heap.size w w' → BindsNew k w (.returned (.tuple #[.slice none 0 0, .bool false])) w' := fun w' hb => ⟨_, by rw [shape_out_none (.inl h1)]; rfl, by rw [shape_out_none (.inl h1)]; exact intsN_nil _ _, hb⟩
    go_enter Tryz.func76, Tryz.ntmps76
    go_wp2
    go_ret2
    exact hp _ (Below.refl _ _)
  · by_cases h2 : 18 < k
    · have hp : ∀ w' : World, Below w.heap.size w w' → BindsNew k w (.returned (.tuple #[.slice none 0 0, .bool false])) w' := fun w' hb => ⟨_, by rw [shape_out_none (.inr h2)]; rfl, by rw [shape_out_none (.inr h2)]; exact intsN_nil _ _, hb⟩
      go_enter Tryz.func76, Tryz.ntmps76
      go_wp2
      go_ret2
      exact hp _ (Below.refl _ _)
    · have hk : k = 1 ∨ k = 2 ∨ k = 3 ∨ k = 4 ∨ k = 5 ∨ k = 6 ∨ k = 7 ∨ k = 8 ∨ k = 9 ∨ k = 10 ∨ k = 11 ∨ k = 12 ∨ k = 13 ∨ k = 14 ∨ k = 15 ∨ k = 16 ∨ k = 17 ∨ k = 18 := by omega
      clear h1 h2
      rcases hk with h | h | h | h | h | h | h | h | h | h | h | h | h | h | h | h | h | h <;> subst h
      all_goals
        go_enter Tryz.func76, Tryz.ntmps76
        go_wp2
        go_ret2
        first
          | exact ⟨_, rfl, intsN_nil _ _, Below.refl _ _⟩
          | exact ⟨_, rfl, intsN_new w [0] _, (Below.refl _ _).alloc (Nat.le_refl _) _⟩
          | exact ⟨_, rfl, intsN_new w [0, 1] _, (Below.refl _ _).alloc (Nat.le_refl _) _⟩
          | exact ⟨_, rfl, intsN_new w [0, 0] _, (Below.refl _ _).alloc (Nat.le_refl _) _⟩
          | exact ⟨_, rfl, intsN_new w [0, 1, 0, 0] _, (Below.refl _ _).alloc (Nat.le_refl _) _⟩
          | exact ⟨_, rfl, intsN_new w [1, 0, 2, 0] _, (Below.refl _ _).alloc (Nat.le_refl _) _⟩
theorem pnames_new (k : Int) (w : World) : Calls Tryz.prog 43 #[.int .i64 k] w (fun e w' => ∃ s, e = .returned s ∧ intsN w.heap.size w' ((shape k).getD []) s ∧ Below w.heap.size w w') := by
  have HC := Lib.hid (binds_new k w)
  go_enter Tryz.func43, Tryz.ntmps43
  go_wp2_with fail
  refine HC.out.mono ?_
  rintro e w1 ⟨s, rfl, hi, hb⟩
  have HI := Lib.hid hi
  obtain ⟨A, cap, rfl, -⟩ := hi
  clear HC
  go_wp2_with fail
  go_ret
  exact ⟨_, rfl, HI.out, hb⟩

end Go.Proofs.YtjboibbgigkhkaaGreatDoor

/- parser.term: the term of a text's words, by the program's own reader. -/
namespace Go.Proofs.YtjboibbgigkhkaaGreatDoor
open Go.RowKit
set_option maxRecDepth 100000

/-- behind the program's reader -/
def TermP (q : T × PS) (R L : Nat) (D : Value) (w : World) (e : Ending) (w' : World) : Prop :=
  ∃ s, e = .returned (.agg #[.int .i64 q.1.k, .int .i64 q.1.n, s]) ∧ argsInS w' (orNew nowhere w w') q.1 s ∧ PBox w' R L D q.2 ∧ But R w.heap.size w w'

/-- no word is longer than any text -/
def shortW (p : PS) : Prop := ∀ x ∈ p.l, x.length ≤ 1000000000000
theorem shortW.sub {p q : PS} (h : shortW p) (hs : q.l <:+ p.l) : shortW q := fun x hx => h x (hs.subset hx)
theorem shortW.take {p : PS} (h : shortW p) : p.take.1.length ≤ 1000000000000 := by
  obtain ⟨l, e⟩ := p
  cases l with
  | nil => show 0 ≤ _; omega
  | cons a r => exact h a (List.mem_cons_self ..)

theorem pwords_new (R : Nat) (w : World) (hR : R < w.heap.size) : Calls Tryz.prog 32 #[] w (fun e w' => ∃ v, e = .returned v ∧ Strs w' R W18 v ∧ Below w.heap.size w w') :=
  (pwords_any w).mono fun e w' ⟨h1, h2⟩ => ⟨_, h1, h2 ▸ strs_new w R W18 (by omega) (by decide), h2 ▸ (Below.refl _ _).alloc (Nat.le_refl _) _⟩

theorem atom_U {cn : Str → Option Int} {decls bound : List Str} {r : Str} {p : PS} : atom cn decls (85 :: r) bound p = height cn r p := by unfold atom; rw [if_pos (show (85 :: r).head? = some 85 from rfl)]; rfl
theorem atom_bad {cn : Str → Option Int} {decls bound : List Str} {x : Str} {p : PS} (hU : x.head? ≠ some 85) (hk : kindOf x = 0) (hn : isName x = false) : atom cn decls x bound p = (T0, p.fail 7) := by
  unfold atom; rw [if_neg hU, if_neg (by omega), if_pos hn]
theorem atom_named {cn : Str → Option Int} {decls bound : List Str} {x : Str} {p : PS} (hU : x.head? ≠ some 85) (hk : kindOf x = 0) (hn : isName x = true) : atom cn decls x bound p = named decls bound x p := by
  unfold atom named; rw [if_neg hU, if_neg (by omega), if_neg (by simp [hn])]; rfl
theorem atom_kind {cn : Str → Option Int} {decls bound : List Str} {x : Str} {p : PS} (hU : x.head? ≠ some 85) (hk : 0 < kindOf x) (hs : shape (kindOf x) = some []) : atom cn decls x bound p = (.mk (kindOf x) 0 [], p) := by
  unfold atom; rw [if_neg hU, if_pos hk, if_pos hs]
theorem atom_form {cn : Str → Option Int} {decls bound : List Str} {x : Str} {p : PS} (hU : x.head? ≠ some 85) (hk : 0 < kindOf x) (hs : shape (kindOf x) ≠ some []) : atom cn decls x bound p = (T0, p.fail 2) := by
  unfold atom; rw [if_neg hU, if_pos hk, if_neg hs]

theorem termP_atom {cn : Str → Option Int} {decls bound : List Str} {x : Str} {p : PS} {w w' : World} {R L : Nat} {D v : Value} (hv : v = atomV (atom cn decls x bound p).1) (hR : PBox w' R L D (atom cn decls x bound p).2) (hb : But R w.heap.size w w') :
    TermP (atom cn decls x bound p) R L D w (.returned v) w' := by
  obtain ⟨k, n, h⟩ := atom_al (cn := cn) (decls := decls) (bound := bound) (x := x) (p := p)
  refine ⟨.slice none 0 0, by rw [hv]; rfl, ?_, hR, hb⟩
  rw [h]
  exact args_none _ _ _ _

theorem head_nil {p : PS} (h : p.l = []) : headKind p = (5, p) := by
  unfold headKind
  rw [h]
  rfl
theorem head_no {p : PS} {y : Str} {r : List Str} {kk : Nat} (hyr : p.l = y :: r) (h : (0 < (kk : Int) ∧ (shape (kk : Int)).getD [] ≠ [] ↔ 0 < kindOf y ∧ shape (kindOf y) ≠ some []) ∧ (0 < (kk : Int) ∧ (shape (kk : Int)).getD [] ≠ [] → (kk : Int) = kindOf y))
    (hn : ¬ (0 < (kk : Int) ∧ (shape (kk : Int)).getD [] ≠ [])) : headKind p = (5, p) := by
  unfold headKind
  rw [hyr, List.headD_cons, if_neg (fun hh => hn (h.1.2 hh))]
theorem head_yes {p : PS} {y : Str} {r : List Str} {kk : Nat} (hyr : p.l = y :: r) (h : (0 < (kk : Int) ∧ (shape (kk : Int)).getD [] ≠ [] ↔ 0 < kindOf y ∧ shape (kindOf y) ≠ some []) ∧ (0 < (kk : Int) ∧ (shape (kk : Int)).getD [] ≠ [] → (kk : Int) = kindOf y))
    (hn : 0 < (kk : Int) ∧ (shape (kk : Int)).getD [] ≠ []) : headKind p = ((kk : Int), p.take.2) := by
  unfold headKind
  rw [hyr, List.headD_cons, if_pos (h.1.1 hn), h.2 hn]

theorem headKind_shape (p : PS) : ∃ sh, shape (headKind p).1 = some sh := by
  unfold headKind
  split
  · rename_i h
    exact shape_some h.1 (Nat.le_trans (kindOf_le _) (by decide))
  · exact ⟨_, rfl⟩

/-- the slice value s holds these small numbers, in a block from lo to hi -/
def intsB (lo hi : Nat) (w : World) (l : List Nat) (s : Value) : Prop := ∃ A cap, s = .slice A l.length cap ∧ ∀ i x, l[i]? = some x → ∃ b off, A = some ⟨b, off, none⟩ ∧ lo ≤ b ∧ b < hi ∧ w.cell? ⟨b, off + i, none⟩ = some (.int .i64 (x : Nat))
theorem intsN.toB {lo : Nat} {w : World} {l : List Nat} {s : Value} (h : intsN lo w l s) : intsB lo w.heap.size w l s := h
theorem intsB.keep {lo hi : Nat} {w w' : World} {l : List Nat} {s : Value} (h : intsB lo hi w l s) (hb : ∀ b, lo ≤ b → b < hi → w'.heap[b]? = w.heap[b]?) : intsB lo hi w' l s := by
  obtain ⟨A, cap, h1, h2⟩ := h
  refine ⟨A, cap, h1, fun i x hx => ?_⟩
  obtain ⟨b, off, e, hlo, hlt, hc⟩ := h2 i x hx
  exact ⟨b, off, e, hlo, hlt, (World.cell?_of_block (hb b hlo hlt)).trans hc⟩

/-- one round: the child's term goes into the row, the row into the term's box -/
theorem pterm_round {w wc w8 w9 : World} {R L g8 lo base : Nat} {D V V9 a b NS : Value} {z : Array Value} {sh : List Nat} {ts : List T} {xp : PS} {o : Obj} {t : TypeId}
    (hN : intsB lo base wc sh NS) (hT : Blk wc g8 t #[a, b, V]) (hB : Blk wc w.heap.size t z) (hbw : But R w.heap.size w wc) (hb8 : But R wc.drew.heap.size wc.drew w8) (hr8 : PBox w8 R L D xp)
    (hg9 : (w8.alloc o).grownBy w9 V.ownBlock) (hrow9 : RowS w9 nowhere base V9 ts) (hV : ∀ b, b < base → some b ≠ V.ownBlock) (h1 : R < w.heap.size) (hL : L < w.heap.size) (h2 : w.heap.size < g8) (h3 : g8 < lo) (h4 : lo ≤ base) (h5 : base ≤ wc.heap.size) :
    intsB lo base (w9.setCell ⟨g8, 2, none⟩ V9) sh NS ∧ Blk (w9.setCell ⟨g8, 2, none⟩ V9) g8 t #[a, b, V9] ∧ Blk (w9.setCell ⟨g8, 2, none⟩ V9) w.heap.size t z ∧ RowS (w9.setCell ⟨g8, 2, none⟩ V9) nowhere base V9 ts ∧
    PBox (w9.setCell ⟨g8, 2, none⟩ V9) R L D xp ∧ But R w.heap.size w (w9.setCell ⟨g8, 2, none⟩ V9) ∧ base ≤ (w9.setCell ⟨g8, 2, none⟩ V9).heap.size := by
  have hs8 : wc.heap.size ≤ w8.heap.size := hb8.size
  have hs9 := hg9.size
  simp at hs9
  have hne : ∀ i, i < wc.heap.size → i ≠ R → some i ≠ V.ownBlock → w9.heap[i]? = wc.heap[i]? := by
    intro i hi hR hv
    rw [hg9.block i (by simp; omega) hv, Below.heap_alloc _ _ _ (by omega)]
    exact hb8.block i hi hR
  refine ⟨?_, ?_, ?_, hrow9.setCell (by simp; omega) (fun h => h) _, ?_, ?_, by simp [World.setCell]; omega⟩
  · exact hN.keep fun i hi hi2 => by rw [Below.heap_setCell _ _ _ _ (by simp; omega), hne i (by omega) (by omega) (hV i hi2)]
  · have h : Blk w9 g8 t #[a, b, V] := (hne g8 (by omega) (by omega) (hV g8 (by omega))).trans hT
    have h' := h.set_ 2 V9
    simpa using h'
  · have h : Blk w9 w.heap.size t z := (hne _ (by omega) (by omega) (hV _ (by omega))).trans hB
    exact h.far (by simp; omega) _
  · exact ((hr8.below ((Below.refl _ _).alloc (Nat.le_refl _) o)).grown hg9 (hV R (by omega)) (hV L (by omega))).far (by simp; omega) (by simp; omega) _
  · refine But.setCell ?_ (by simp; omega) _
    refine But.trans hbw ⟨?_, ?_, ?_, by omega, fun k hk hx => hne k (by omega) hx (hV k (by omega))⟩
    · exact hg9.os.trans (show (w8.alloc o).os = _ from hb8.os)
    · exact hg9.tape.trans (show (w8.alloc o).tape = _ from hb8.tape)
    · exact hg9.output.trans (show (w8.alloc o).output = _ from hb8.output)

set_option maxHeartbeats 1600000 in
theorem pt_any (decls : List Str) (R L : Nat) (DA : Option Addr) (dcap : Nat) (hdl : decls.length ≤ 1000000000000) (hR8 : 8 ≤ R) : ∀ (f : Nat) (deep : Int) (bound : List Str) (p : PS) (w : World) (bv : Value), Vars w → PBox w R L (.slice DA decls.length dcap) p → Strs w R decls (.slice DA decls.length dcap) → Strs w R bound bv → shortW p → bound.length + 2 * f ≤ 1000000000 → deep + f = 25 → f ≤ 24 →
    Calls Tryz.prog 37 #[.pointer (some ⟨R, 0, none⟩), bv, .int .i64 deep] w (TermP (pterm canon decls f bound p) R L (.slice DA decls.length dcap) w) := by
  intro f
  induction f with
  | zero =>
    intro deep bound p w bv hV hR hD hb hW hbl hdp _
    obtain rfl : deep = 25 := by omega
    rw [pterm]
    obtain ⟨BA, bcap, rfl, -⟩ := id hb
    have HP := Lib.hid hR
    have hRl := hR.lt
    have hLl := hR.ltL
    clear hR hb hD hV
    go_enter Tryz.func37, Tryz.ntmps37
    have hb0 := (Below.refl w.heap.size w).alloc (Nat.le_refl _) (.cells #[.int .i64 0, .int .i64 0, .slice none 0 0] 30)
    have hblk := Blk.new w 30 #[.int .i64 0, .int .i64 0, .slice none 0 0]
    go_wp2_with fail
    refine (pfail_any _ R L _ p 9 (HP.out.below hb0)).mono ?_
    rintro e w1 ⟨rfl, hR1, hb1⟩
    have hbb := (but_of (X := R) hb0).trans (hb1.mono hb0.size)
    obtain ⟨⟨d0, d1, d2⟩, e0, e1, e2⟩ := (hblk.but hb1 (by simp) (by omega)).tri
    have HE := Lib.hid (And.intro hR1 hbb)
    clear hbb hblk hb0 hb1 hR1
    go_wp2_with fail
    refine bodyPost_ret (v := .agg #[.int .i64 0, .int .i64 0, .slice none 0 0]) (by simp [results, Tryz.results37, go_sem, d0, d1, d2]) rfl ⟨_, rfl, args_none _ _ _ _, ?_, (box_end HE.out.1 HE.out.2 hRl hLl).2⟩
    exact (box_end HE.out.1 HE.out.2 hRl hLl).1
  | succ f ih =>
    intro deep bound p w bv hV hR hD hb hW hbl hdp hf
    obtain ⟨BA, bcap, rfl, -⟩ := id hb
    have hRl := hR.lt
    have hLl := hR.ltL
    have hdeep : ¬ (24 : Int) < deep := by omega
    have IH := Lib.hid ih
    have HW := Lib.hid hW
    have HV := Lib.hid hV
    have HP := Lib.hid (And.intro hR (And.intro hD hb))
    obtain ⟨s0, c0, -, -, hB⟩ := hR
    have r2 : w.cell? ⟨R, 2, none⟩ = some (.int .i64 p.e) := hB.cell 2
    have hb0 := (Below.refl w.heap.size w).alloc (Nat.le_refl _) (.cells #[.int .i64 0, .int .i64 0, .slice none 0 0] 30)
    have hblk := Blk.new w 30 #[.int .i64 0, .int .i64 0, .slice none 0 0]
    clear hb hD ih hB hV hW
    by_cases hpe : p.e = 0
    · have hpeb : (p.e == 0) = true := by simpa using hpe
      have HPE := Lib.hid hpe
      have hlx := HW.out.take
      clear hpe
      go_enter Tryz.func37, Tryz.ntmps37
      go_wp2_with fail
      refine (ptake_any _ R L _ p (HP.out.1.below hb0)).mono ?_
      rintro e w1 ⟨rfl, hR1, hb1⟩
      have hbb := (but_of (X := R) hb0).trans (hb1.mono hb0.size)
      have hB1 := hblk.but hb1 (by simp) (by omega)
      have hs1 := hb1.size
      simp at hs1
      have HB1 := Lib.hid hbb
      have HR1 := Lib.hid hR1
      clear hb1 hbb hblk hb0 hR1 r2
      by_cases hx : p.take.1 = [40]
      · have HEQ := Lib.hid (pterm_list (cn := canon) (decls := decls) (f := f) (bound := bound) HPE.out hx)
        rw [hx]
        clear hx
        have hRl1 := HR1.out.lt
        have hLl1 := HR1.out.ltL
        obtain ⟨A1, cap1, hs1a, ⟨hl1a, -, hl1b⟩, hB1a⟩ := HR1.out
        have r0 : w1.cell? ⟨R, 0, none⟩ = some (.slice A1 p.take.2.l.length cap1) := hB1a.cell 0
        obtain ⟨n1, hn1⟩ : ∃ n, p.take.2.l.length = n := ⟨_, rfl⟩
        rw [hn1] at r0 hl1a
        have HN1 := Lib.hid hn1
        have HS1 := Lib.hid (And.intro hs1a hl1b)
        have HB1T := Lib.hid hB1
        clear hB1a hs1a hl1b hn1 hlx hB1
        go_upto_if 73 with fail
        go_cut [] (fun wc => Blk wc w1.heap.size 30 #[.int .i64 (headKind p.take.2).1, .int .i64 0, .slice none 0 0] ∧ Blk wc w.heap.size 30 #[.int .i64 0, .int .i64 0, .slice none 0 0] ∧ PBox wc R L (.slice DA decls.length dcap) (headKind p.take.2).2 ∧ But R w.heap.size w wc ∧ w1.heap.size < wc.heap.size)
        case first =>
          have hT2 := Blk.new w1 30 #[.int .i64 5, .int .i64 0, .slice none 0 0]
          have hB2 := HB1T.out.alloc (.cells #[.int .i64 5, .int .i64 0, .slice none 0 0] 30)
          have hR2 := HR1.out.below ((Below.refl w1.heap.size w1).alloc (Nat.le_refl _) (.cells #[.int .i64 5, .int .i64 0, .slice none 0 0] 30))
          have hb2 := HB1.out.alloc HB1.out.size (.cells #[.int .i64 5, .int .i64 0, .slice none 0 0] 30)
          by_cases hn0 : 0 < n1
          · have hn0i : (0 : Int) < (n1 : Int) := by omega
            obtain ⟨y, r, hyr⟩ : ∃ y r, p.take.2.l = y :: r := by
              cases h : p.take.2.l with
              | nil => rw [← HN1.out, h] at hn0; simp at hn0
              | cons y r => exact ⟨y, r, rfl⟩
            obtain ⟨off, rfl⟩ := HS1.out.2 (by rw [hyr]; simp)
            obtain ⟨b', off', he, -, hcy, -⟩ : ∃ b off', (some (⟨L, off, none⟩ : Addr)) = some ⟨b, off', none⟩ ∧ b ≠ R ∧ w1.cell? ⟨b, off', none⟩ = some (.string ⟨y.toArray⟩) ∧ True := by
              have h := HS1.out.1
              rw [hyr] at h
              obtain ⟨b, o, h1, h2, h3, -⟩ := h.tail
              exact ⟨b, o, h1, h2, h3, trivial⟩
            cases he
            have HYR := Lib.hid hyr
            have HE2 := Lib.hid (And.intro hT2 (And.intro hB2 (And.intro hR2 hb2)))
            have hdiff : 0 < n1 := hn0
            clear hyr hT2 hB2 hR2 hb2
            generalize hw2 : w1.alloc (.cells #[.int .i64 5, .int .i64 0, .slice none 0 0] 30) = w2 at *
            have q0 : w2.cell? ⟨R, 0, none⟩ = some (.slice (some ⟨L, off, none⟩) n1 cap1) := by rw [← hw2, World.cell?_alloc_lt _ _ _ hRl1]; exact r0
            have q1 : w2.cell? ⟨L, off, none⟩ = some (.string ⟨y.toArray⟩) := by rw [← hw2, World.cell?_alloc_lt _ _ _ hLl1]; exact hcy
            have HRl2 := Lib.hid (show R < w2.heap.size by rw [← hw2]; simp; omega)
            have HLl2 := Lib.hid (show L < w2.heap.size by rw [← hw2]; simp; omega)
            have HRl2d := Lib.hid (show R < w2.drew.heap.size from HRl2.out)
            clear r0 hcy hw2
            have hgeb := idx_ge y
            obtain ⟨ix, hix⟩ : ∃ ix, idxOf W18 y = ix := ⟨_, rfl⟩
            rw [hix] at hgeb
            have HIX := Lib.hid hix
            clear hix
            obtain ⟨kk, hkk⟩ : ∃ kk : Nat, ix + 1 = kk := ⟨(ix + 1).toNat, by omega⟩
            have hwix : IntKind.i64.wrap (ix + 1) = (kk : Int) := by rw [← hkk]; exact IntWalk.i64_in _ (by omega)
            have hk18 : kk ≤ 18 := by omega
            have HKK := Lib.hid hkk
            clear hkk hgeb
            go_wp2_with fail
            go_region_held3 (fun w' => w'.cell? ⟨R, 0, none⟩ = some (.slice (some ⟨L, off, none⟩) n1 cap1) ∧ w'.cell? ⟨L, off, none⟩ = some (.string ⟨y.toArray⟩)) (go_keep)
              (first
                | ((with_reducible refine (pwords_new R _ HRl2d.out).mono ?_); rintro e w5 ⟨v5, rfl, hs5, hb5⟩; (have k0 := (hb5.cell (p := ⟨R, 0, none⟩) HRl2.out : _ = w2.cell? _).trans q0); (have k1 := (hb5.cell (p := ⟨L, off, none⟩) HLl2.out : _ = w2.cell? _).trans q1); (have hix2 := index_any R W18 y w5 v5 hs5 (by decide)); (rw [HIX.out] at hix2); (have HI := Lib.hid hix2); (have HB5 := Lib.hid hb5); clear hs5 hb5 hix2)
                | ((with_reducible refine (HI.out).mono ?_); rintro e w6 ⟨rfl, hb6⟩; (have m0 := (hb6.cell (p := ⟨R, 0, none⟩) (Nat.lt_of_lt_of_le HRl2.out HB5.out.size) : _ = w5.cell? _).trans k0); (have m1 := (hb6.cell (p := ⟨L, off, none⟩) (Nat.lt_of_lt_of_le HLl2.out HB5.out.size) : _ = w5.cell? _).trans k1); (have HB6 := Lib.hid hb6); clear hb6)
                | fail)
            have hb26 : Below w2.heap.size w2 w6 := ((Below.refl w2.heap.size w2).drew.trans (show Below w2.heap.size w2.drew w5 from HB5.out)).trans (HB6.out.mono HB5.out.size)
            have hT6 := HE2.out.1.below hb26 HE2.out.1.lt
            have hB6 := HE2.out.2.1.below hb26 HE2.out.2.1.lt
            have HR6 := Lib.hid (HE2.out.2.2.1.below hb26)
            have HB26 := Lib.hid (HE2.out.2.2.2.trans (but_of (hb26.mono HE2.out.2.2.2.size)))
            have hs6 : w1.heap.size < w6.heap.size := hT6.lt
            have hih := idx_head y
            rw [HIX.out, HKK.out] at hih
            have HIH := Lib.hid hih
            clear hb26 HB5 HB6 HI HE2 HRl2 HLl2 HRl2d m0 m1 k0 k1 q0 q1 hih hwix
            by_cases hk0 : 0 < kk
            · have hk0i : (0 : Int) < (kk : Int) := by omega
              obtain ⟨sh, hsh⟩ := shape_some hk0 hk18
              have hnew := pnames_new (kk : Int) w6
              rw [hsh] at hnew
              simp only [Option.getD_some] at hnew
              have HSH := Lib.hid hsh
              have HNEW := Lib.hid hnew
              clear hsh hnew
              go_wp2_with fail
              refine HNEW.out.mono ?_
              rintro e w7 ⟨s7, rfl, hi7, hb7⟩
              obtain ⟨NA, ncap, rfl, -⟩ := hi7
              have hT7 := hT6.below hb7 hT6.lt
              have hB7 := hB6.below hb7 hB6.lt
              have HR7 := Lib.hid (HR6.out.below hb7)
              have HB7 := Lib.hid (HB26.out.trans (but_of (hb7.mono HB26.out.size)))
              have hs7 := hb7.size
              clear hb7 hT6 hB6 HR6 HB26 HNEW
              by_cases hsn : sh.length = 0
              · have hsh0 : sh = [] := List.eq_nil_of_length_eq_zero hsn
                subst hsh0
                have HH := Lib.hid (head_no HYR.out HIH.out (fun h => by rw [HSH.out] at h; exact h.2 rfl))
                clear hsn
                go_wp2_with fail
                go_meet
                rw [HH.out]
                exact ⟨hT7, hB7, HR7.out, HB7.out, by omega⟩
              · have hsn1 : (0 : Int) < (sh.length : Int) := by omega
                have HC := Lib.hid (show 0 < (kk : Int) ∧ (shape (kk : Int)).getD [] ≠ [] from ⟨hk0i, by rw [HSH.out]; intro e; exact hsn (by rw [show sh = [] from e]; rfl)⟩)
                have HH := Lib.hid (head_yes HYR.out HIH.out HC.out)
                obtain ⟨⟨d0, d1, d2⟩, e0, e1, e2⟩ := hT7.tri
                clear hsn HC
                go_wp2_with fail
                refine (ptake_any _ R L _ p.take.2 (HR7.out.far (a := ⟨w1.heap.size, 0, none⟩) (by simp; omega) (by simp; omega) _)).mono ?_
                rintro e w8 ⟨rfl, hR8', hb8⟩
                have hT8 := (hT7.set_ 0 (.int .i64 kk)).but hb8 (by have := hT7.lt; simpa using this) (by omega)
                have hB8 := (hB7.far (p := ⟨w1.heap.size, 0, none⟩) (by simp; omega) (.int .i64 kk)).but hb8 (by have := hB7.lt; simpa using this) (by omega)
                have hb9 := (HB7.out.setCell (p := ⟨w1.heap.size, 0, none⟩) (by simp; omega) (.int .i64 kk)).trans (hb8.mono (by have := HB7.out.size; simpa using this))
                have HE := Lib.hid (And.intro hT8 (And.intro hB8 (And.intro hR8' hb9)))
                have hs8 := hb8.size
                simp at hs8
                clear hT8 hB8 hb9 hb8 hR8' hT7 hB7 d0 d1 d2 e0 e1 e2
                go_wp2_with fail
                go_meet
                rw [HH.out]
                exact ⟨by have h := HE.out.1; simpa using h, HE.out.2.1, HE.out.2.2.1, HE.out.2.2.2, by omega⟩
            · obtain rfl : kk = 0 := by omega
              have HH := Lib.hid (head_no HYR.out HIH.out (fun h => by have := h.1; omega))
              go_wp2_with fail
              go_meet
              rw [HH.out]
              exact ⟨hT6, hB6, HR6.out, HB26.out, by omega⟩
          · obtain rfl : n1 = 0 := by omega
            have HH := Lib.hid (head_nil (List.eq_nil_of_length_eq_zero HN1.out))
            go_wp2_with fail
            go_meet
            rw [HH.out]
            exact ⟨hT2, hB2, hR2, hb2, by simp⟩
        case rest =>
          obtain ⟨hT, hB, hR, hbw, hsz⟩ := hcut
          obtain ⟨sh, hsh⟩ := headKind_shape p.take.2
          obtain ⟨⟨kk, q⟩, hkq⟩ : ∃ a, headKind p.take.2 = a := ⟨_, rfl⟩
          have heq := HEQ.out
          simp only [hkq] at hT hR hsh heq
          rw [hsh] at heq
          simp only [Option.getD_some] at heq
          have HQ := Lib.hid (show q.l <:+ p.l from by have h := headKind_l p.take.2; rw [hkq] at h; exact h.trans (take_l p))
          have HEQ2 := Lib.hid heq
          have HX4 := Lib.hid (shape_le hsh)
          have hsh4 : sh.length ≤ 4 := shape_len4 hsh
          have hnew := pnames_new kk wc
          rw [hsh] at hnew
          simp only [Option.getD_some] at hnew
          have HNEW := Lib.hid hnew
          have HR := Lib.hid hR
          have HBW := Lib.hid hbw
          obtain ⟨t0, t1, t2⟩ := hT.tri.1
          clear heq hsh hR hbw HEQ hkq hnew r0 HS1 HN1 HB1T hl1a
          go_wp2_with fail
          refine HNEW.out.mono ?_
          rintro e wn ⟨s7, rfl, hi7, hb7⟩
          have hT7 := hT.below hb7 hT.lt
          have hB7 := hB.below hb7 hB.lt
          have hR7 := HR.out.below hb7
          have hbw7 := HBW.out.trans (but_of (hb7.mono HBW.out.size))
          have hszn := hb7.size
          have hi8 := hi7.toB
          obtain ⟨NA, ncap, rfl, -⟩ := id hi7
          clear hb7 hT hB HR HBW HNEW t0 t1 t2 hi7
          have hgs : w.heap.size < w1.heap.size := by omega
          have hts : w1.heap.size < wc.heap.size := by omega
          obtain ⟨lo, hlo⟩ : ∃ lo, wc.heap.size = lo := ⟨_, rfl⟩
          rw [hlo] at hts hi8 hszn
          clear hlo hsz
          obtain ⟨g, hg⟩ : ∃ g, pterm canon decls f = g := ⟨_, rfl⟩
          have heq := HEQ2.out
          rw [hg] at heq
          have HEQ := Lib.hid heq
          have HG := Lib.hid hg
          clear heq hg HEQ2
          go_wp2_with fail
          go_loopw [99] (fun iv wr => ∃ (j : Nat) (ts : List T) (V : Value) (qj : PS), j ≤ sh.length ∧ iv = .int .i64 j ∧ ts.length = j ∧ intsB lo wn.heap.size wr sh (.slice NA sh.length ncap) ∧ Blk wr w1.heap.size 30 #[.int .i64 kk, .int .i64 0, V] ∧ Blk wr w.heap.size 30 #[.int .i64 0, .int .i64 0, .slice none 0 0] ∧
            RowS wr nowhere wn.heap.size V ts ∧ PBox wr R L (.slice DA decls.length dcap) qj ∧ But R w.heap.size w wr ∧ wn.heap.size ≤ wr.heap.size ∧ qj.l <:+ p.l ∧ Hid ((ts ++ (pargs g bound (sh.drop j) qj).1, (pargs g bound (sh.drop j) qj).2) = pargs g bound sh q)) (fun iv _ => sh.length - (intOf iv).toNat)
          case atStart => exact ⟨0, [], .slice none 0 0, q, Nat.zero_le _, rfl, rfl, hi8, hT7, hB7, RowS.nil _ _ _, hR7, hbw7, Nat.le_refl _, HQ.out, Lib.hid rfl⟩
          case round =>
            obtain ⟨j, ts, V, qj, hj, rfl, htl, hN, hT, hB, hrow, hR, hbw, hsz2, hqj, hrel2⟩ := hrel
            obtain ⟨wi, rfl⟩ : ∃ x, x = wr := ⟨_, rfl⟩
            have htb : ts.length ≤ 10 := by omega
            have HTL := Lib.hid htl
            clear hi8 hT7 hB7 hR7 hbw7 htl
            by_cases hlt : j < sh.length
            · obtain ⟨y, hy⟩ := length_getElem hlt
              have hy2 : y ≤ 2 := HX4.out y (List.mem_of_getElem? hy)
              have HN := Lib.hid hN
              obtain ⟨NA', ncap', hNe, hNc⟩ := hN
              cases hNe
              obtain ⟨nb, noff, rfl, hnl, hnh, hnc⟩ := hNc j y hy
              have hRi : R < wi.heap.size := Nat.lt_of_lt_of_le hRl hbw.size
              have HA := Lib.hid (And.intro hT (And.intro hB (And.intro hrow (And.intro hR (And.intro hbw HN.out)))))
              have HY := Lib.hid hy
              have HREL := hrel2
              have HLO := Lib.hid hszn
              obtain ⟨i0, hi0, hz0, hz1, hz2⟩ := info_parts Tryz.infoStr
              have HCL := Lib.hid (clone_any R bound wi _ (HP.out.2.2.but hbw) (by omega))
              clear hT hB hrow hR hbw hy hNc hrel2 HN
              go_wp2_with fail
              refine HCL.out.mono ?_
              rintro e wa ⟨V2, rfl, hown, hba⟩
              have HBA := Lib.hid hba
              have hRa := HA.out.2.2.2.1.below hba
              clear HCL hba hnc
              obtain ⟨A2, cap2, hV2, -⟩ := Strs.own (R := R) hown hRi
              subst hV2
              obtain ⟨gp, hgp⟩ : ∃ gp, binders y bound qj = gp := ⟨_, rfl⟩
              have HGP := Lib.hid hgp
              have HGP0 := Lib.hid hgp
              clear hgp
              go_wp2_with fail
              go_loopw [15, 106] (fun v2 i wv => ∃ n : Nat, n ≤ y ∧ i = .int .i64 n ∧ ∃ (l : List Str) (qn : PS), wv.ownsRow wi.heap.size 9 1 v2 l.length (strc l) ∧ PBox wv R L (.slice DA decls.length dcap) qn ∧ But R wi.heap.size wi wv ∧ Hid (binders (y - n) l qn = gp) ∧ l.length = bound.length + n ∧ qn.l <:+ qj.l) (fun _ i _ => y - (intOf i).toNat)
              case atStart => exact ⟨0, Nat.zero_le _, rfl, bound, qj, hown, hRa, but_of HBA.out, by rw [Nat.sub_zero]; exact HGP, rfl, List.suffix_refl _⟩
              case round =>
                obtain ⟨n, hn, rfl, l, qn, hown3, hR3, hb3, hbn, hll, hqn⟩ := hrel
                have HLL := Lib.hid hll
                have hlb : l.length ≤ 1000000002 := by omega
                clear hown hRa HGP HBA hll
                obtain ⟨A3, cap3, hV3, -⟩ := Strs.own (R := R) hown3 hRi
                subst hV3
                by_cases hny : n < y
                · have HB3 := Lib.hid hb3
                  have HO3 := Lib.hid hown3
                  have HR3 := Lib.hid hR3
                  have hlx := (HW.out.sub (hqn.trans hqj)).take
                  have HBN := Lib.hid (show binders (y - n) l qn = binders (y - (n + 1)) (l ++ [qn.take.1]) (if isName qn.take.1 then qn.take.2 else qn.take.2.fail 7) from by
                    rw [show y - n = (y - (n + 1)) + 1 by omega]; rfl)
                  have HQT := Lib.hid (take_l qn)
                  clear hb3 hown3 hR3
                  go_wp2_with fail
                  refine (ptake_any _ R L _ qn HR3.out).mono ?_
                  rintro e wx ⟨rfl, hR4, hb4⟩
                  have HO4 := Lib.hid (own_but HO3.out hRi hb4)
                  have HB4 := Lib.hid (HB3.out.trans (hb4.mono HB3.out.size))
                  have HR4 := Lib.hid hR4
                  obtain ⟨⟨x, q1⟩, hx⟩ : ∃ a, qn.take = a := ⟨_, rfl⟩
                  have hbn2 := HBN.out
                  have hqt := HQT.out
                  have hr4 := HR4.out
                  simp only [hx] at hbn2 hqt hr4 hlx ⊢
                  have HBN2 := Lib.hid hbn2
                  have HQT2 := Lib.hid hqt
                  have HR5 := Lib.hid hr4
                  clear hb4 hR4 hbn2 hqt hr4 HR4 HR3 HO3 HB3 HBN HQT hx
                  go_wp2_with fail
                  refine (pnm_any x hlx _).mono ?_
                  rintro e wy ⟨rfl, hb5⟩
                  have HO5 := Lib.hid (own_but HO4.out hRi (but_of hb5))
                  have HB5 := Lib.hid (HB4.out.trans (but_of (hb5.mono HB4.out.size)))
                  have HR6 := Lib.hid (HR5.out.below hb5)
                  clear hb5 HO4 HB4 HR5
                  obtain ⟨nm, hnm⟩ : ∃ b, isName x = b := ⟨_, rfl⟩
                  have hbn3 := HBN2.out
                  rw [hnm] at hbn3 ⊢
                  have HBN3 := Lib.hid hbn3
                  clear hbn3 HBN2 hnm
                  go_upto_if 112 with fail
                  go_cut [] from 113 to 114 (fun wz => wz.ownsRow wi.heap.size 9 1 (.slice A3 l.length cap3) l.length (strc l) ∧ PBox wz R L (.slice DA decls.length dcap) (if nm = true then q1 else q1.fail 7) ∧ But R wi.heap.size wi wz)
                  case first =>
                    cases nm with
                    | true =>
                      go_wp2_with fail
                      go_meet
                      exact ⟨HO5.out, by simpa using HR6.out, HB5.out⟩
                    | false =>
                      go_wp2_with fail
                      refine (pfail_any _ R L _ q1 7 HR6.out).mono ?_
                      rintro e wz ⟨rfl, hR7, hb7⟩
                      have HE := Lib.hid (And.intro (own_but HO5.out hRi hb7) (And.intro hR7 (HB5.out.trans (hb7.mono HB5.out.size))))
                      clear hR7 hb7
                      go_wp2_with fail
                      go_meet
                      exact ⟨HE.out.1, by simpa using HE.out.2.1, HE.out.2.2⟩
                  case rest =>
                    obtain ⟨hO7, hR7, hb7⟩ := hcut
                    have HOA := Lib.hid (hO7.alloc (.cells #[.string ⟨x.toArray⟩] 9))
                    have HRB := Lib.hid (hR7.below ((Below.refl wc.heap.size wc).alloc (Nat.le_refl _) (.cells #[.string ⟨x.toArray⟩] 9)))
                    have HBA := Lib.hid (hb7.alloc hb7.size (.cells #[.string ⟨x.toArray⟩] 9))
                    have HRD := Lib.hid (reads_new wc (.string ⟨x.toArray⟩) 9)
                    have hl1 : l.length + 1 ≤ maxLen := by unfold maxLen; omega
                    have hl2 : (l.length + 1) * 16 ≤ 140737488355328 := by omega
                    have hs7 := hb7.size
                    clear hO7 hR7 hb7 HO5 HB5 HR6
                    go_wp2_with (first | (at_builtin; go_loud (refine wpList_append_any _ rfl (.tmp 115) (.tmp 117) 35 rfl wi.heap.size 9 i0 (.string ⟨#[]⟩) 1 16 Tryz.underlying35 hi0 hz0 hz1 hz2 rfl (by decide) _ l.length (strc l) rfl HOA.out (wc.alloc (.cells #[.string ⟨x.toArray⟩] 9)).heap.size (some ⟨wc.heap.size, 0, none⟩) 1 1 [.string ⟨x.toArray⟩] rfl HRD.out (by intro u hu; simp at hu; subst hu; rfl) hl1 hl2 (by simp; omega) ?_)))
                    intro V4 w9 hown9 hgr9 _
                    have hown9' : w9.ownsRow wi.heap.size 9 1 V4 (l ++ [x]).length (strc (l ++ [x])) := by simpa [strc] using hown9
                    have hlo : ∀ g, (Value.slice A3 l.length cap3).ownBlock = some g → wi.heap.size ≤ g := fun g hg => (HOA.out.lt g hg).1
                    have HE := Lib.hid (And.intro hown9' (And.intro (HRB.out.grown hgr9 (fun e => absurd (hlo R e.symm) (by omega)) (fun e => absurd (hlo L e.symm) (by omega))) (HBA.out.grown hgr9 (by simp; omega) hlo)))
                    clear hown9 hgr9 hown9' HOA HRB HBA HRD
                    go_wp2_with fail
                    go_roundw
                    case rel => exact ⟨n + 1, by omega, by go_num, l ++ [x], _, HE.out.1, HE.out.2.1, HE.out.2.2, Lib.hid (HBN3.out.symm.trans hbn.out), by rw [List.length_append, HLL.out]; rfl, by split <;> first | exact HQT2.out.trans hqn | (rw [fail_l]; exact HQT2.out.trans hqn)⟩
                    case measure => simp [intOf]; omega
                · obtain rfl : n = y := by omega
                  have hgp := hbn.out
                  rw [Nat.sub_self] at hgp
                  have HGP := Lib.hid (show gp = (l, qn) from hgp.symm)
                  have HO := Lib.hid hown3
                  have HR := Lib.hid hR3
                  have HB := Lib.hid hb3
                  clear hgp hbn hown3 hR3 hb3
                  go_upto_if 122 with fail
                  go_cut [] from 120 to 124 (fun wz => wz.ownsRow wi.heap.size 9 1 (.slice A3 l.length cap3) l.length (strc l) ∧ PBox wz R L (.slice DA decls.length dcap) (if 8 < l.length then qn.fail 5 else qn) ∧ But R wi.heap.size wi wz)
                  case first =>
                    by_cases h8 : 8 < l.length
                    · have h8' : (8 : Int) < (l.length : Int) := by omega
                      go_wp2_with fail
                      refine (pfail_any _ R L _ qn 5 HR.out).mono ?_
                      rintro e wz ⟨rfl, hR7, hb7⟩
                      have HE := Lib.hid (And.intro (own_but HO.out hRi hb7) (And.intro hR7 (HB.out.trans (hb7.mono HB.out.size))))
                      clear hR7 hb7
                      go_wp2_with fail
                      go_meet
                      exact ⟨HE.out.1, by rw [if_pos h8]; exact HE.out.2.1, HE.out.2.2⟩
                    · have h8' : ¬ (8 : Int) < (l.length : Int) := by omega
                      go_wp2_with fail
                      go_meet
                      exact ⟨HO.out, by rw [if_neg h8]; exact HR.out, HB.out⟩
                  case rest =>
                    obtain ⟨hO7, hR7, hb7⟩ := hcut
                    obtain ⟨q5, hq5⟩ : ∃ a, (if 8 < l.length then qn.fail 5 else qn) = a := ⟨_, rfl⟩
                    rw [hq5] at hR7
                    have hq5l : q5.l <:+ p.l := by
                      rw [← hq5]
                      split
                      · rw [fail_l]; exact hqn.trans hqj
                      · exact hqn.trans hqj
                    have HQ5 := Lib.hid hq5
                    have hTz := HA.out.1.but hb7 HA.out.1.lt (by omega)
                    have hBz := HA.out.2.1.but hb7 HA.out.2.1.lt (by omega)
                    have hrowz := HA.out.2.2.1.but (X := R) (fun b h => h.elim) (by omega) (fun h => h) hsz2 hb7
                    have hbwz := HA.out.2.2.2.2.1.trans (hb7.mono HA.out.2.2.2.2.1.size)
                    have hitz := HA.out.2.2.2.2.2.keep (fun b hb1 hb2 => hb7.block b (by omega) (by omega))
                    have hsz8 := hb7.size
                    have hih := IH.out (deep + 1) l q5 wc.drew _ (HV.out.but hbwz.drew hR8 HV.out.1) (hR7.below (Below.refl wc.heap.size wc).drew) (HP.out.2.1.but hbwz.drew) (Strs.own (R := R) hO7.drew hRi) (HW.out.sub hq5l) (by have := HLL.out; omega) (by omega) (by omega)
                    rw [HG.out] at hih
                    have HIH := Lib.hid hih
                    obtain ⟨AV, capV, hV⟩ := hrowz.form
                    subst hV
                    obtain ⟨⟨v0, v1, v2⟩, f0, f1, f2⟩ := hTz.tri
                    have HT := Lib.hid hTz
                    have HBZ := Lib.hid hBz
                    have HROW := Lib.hid hrowz
                    have HBW := Lib.hid hbwz
                    have HIT := Lib.hid hitz
                    have hwd : IntKind.i64.wrap (deep + 1) = deep + 1 := IntWalk.i64_in _ (by omega)
                    clear hO7 hR7 hb7 hTz hBz hrowz hbwz hitz hih HO HR HB HA hq5
                    obtain ⟨⟨xt, xp⟩, hgx⟩ : ∃ a, g l q5 = a := ⟨_, rfl⟩
                    have hih := HIH.out
                    rw [hgx] at hih
                    have HIH2 := Lib.hid (show Calls Tryz.prog 37 #[.pointer (some ⟨R, 0, none⟩), .slice A3 l.length cap3, .int .i64 (deep + 1)] wc.drew (fun e w' => ∃ s, e = .returned (.agg #[.int .i64 xt.k, .int .i64 xt.n, s]) ∧ argsInS w' (orNew nowhere wc.drew w') xt s ∧ PBox w' R L (.slice DA decls.length dcap) xp ∧ But R wc.drew.heap.size wc.drew w') from hih)
                    have hneR : w1.heap.size ≠ R := by omega
                    have HGX := Lib.hid hgx
                    clear hih hgx HIH
                    have hts1 : w1.heap.size < wc.heap.size := by omega
                    have HLEN := Lib.hid (show ts.length ≤ 2000000000 by omega)
                    have HRB := Lib.hid (show R < wn.heap.size by omega)
                    have HBS := Lib.hid (show wn.heap.size ≤ wc.heap.size by omega)
                    have HNE := Lib.hid (show ∀ b : Nat, b < wn.heap.size → some b ≠ (Value.slice AV ts.length capV).ownBlock from fun b hb e => absurd (HROW.out.lt b e.symm).1 (by omega))
                    go_wp2_with fail
                    go_region_law
                      (first
                        | ((refine step_append_term _ rfl (.tmp 126) (.tmp 132) rfl nowhere wn.heap.size (fun b h => h.elim) HRC.out.2.2 (.slice AV ts.length capV) ts rfl HRC.out.1 HLEN.out xt (.slice A8 xt.al.length cap8) HRC.out.2.1 ⟨w8.heap.size, 0, none⟩ 1 rfl (new_term w8 (.int .i64 xt.k) (.int .i64 xt.n) (.slice A8 xt.al.length cap8) 30 w8.heap.size rfl) ?_); intro V9 w9 hrow9 hg9 _; (obtain ⟨AV9, cap9, hV9⟩ := hrow9.form); (rw [show (ts ++ [xt]).length = ts.length + 1 from by simp] at hV9); subst hV9; (have HR9 := Lib.hid hrow9); (have HG9 := Lib.hid hg9); (obtain ⟨⟨y0, y1, y2⟩, z0, z1, z2⟩ := (((HT.out.drew.but HB8.out hts1 hneR).alloc (.cells #[.int .i64 xt.k, .int .i64 xt.n, .slice A8 xt.al.length cap8] 30)).grown hg9 (HNE.out w1.heap.size (by omega))).tri); clear hrow9 hg9)
                        | (go_simp; (with_reducible refine (HIH2.out).mono ?_); rintro e w8 ⟨s8, rfl, hx8, hr8, hb8⟩; (obtain ⟨A8, cap8, rfl, -⟩ := argsInS_iff.1 hx8); (have k2 := (hb8.cell (p := ⟨w1.heap.size, 2, none⟩) hts1 hneR : _ = wc.cell? _).trans v2); (have HX8 := Lib.hid hx8); (have HR8 := Lib.hid hr8); (have HB8 := Lib.hid hb8); (have hs8 := hb8.size); (have a2 := (World.cell?_alloc_lt w8 (.cells #[.int .i64 xt.k, .int .i64 xt.n, .slice A8 xt.al.length cap8] 30) ⟨w1.heap.size, 2, none⟩ (Nat.lt_of_lt_of_le hts1 hs8)).trans k2); (have HRC := Lib.hid (row_call_but HROW.out (fun b h => h.elim) HRB.out (fun h => h) HBS.out (Below.refl wc.heap.size wc).drew hb8 hx8 (.cells #[.int .i64 xt.k, .int .i64 xt.n, .slice A8 xt.al.length cap8] 30))); clear hx8 hr8 hb8; go_wp2_with fail)
                        | fail)
                    all_goals
                      have hxp : xp.l <:+ p.l := by
                        have h1 : xp = (g l q5).2 := by rw [HGX.out]
                        rw [h1, ← HG.out]
                        exact (pterm_l f l q5).trans hq5l
                      have hfin : (ts ++ [xt] ++ (pargs g bound (sh.drop (j + 1)) xp).1, (pargs g bound (sh.drop (j + 1)) xp).2) = pargs g bound sh q := by
                        rw [← HREL.out, List.drop_eq_getElem_cons hlt, (List.getElem?_eq_some_iff.1 HY.out).2, pargs]
                        dsimp only
                        rw [HGP0.out, HGP.out]
                        dsimp only
                        rw [HQ5.out, HGX.out]
                        simp
                      have HFIN := Lib.hid hfin
                      have HRND := Lib.hid (pterm_round HIT.out HT.out HBZ.out HBW.out HB8.out HR8.out HG9.out HR9.out HNE.out hRl hLl hgs hts HLO.out HBS.out)
                      clear hfin
                      go_wp2_with fail
                      go_roundw
                      case rel => exact ⟨j + 1, ts ++ [xt], _, xp, by omega, by go_num, by rw [List.length_append, HTL.out]; rfl, HRND.out.1, HRND.out.2.1, HRND.out.2.2.1, HRND.out.2.2.2.1, HRND.out.2.2.2.2.1, HRND.out.2.2.2.2.2.1, HRND.out.2.2.2.2.2.2, hxp, HFIN⟩
                      case measure => simp [intOf]; omega
            · obtain rfl : j = sh.length := by omega
              have hpa : pargs g bound sh q = (ts, qj) := by
                have h := hrel2.out
                rw [List.drop_length, pargs] at h
                simpa using h.symm
              have heq := HEQ.out
              rw [hpa] at heq
              dsimp only at heq
              have HEQ3 := Lib.hid heq
              obtain ⟨AV, capV, hV⟩ := hrow.form
              subst hV
              have HT := Lib.hid hT
              have HBZ := Lib.hid hB
              have HROW := Lib.hid hrow
              have HBW := Lib.hid hbw
              have HR := Lib.hid hR
              clear hT hB hrow hR hbw hpa heq hrel2 HEQ hN
              go_wp2_with fail
              refine (ptake_any _ R L _ qj HR.out).mono ?_
              rintro e wx ⟨rfl, hRx, hbx⟩
              have hTx := HT.out.but hbx HT.out.lt (by omega)
              have hBx := HBZ.out.but hbx HBZ.out.lt (by omega)
              have HROWX := Lib.hid (HROW.out.but (X := R) (fun b h => h.elim) (by omega) (fun h => h) hsz2 hbx)
              have HBWX := Lib.hid (HBW.out.trans (hbx.mono HBW.out.size))
              have hszx : wn.heap.size ≤ wx.heap.size := Nat.le_trans hsz2 hbx.size
              have HRX := Lib.hid hRx
              clear hbx hRx HT HBZ HROW HBW HR
              by_cases hx : qj.take.1 = [41]
              · have hxb : (qj.take.1 == [41]) = true := by simpa using hx
                have HC := Lib.hid (show closed qj = qj.take.2 from by unfold closed; rw [if_pos hx])
                obtain ⟨t0, t1, t2⟩ := hTx.tri.1
                obtain ⟨⟨d0, d1, d2⟩, e0, e1, e2⟩ := hBx.tri
                clear hx hTx hBx
                go_wp2_with fail
                refine bodyPost_ret (v := .agg #[.int .i64 kk, .int .i64 0, .slice AV ts.length capV]) (by simp [results, Tryz.results37, go_sem, d0, d1, d2]) rfl ?_
                rw [HEQ3.out, HC.out]
                exact ⟨_, rfl, term_fin HROWX.out (by omega) hszx, (box_end HRX.out HBWX.out hRl hLl).1, (box_end HRX.out HBWX.out hRl hLl).2⟩
              · have hxb : (qj.take.1 == [41]) = false := by simpa using hx
                have HC := Lib.hid (show closed qj = qj.take.2.fail 2 from by unfold closed; rw [if_neg hx])
                clear hx
                go_wp2_with fail
                refine (pfail_any _ R L _ qj.take.2 2 HRX.out).mono ?_
                rintro e wy ⟨rfl, hRy, hby⟩
                have hTy := hTx.but hby hTx.lt (by omega)
                have hBy := hBx.but hby hBx.lt (by omega)
                have HROWY := Lib.hid (HROWX.out.but (X := R) (fun b h => h.elim) (by omega) (fun h => h) hszx hby)
                have HBWY := Lib.hid (HBWX.out.trans (hby.mono HBWX.out.size))
                have hszy : wn.heap.size ≤ wy.heap.size := Nat.le_trans hszx hby.size
                have HRY := Lib.hid hRy
                obtain ⟨t0, t1, t2⟩ := hTy.tri.1
                obtain ⟨⟨d0, d1, d2⟩, e0, e1, e2⟩ := hBy.tri
                clear hby hRy hTx hBx hTy hBy HROWX HBWX HRX
                go_wp2_with fail
                refine bodyPost_ret (v := .agg #[.int .i64 kk, .int .i64 0, .slice AV ts.length capV]) (by simp [results, Tryz.results37, go_sem, d0, d1, d2]) rfl ?_
                rw [HEQ3.out, HC.out]
                exact ⟨_, rfl, term_fin HROWY.out (by omega) hszy, (box_end HRY.out HBWY.out hRl hLl).1, (box_end HRY.out HBWY.out hRl hLl).2⟩
      · have HEQ := Lib.hid (pterm_atom (cn := canon) (decls := decls) (f := f) (bound := bound) HPE.out hx)
        have hxb : (p.take.1 == [40]) = false := by simpa using hx
        clear hx
        obtain ⟨x, hxx⟩ : ∃ x, p.take.1 = x := ⟨_, rfl⟩
        have heq := HEQ.out
        rw [hxx] at heq hxb hlx ⊢
        have HEQ := Lib.hid heq
        clear heq hxx
        by_cases hU : x.head? = some 85
        · obtain ⟨r, rfl⟩ : ∃ r, x = 85 :: r := by
            cases x with
            | nil => cases hU
            | cons a r => simp at hU; exact ⟨r, by rw [hU]⟩
          have hrl : r.length ≤ 1000000000000 := by simp at hlx; omega
          clear hU
          go_wp2_with fail
          refine (cutU_yes r w1).mono ?_
          rintro e w2 ⟨rfl, rfl⟩
          go_wp2_with fail
          refine (pheight_any r hrl R L _ p.take.2 w2 HR1.out (HV.out.but HB1.out hR8 HV.out.1)).mono ?_
          rintro e w3 ⟨rfl, hR3, hb3⟩
          unfold atomV
          obtain ⟨⟨d0, d1, d2⟩, e0, e1, e2⟩ := (hB1.but hb3 hB1.lt (by omega)).tri
          have HE := Lib.hid (And.intro hR3 (HB1.out.trans (hb3.mono HB1.out.size)))
          clear hR3 hb3 hB1
          go_wp2_with fail
          refine bodyPost_ret (v := .agg #[.int .i64 (height canon r p.take.2).1.k, .int .i64 (height canon r p.take.2).1.n, .slice none 0 0]) (by simp [results, Tryz.results37, go_sem, d0, d1, d2]) rfl ?_
          rw [HEQ.out]
          refine termP_atom (by rw [atom_U]; rfl) ?_ (box_end HE.out.1 HE.out.2 hRl hLl).2
          rw [atom_U]
          exact (box_end HE.out.1 HE.out.2 hRl hLl).1
        · have hgeb := idx_ge x
          have HU := Lib.hid hU
          obtain ⟨ix, hix⟩ : ∃ ix, idxOf W18 x = ix := ⟨_, rfl⟩
          have HIX := Lib.hid hix
          rw [hix] at hgeb
          clear hU
          go_wp2_with fail
          refine (cutU_no x HU.out w1).mono ?_
          rintro e w2 ⟨rfl, rfl⟩
          go_wp2_with fail
          refine (pwords_new R w2 HR1.out.lt).mono ?_
          rintro e w3 ⟨v3, rfl, hs3, hb3⟩
          have hindex := index_any R W18 x w3 v3 hs3 (by decide)
          rw [hix] at hindex
          clear hix
          go_wp2_with fail
          refine hindex.mono ?_
          clear hindex
          rintro e w4 ⟨rfl, hb4⟩
          have hb34 := hb3.trans (hb4.mono hb3.size)
          have hB4 := hB1.below hb34 hB1.lt
          have hb5 := HB1.out.trans (but_of (hb34.mono HB1.out.size))
          have HB4 := Lib.hid (And.intro hb5 (HR1.out.below hb34))
          have hs4 := hb5.size
          clear hb3 hb4 hb34 hB1 hs3 HR1 HB1 hb5
          have hwix : IntKind.i64.wrap (ix + 1) = ix + 1 := IntWalk.i64_in _ (by omega)
          by_cases h0 : x = []
          · subst h0
            have HK := Lib.hid (show kindOf ([] : Str) = 0 ∧ isName [] = false from ⟨rfl, rfl⟩)
            go_wp2_with fail
            refine (pnm_any [] hlx w4).mono ?_
            rintro e w6 ⟨rfl, hb6⟩
            have hB6 := hB4.below hb6 hB4.lt
            have hb7 := HB4.out.1.trans (but_of (hb6.mono hs4))
            have HB6 := Lib.hid (And.intro hb7 (HB4.out.2.below hb6))
            have hs6 := hb7.size
            clear hb6 hb7 HB4 hB4
            rw [HK.out.2]
            go_wp2_with fail
            refine (pfail_any _ R L _ p.take.2 7 HB6.out.2).mono ?_
            rintro e w5 ⟨rfl, hR5, hb5⟩
            obtain ⟨⟨d0, d1, d2⟩, e0, e1, e2⟩ := (hB6.but hb5 hB6.lt (by omega)).tri
            have HE := Lib.hid (And.intro hR5 (HB6.out.1.trans (hb5.mono hs6)))
            clear hR5 hb5 hB6
            go_wp2_with fail
            refine bodyPost_ret (v := .agg #[.int .i64 0, .int .i64 0, .slice none 0 0]) (by simp [results, Tryz.results37, go_sem, d0, d1, d2]) rfl ?_
            rw [HEQ.out]
            refine termP_atom (by rw [atom_bad HU.out HK.out.1 HK.out.2]; rfl) ?_ (box_end HE.out.1 HE.out.2 hRl hLl).2
            rw [atom_bad HU.out HK.out.1 HK.out.2]
            exact (box_end HE.out.1 HE.out.2 hRl hLl).1
            
          · have h0b : x.isEmpty = false := by simpa using h0
            have HK := Lib.hid (show ix + 1 = kindOf x from by rw [← HIX.out]; exact idx_kind h0 HU.out)
            clear h0
            by_cases hk : kindOf x = 0
            · obtain rfl : ix = -1 := by have := HK.out; omega
              have HK0 := Lib.hid hk
              clear hk hgeb hwix
              go_wp2_with fail
              refine (pnm_any x hlx w4).mono ?_
              rintro e w6 ⟨rfl, hb6⟩
              have hB6 := hB4.below hb6 hB4.lt
              have hb7 := HB4.out.1.trans (but_of (hb6.mono hs4))
              have HB6 := Lib.hid (And.intro hb7 (HB4.out.2.below hb6))
              have hs6 := hb7.size
              clear hb6 hb7 HB4 hB4
              by_cases hn : isName x = true
              · have HN := Lib.hid hn
                rw [hn]
                clear hn
                have HVN := Lib.hid (HP.out.2.1.but HB6.out.1)
                have HVB := Lib.hid (HP.out.2.2.but HB6.out.1)
                have HNM := Lib.hid (pname_any decls bound R L DA dcap x p.take.2 w6 BA bcap HB6.out.2 HVN.out HVB.out hdl (by omega))
                go_wp2_with fail
                refine HNM.out.mono ?_
                rintro e w5 ⟨rfl, hR5, hb5⟩
                unfold atomV
                obtain ⟨⟨d0, d1, d2⟩, e0, e1, e2⟩ := (hB6.but hb5 hB6.lt (by omega)).tri
                have HE := Lib.hid (And.intro hR5 (HB6.out.1.trans (hb5.mono hs6)))
                clear hR5 hb5 hB6 HNM
                go_wp2_with fail
                refine bodyPost_ret (v := .agg #[.int .i64 (named decls bound x p.take.2).1.k, .int .i64 (named decls bound x p.take.2).1.n, .slice none 0 0]) (by simp [results, Tryz.results37, go_sem, d0, d1, d2]) rfl ?_
                rw [HEQ.out]
                refine termP_atom (by rw [atom_named HU.out HK0.out HN.out]; rfl) ?_ (box_end HE.out.1 HE.out.2 hRl hLl).2
                rw [atom_named HU.out HK0.out HN.out]
                exact (box_end HE.out.1 HE.out.2 hRl hLl).1
              · have HN := Lib.hid (show isName x = false from by simpa using hn)
                rw [HN.out]
                clear hn
                go_wp2_with fail
                refine (pfail_any _ R L _ p.take.2 7 HB6.out.2).mono ?_
                rintro e w5 ⟨rfl, hR5, hb5⟩
                obtain ⟨⟨d0, d1, d2⟩, e0, e1, e2⟩ := (hB6.but hb5 hB6.lt (by omega)).tri
                have HE := Lib.hid (And.intro hR5 (HB6.out.1.trans (hb5.mono hs6)))
                clear hR5 hb5 hB6
                go_wp2_with fail
                refine bodyPost_ret (v := .agg #[.int .i64 0, .int .i64 0, .slice none 0 0]) (by simp [results, Tryz.results37, go_sem, d0, d1, d2]) rfl ?_
                rw [HEQ.out]
                refine termP_atom (by rw [atom_bad HU.out HK0.out HN.out]; rfl) ?_ (box_end HE.out.1 HE.out.2 hRl hLl).2
                rw [atom_bad HU.out HK0.out HN.out]
                exact (box_end HE.out.1 HE.out.2 hRl hLl).1
                
            · obtain ⟨kk, hkk⟩ : ∃ kk, kindOf x = kk := ⟨_, rfl⟩
              have hx1 := HK.out
              rw [hkk] at hx1 hk
              have HKK := Lib.hid hkk
              have hixb : (ix + 1 == 0) = false := by rw [beq_eq_false_iff_ne]; omega
              have hk17 := kindOf_le x
              rw [hkk] at hk17
              obtain ⟨sh, hsh⟩ := shape_some (k := kk) (by omega) (by omega)
              have HSH := Lib.hid hsh
              rw [hx1] at hwix hixb
              have hnew := pnames_new (kk : Int) w4
              rw [hsh] at hnew
              simp only [Option.getD_some] at hnew
              have HNEW := Lib.hid hnew
              have HX1 := Lib.hid hx1
              clear hsh hnew hkk
              go_wp2_with fail
              refine HNEW.out.mono ?_
              rintro e w6 ⟨s6, rfl, hi6, hb6⟩
              obtain ⟨NA, ncap, rfl, -⟩ := hi6
              have hB6 := hB4.below hb6 hB4.lt
              have hb7 := HB4.out.1.trans (but_of (hb6.mono hs4))
              have HB6 := Lib.hid (And.intro hb7 (HB4.out.2.below hb6))
              have hs6 := hb7.size
              clear hb6 hb7 HB4 hB4 hgeb HNEW hwix hixb hx1
              by_cases hsn : sh.length = 0
              · have hsh0 : sh = [] := List.eq_nil_of_length_eq_zero hsn
                subst hsh0
                have HAT := Lib.hid (atom_kind (cn := canon) (decls := decls) (bound := bound) (p := p.take.2) HU.out (by rw [HKK.out]; omega) (by rw [HKK.out]; exact HSH.out))
                obtain ⟨⟨d0, d1, d2⟩, e0, e1, e2⟩ := hB6.tri
                clear hsn hB6
                go_wp2_with fail
                refine bodyPost_ret (v := .agg #[.int .i64 kk, .int .i64 0, .slice none 0 0]) (by simp [results, Tryz.results37, go_sem, d0, d1, d2]) rfl ?_
                rw [HEQ.out]
                refine termP_atom (by rw [HAT.out, HKK.out]; rfl) ?_ (box_end HB6.out.2 HB6.out.1 hRl hLl).2
                rw [HAT.out]
                exact (box_end HB6.out.2 HB6.out.1 hRl hLl).1
              · have hsn1 : (0 : Int) < (sh.length : Int) := by omega
                have HAT := Lib.hid (atom_form (cn := canon) (decls := decls) (bound := bound) (p := p.take.2) HU.out (by rw [HKK.out]; omega) (by rw [HKK.out, HSH.out]; intro e; cases e; exact hsn rfl))
                clear hsn
                go_wp2_with fail
                refine (pfail_any _ R L _ p.take.2 2 HB6.out.2).mono ?_
                rintro e w5 ⟨rfl, hR5, hb5⟩
                obtain ⟨⟨d0, d1, d2⟩, e0, e1, e2⟩ := (hB6.but hb5 hB6.lt (by omega)).tri
                have HE := Lib.hid (And.intro hR5 (HB6.out.1.trans (hb5.mono hs6)))
                clear hR5 hb5 hB6
                go_wp2_with fail
                refine bodyPost_ret (v := .agg #[.int .i64 0, .int .i64 0, .slice none 0 0]) (by simp [results, Tryz.results37, go_sem, d0, d1, d2]) rfl ?_
                rw [HEQ.out]
                refine termP_atom (by rw [HAT.out]; rfl) ?_ (box_end HE.out.1 HE.out.2 hRl hLl).2
                rw [HAT.out]
                exact (box_end HE.out.1 HE.out.2 hRl hLl).1
                
    · rw [pterm_err hpe]
      have hpeb : (p.e == 0) = false := by simpa using hpe
      clear hpe
      go_enter Tryz.func37, Tryz.ntmps37
      go_wp2_with fail
      refine bodyPost_ret (v := .agg #[.int .i64 0, .int .i64 0, .slice none 0 0]) (by simp [results, Tryz.results37, go_sem]) rfl ⟨_, rfl, args_none _ _ _ _, HP.out.1.below hb0, but_of hb0⟩
end Go.Proofs.YtjboibbgigkhkaaGreatDoor

/- text.Parse: the term of a text, by the program's own reader. -/
namespace Go.Proofs.YtjboibbgigkhkaaGreatDoor
open Go.RowKit
set_option maxRecDepth 100000

theorem pbox_new {w : World} {base : Nat} {V D : Value} {l : List Str} (h : w.ownsRow base 9 1 V l.length (strc l)) (hl : l.length ≤ 1000000000000) (hb : 0 < base) :
    ∃ L, PBox (w.alloc (.cells #[V, D, .int .i64 0] 75)) w.heap.size L D ⟨l, 0⟩ := by
  have hs := (Strs.own (R := 0) h hb).any (R' := w.heap.size) (Nat.le_refl _)
  have hB := Blk.new w 75 #[V, D, .int .i64 0]
  have hb0 := (Below.refl w.heap.size w).alloc (Nat.le_refl _) (.cells #[V, D, .int .i64 0] 75)
  rcases id h.2 with ⟨rfl, h0⟩ | ⟨g, cap, cur, rfl, hgb, hh, hle, hm, -⟩
  · have : l = [] := List.eq_nil_of_length_eq_zero h0
    subst this
    exact ⟨w.heap.size, none, 0, hs.but (but_of hb0), ⟨by simp, by simp, fun h => absurd rfl h⟩, hB⟩
  · have hg := (h.lt g rfl).2
    exact ⟨g, _, cap, hs.but (but_of hb0), ⟨hl, by simp; omega, fun _ => ⟨0, rfl⟩⟩, hB⟩

/-- the answer's box is filled, behind the reader's term -/
theorem parse_fin' {w w4 : World} {n lo : Nat} {t : T} {s a b c : Value} (h : argsInS w4 (fun b => lo ≤ b ∧ b < n) t s) (hlo : w.heap.size < lo) (hn : n ≤ w4.heap.size) :
    argsInS (((w4.setCell ⟨w.heap.size, 0, none⟩ a).setCell ⟨w.heap.size, 1, none⟩ b).setCell ⟨w.heap.size, 2, none⟩ c) (orNew nowhere w (((w4.setCell ⟨w.heap.size, 0, none⟩ a).setCell ⟨w.heap.size, 1, none⟩ b).setCell ⟨w.heap.size, 2, none⟩ c)) t s := by
  refine h.keep (fun b hb => .inr ⟨by omega, by simp [World.setCell]; omega⟩) fun p hp => ?_
  have h1 : p.block ≠ w.heap.size := by have := hp.1; omega
  exact World.cell?_of_block (by rw [Below.heap_setCell _ _ _ _ h1, Below.heap_setCell _ _ _ _ h1, Below.heap_setCell _ _ _ _ h1])

set_option maxHeartbeats 400000 in
theorem pparse_any (decls bound : List Str) (s : Str) (w : World) (bv D : Value) (hV : Vars w) (hs : s.length ≤ 1000000000000) (hD : Strs w w.heap.size decls D) (hb : Strs w w.heap.size bound bv)
    (hdl : decls.length ≤ 1000000000000) (hbl : bound.length ≤ 1000000000000) :
    Calls Tryz.prog 18 #[.string ⟨s.toArray⟩, bv, D] w (ParsePost (parse canon decls s bound) w) := by
  obtain ⟨BA, bcap, rfl, -⟩ := id hb
  obtain ⟨DA, dcap, rfl, -⟩ := id hD
  have hblk := Blk.new w 30 #[.int .i64 0, .int .i64 0, .slice none 0 0]
  have hb0 := (Below.refl w.heap.size w).alloc (Nat.le_refl _) (.cells #[.int .i64 0, .int .i64 0, .slice none 0 0] 30)
  by_cases h1 : 1500 < s.length
  · have hp : parse canon decls s bound = (T0, 4) := by unfold parse; rw [if_pos h1]
    rw [hp]
    have h1' : (1500 : Int) < (s.length : Int) := by omega
    clear hp hb hD hV
    go_enter Tryz.func18, Tryz.ntmps18
    go_wp2_with fail
    refine bodyPost_ret (v := .tuple #[.agg #[.int .i64 0, .int .i64 0, .slice none 0 0], .int .i64 4]) (by simp [results, Tryz.results18, go_sem]) rfl ⟨_, rfl, args_none _ _ _ _, ?_⟩
    exact hb0
  · have h1' : ¬ (1500 : Int) < (s.length : Int) := by omega
    by_cases h2 : 8 < bound.length
    · have hp : parse canon decls s bound = (T0, 5) := by unfold parse; rw [if_neg h1, if_pos h2]
      rw [hp]
      have h2' : (8 : Int) < (bound.length : Int) := by omega
      clear hp hb hD hV
      go_enter Tryz.func18, Tryz.ntmps18
      go_wp2_with fail
      refine bodyPost_ret (v := .tuple #[.agg #[.int .i64 0, .int .i64 0, .slice none 0 0], .int .i64 5]) (by simp [results, Tryz.results18, go_sem]) rfl ⟨_, rfl, args_none _ _ _ _, ?_⟩
      exact hb0
    · have h2' : ¬ (8 : Int) < (bound.length : Int) := by omega
      have hpb := parse_body (cn := canon) (decls := decls) h1 h2
      obtain ⟨⟨t, q⟩, hq⟩ : ∃ a, pterm canon decls 24 bound ⟨words s, 0⟩ = a := ⟨_, rfl⟩
      rw [hq] at hpb
      dsimp only at hpb
      have HPB := Lib.hid hpb
      have HQ := Lib.hid hq
      have HB := Lib.hid (And.intro hV (And.intro hD hb))
      have hw8 := hV.1
      have hsl : s.length ≤ 1500 := by omega
      clear hpb hq hb hD hV
      go_enter Tryz.func18, Tryz.ntmps18
      go_wp2_with fail
      refine (pwordsof_any s (by omega) _).mono ?_
      rintro e w1 ⟨V, rfl, hown, hb1⟩
      have hB1 := hblk.below hb1 hblk.lt
      have HB1 := Lib.hid (hb0.trans (hb1.mono hb0.size))
      have hs1 := hb1.size
      simp at hs1
      obtain ⟨L, hL⟩ := pbox_new (D := .slice DA decls.length dcap) hown (Nat.le_trans (words_count s) (by omega)) (by simp)
      have HL := Lib.hid hL
      have hVF : ∃ A cap, V = .slice A (words s).length cap := by
        rcases id hown.2 with ⟨rfl, h0⟩ | ⟨g, cap, cur, rfl, -⟩
        · exact ⟨_, _, by rw [h0]⟩
        · exact ⟨_, _, rfl⟩
      obtain ⟨VA, vcap, rfl⟩ := hVF
      clear hown hL hb1 hb0 hblk
      go_wp2_with fail
      have hb2 := HB1.out.alloc HB1.out.size (.cells #[.slice VA (words s).length vcap, .slice DA decls.length dcap, .int .i64 0] 75)
      have hB2 := hB1.alloc (.cells #[.slice VA (words s).length vcap, .slice DA decls.length dcap, .int .i64 0] 75)
      have hcall := pt_any decls w1.heap.size L DA dcap hdl (by omega) 24 1 bound ⟨words s, 0⟩ _ _ (HB.out.1.below hb2) HL.out ((HB.out.2.1.any (R' := w1.heap.size) (by omega)).but (but_of hb2)) ((HB.out.2.2.any (R' := w1.heap.size) (by omega)).but (but_of hb2))
        (fun x hx => Nat.le_trans (words_len s x hx) (by omega)) (by omega) (by omega) (by omega)
      rw [HQ.out] at hcall
      have HB2 := Lib.hid hb2
      generalize hwg : w1.alloc (.cells #[.slice VA (words s).length vcap, .slice DA decls.length dcap, .int .i64 0] 75) = wg at *
      have hsg : w1.heap.size + 1 = wg.heap.size := by rw [← hwg]; simp
      have HCALL := Lib.hid (show Calls Tryz.prog 37 _ _ (fun e w' => ∃ s, e = .returned (.agg #[.int .i64 t.k, .int .i64 t.n, s]) ∧ argsInS w' (orNew nowhere _ w') t s ∧ PBox w' _ L _ q ∧ But _ _ _ w') from hcall)
      clear hwg hcall hB1 hb2
      refine HCALL.out.mono ?_
      rintro e w2 ⟨s2, rfl, hx, hR2, hbt⟩
      obtain ⟨A2, cap2, rfl, -⟩ := argsInS_iff.1 hx
      have hB2' := hB2.but hbt hB2.lt (by omega)
      have hbw := (but_of (X := w1.heap.size) HB2.out).trans (hbt.mono HB2.out.size)
      have hs2 := hbt.size
      have hx2 : argsInS w2 (fun b => wg.heap.size ≤ b ∧ b < w2.heap.size) t (.slice A2 t.al.length cap2) := hx.keep (fun b hb => hb.elim (fun h => h.elim) (fun h => h)) (fun _ _ => rfl)
      have HX := Lib.hid hx2
      have hRlt := hR2.lt
      have hB3 := hB2'.alloc (.cells #[.int .i64 t.k, .int .i64 t.n, .slice A2 t.al.length cap2] 30)
      have hR3 := hR2.below ((Below.refl w2.heap.size w2).alloc (Nat.le_refl _) (.cells #[.int .i64 t.k, .int .i64 t.n, .slice A2 t.al.length cap2] 30))
      have hT3 := Blk.new w2 30 #[.int .i64 t.k, .int .i64 t.n, .slice A2 t.al.length cap2]
      have hb3 := hbw.alloc hbw.size (.cells #[.int .i64 t.k, .int .i64 t.n, .slice A2 t.al.length cap2] 30)
      have HB3 := Lib.hid hb3
      have HR3 := Lib.hid hR3
      have HX3 := Lib.hid (show argsInS (w2.alloc (.cells #[.int .i64 t.k, .int .i64 t.n, .slice A2 t.al.length cap2] 30)) (fun b => wg.heap.size ≤ b ∧ b < w2.heap.size) t (.slice A2 t.al.length cap2) from HX.out.keep (fun _ h => h) (fun p hp => World.cell?_alloc_lt _ _ _ hp.2))
      obtain ⟨qA, qcap, -, -, hBq⟩ := hR3
      have r2 := hBq.cell 2
      have r0 := hBq.cell 0
      simp only [List.getElem?_toArray, List.getElem?_cons_succ, List.getElem?_cons_zero] at r2 r0
      clear hx hx2 hbw hR2 hbt HCALL hB2 hB2' hb3 hBq HL HX
      by_cases he : q.e = 0
      · have heb : (q.e == 0) = true := by simpa using he
        by_cases hl : q.l = []
        · have hp := HPB.out
          rw [ended_ok hl, if_neg (by simpa using he)] at hp
          have HP := Lib.hid hp
          rw [hl] at r0
          simp only [List.length_nil] at r0
          obtain ⟨⟨t0, t1, t2⟩, -⟩ := hT3.tri
          obtain ⟨⟨d0, d1, d2⟩, e0, e1, e2⟩ := hB3.tri
          have heb3 : (q.e != 0) = false := by simpa using he
          clear hT3 hB3 he hl hp
          go_wp2_with fail
          refine bodyPost_ret (v := .tuple #[.agg #[.int .i64 t.k, .int .i64 t.n, .slice A2 t.al.length cap2], .int .i64 0]) (by simp [results, Tryz.results18, go_sem, d0, d1, d2]) rfl ?_
          rw [HP.out]
          refine ⟨_, rfl, parse_fin' HX3.out (by omega) (by simp), ?_⟩
          exact (((HB3.out.below (Nat.le_refl _) (by omega)).setCell (by simp) _).setCell (by simp) _).setCell (by simp) _
        · have hp := HPB.out
          rw [ended_more he hl, if_pos (by simp)] at hp
          have HP := Lib.hid hp
          have hlen : 0 < q.l.length := by cases h : q.l with
            | nil => exact absurd h hl
            | cons a r => simp
          have hleni : (0 : Int) < (q.l.length : Int) := by omega
          have hff : (q.fail 2).e = 2 := by unfold PS.fail; rw [if_pos he]
          have HFF := Lib.hid hff
          clear hp hl hff he
          go_wp2_with fail
          refine (pfail_any _ _ _ _ q 2 HR3.out).mono ?_
          rintro e w5 ⟨rfl, hR5, hb5⟩
          have hB5 := hB3.but hb5 hB3.lt (by omega)
          have HB5 := Lib.hid (HB3.out.trans (hb5.mono HB3.out.size))
          obtain ⟨qA5, qcap5, -, -, hBq2⟩ := hR5
          have r3 := hBq2.cell 2
          rw [HFF.out] at r3
          simp only [List.getElem?_toArray, List.getElem?_cons_succ, List.getElem?_cons_zero] at r3
          obtain ⟨⟨d0, d1, d2⟩, e0, e1, e2⟩ := hB5.tri
          have hs5 := hb5.size
          simp at hs5
          clear hb5 hB3 hB5 hBq2 r2 r0 hT3
          go_wp2_with fail
          go_region
          all_goals go_wp2_with fail
          all_goals (
            refine bodyPost_ret (v := .tuple #[.agg #[.int .i64 0, .int .i64 0, .slice none 0 0], .int .i64 2]) (by simp [results, Tryz.results18, go_sem, d0, d1, d2]) rfl ?_
            rw [HP.out]
            refine ⟨_, rfl, args_none _ _ _ _, ?_⟩
            exact Below.drew ((((HB5.out.below (Nat.le_refl _) (by omega)).setCell (by simp) _).setCell (by simp) _).setCell (by simp) _))
      · have heb : (q.e == 0) = false := by simpa using he
        have heb2 : (q.e != 0) = true := by simpa using he
        have hp := HPB.out
        rw [ended_err he, if_pos he] at hp
        have HP := Lib.hid hp
        clear hp he
        obtain ⟨⟨d0, d1, d2⟩, e0, e1, e2⟩ := hB3.tri
        clear hB3 hT3
        go_wp2_with fail
        go_region
        all_goals go_wp2_with fail
        all_goals (
          refine bodyPost_ret (v := .tuple #[.agg #[.int .i64 0, .int .i64 0, .slice none 0 0], .int .i64 q.e]) (by simp [results, Tryz.results18, go_sem, d0, d1, d2]) rfl ?_
          rw [HP.out]
          refine ⟨_, rfl, args_none _ _ _ _, ?_⟩
          exact Below.drew ((((HB3.out.below (Nat.le_refl _) (by omega)).setCell (by simp) _).setCell (by simp) _).setCell (by simp) _))
end Go.Proofs.YtjboibbgigkhkaaGreatDoor

/- book.cut: the first term of words, and what is behind it. -/
namespace Go.Proofs.YtjboibbgigkhkaaGreatDoor
open Go.RowKit
set_option maxRecDepth 100000

theorem Strs.pre {w : World} {R k : Nat} {l : List Str} {A : Option Addr} {cap : Nat} (h : Strs w R l (.slice A l.length cap)) (hk : k ≤ l.length) : Strs w R (l.take k) (.slice A k cap) := by
  obtain ⟨A0, cap0, e, h2, h3, h4⟩ := h
  cases e
  have hl : (l.take k).length = k := by simp; omega
  refine ⟨A, cap, by rw [hl], by omega, h3, fun hne => ?_⟩
  obtain ⟨b, off, e, hlt, hR, hc⟩ := h4 (by intro e; rw [e] at hne; simp at hne)
  refine ⟨b, off, e, hlt, hR, fun j s hj => hc j s ?_⟩
  have hjk := (List.getElem?_eq_some_iff.1 hj).1
  rwa [List.getElem?_take_of_lt (by omega)] at hj
theorem Strs.suf {w : World} {R k : Nat} {l : List Str} {A A' : Option Addr} {cap n c : Nat} (h : Strs w R l (.slice A l.length cap)) (hk : k ≤ l.length) (hn : n = l.length - k) (hc : c = cap - k) (hA : k < l.length → ∀ b off, A = some ⟨b, off, none⟩ → A' = some ⟨b, off + k, none⟩) :
    Strs w R (l.drop k) (.slice A' n c) := by
  obtain ⟨A0, cap0, e, h2, h3, h4⟩ := h
  cases e
  subst hn hc
  refine ⟨A', cap - k, by simp, by simp; omega, by omega, fun hne => ?_⟩
  have hkl : k < l.length := by
    rcases Nat.lt_or_ge k l.length with h | h
    · exact h
    · exact absurd (List.drop_eq_nil_of_le h) hne
  obtain ⟨b, off, e, hlt, hR, hc⟩ := h4 (by intro e; rw [e] at hkl; simp at hkl)
  refine ⟨b, off + k, hA hkl b off e, hlt, hR, fun j s hj => ?_⟩
  rw [show off + k + j = off + (k + j) by omega]
  exact hc (k + j) s (by rw [← hj, List.getElem?_drop])

theorem cutP_step {w : Str} {r : List Str} {d d' : Int} (hd : (if w = [40] then d + 1 else if w = [41] then d - 1 else d) = d') :
    cutP (w :: r) d = if d' ≤ 0 then ([w], r) else (w :: (cutP r d').1, (cutP r d').2) := by
  subst hd; rfl

/-- words, from here on -/
theorem cut_go {l : List Str} {k : Nat} {x : Str} {d d' : Int} (hx : l[k]? = some x) (hd : (if x = [40] then d + 1 else if x = [41] then d - 1 else d) = d')
    (h : cutP l 0 = (l.take k ++ (cutP (l.drop k) d).1, (cutP (l.drop k) d).2)) :
    (d' ≤ 0 → cutP l 0 = (l.take (k + 1), l.drop (k + 1))) ∧ (¬ d' ≤ 0 → cutP l 0 = (l.take (k + 1) ++ (cutP (l.drop (k + 1)) d').1, (cutP (l.drop (k + 1)) d').2)) := by
  have hlt := (List.getElem?_eq_some_iff.1 hx).1
  have e : l.drop k = x :: l.drop (k + 1) := by rw [List.drop_eq_getElem_cons hlt, (List.getElem?_eq_some_iff.1 hx).2]
  rw [e, cutP_step hd] at h
  have et : l.take (k + 1) = l.take k ++ [x] := by rw [List.take_add_one, hx]; rfl
  refine ⟨fun hp => ?_, fun hp => ?_⟩
  · rw [if_pos hp] at h; rw [h, et]
  · rw [if_neg hp] at h; rw [h, et]; simp

def CutPost (R : Nat) (r : List Str × List Str) (w : World) (e : Ending) (w' : World) : Prop := ∃ v1 v2, e = .returned (.tuple #[v1, v2]) ∧ Strs w' R r.1 v1 ∧ Strs w' R r.2 v2 ∧ Below w.heap.size w w'
set_option maxHeartbeats 1600000 in
theorem cut_any (R : Nat) (l : List Str) (w : World) (v : Value) (hs : Strs w R l v) (hl : l.length ≤ 1000000000) :
    Calls Tryz.prog 84 #[v] w (CutPost R (cutP l 0) w) := by
  obtain ⟨A, cap, rfl, h2, h3, h4⟩ := id hs
  have HS := Lib.hid (And.intro hs h4)
  unfold maxLen at h3
  clear hs h4
  go_enter Tryz.func84, Tryz.ntmps84
  go_wp2_with fail
  go_loopw [4, 9] (fun dv iv wr => ∃ (k : Nat) (d : Int), k ≤ l.length ∧ iv = .int .i64 k ∧ dv = .int .i64 d ∧ (-(k : Int) ≤ d ∧ d ≤ k) ∧ Hid (cutP l 0 = (l.take k ++ (cutP (l.drop k) d).1, (cutP (l.drop k) d).2)) ∧ wr = w) (fun _ iv _ => l.length - (intOf iv).toNat)
  case atStart => exact ⟨0, 0, Nat.zero_le _, rfl, rfl, ⟨by omega, by omega⟩, Lib.hid (by simp), rfl⟩
  case round =>
    obtain ⟨k, d, hk, rfl, rfl, ⟨hd0, hd1⟩, hC, rfl⟩ := hrel
    by_cases hlt : k < l.length
    · obtain ⟨x, hx⟩ : ∃ x, l[k]? = some x := ⟨_, List.getElem?_eq_getElem hlt⟩
      obtain ⟨b, off, hA, -, -, hc⟩ := HS.out.2 (by intro e; rw [e] at hlt; simp at hlt)
      subst hA
      have hck := hc k x hx
      obtain ⟨d', hd'⟩ : ∃ d', (if x = [40] then d + 1 else if x = [41] then d - 1 else d) = d' := ⟨_, rfl⟩
      have HG := Lib.hid (cut_go hx hd' hC.out)
      have hdd : d - 1 ≤ d' ∧ d' ≤ d + 1 := by subst hd'; split <;> (try split) <;> omega
      have HSL := Lib.hid (And.intro (HS.out.1.pre (k := k + 1) (by omega)) (fun A' n c => HS.out.1.suf (k := k + 1) (A' := A') (n := n) (c := c) (by omega)))
      clear hc hx hC
      by_cases h40 : x = [40]
      · subst h40
        have hdx : d + 1 = d' := by simpa using hd'
        clear hd'
        subst hdx
        by_cases hle : d + 1 ≤ 0
        · have HCU := Lib.hid (HG.out.1 hle)
          clear HG
          by_cases hcap : cap = k + 1
          · subst hcap
            go_wp2_with fail
            go_region
            all_goals go_wp2_with fail
            all_goals go_ret2
            all_goals (rw [HCU.out]; exact ⟨_, _, rfl, HSL.out.1, HSL.out.2 _ _ _ (by omega) (by omega) (fun h => by omega), (Below.refl _ _).drew⟩)
          · have hcap2 : k + 1 < cap := by omega
            have hcap3 : ¬ k + 1 = cap := by omega
            go_wp2_with fail
            go_region
            all_goals go_wp2_with fail
            all_goals go_ret2
            all_goals (rw [HCU.out]; exact ⟨_, _, rfl, HSL.out.1, HSL.out.2 _ _ _ (by omega) (by omega) (fun h b' off' e => by cases e; first | rfl | simp [Addr.add]), (Below.refl _ _).drew⟩)
        · have HCU := Lib.hid (HG.out.2 hle)
          clear HG
          go_wp2_with fail
          go_roundw
          case rel => exact ⟨k + 1, _, by omega, by go_num, rfl, ⟨by omega, by omega⟩, HCU, by first | rfl | trivial⟩
          case measure => simp [intOf]; omega
      · by_cases h41 : x = [41]
        · subst h41
          have hdx : d - 1 = d' := by simpa using hd'
          clear hd' h40
          subst hdx
          by_cases hle : d - 1 ≤ 0
          · have HCU := Lib.hid (HG.out.1 hle)
            clear HG
            by_cases hcap : cap = k + 1
            · subst hcap
              go_wp2_with fail
              go_region
              all_goals go_wp2_with fail
              all_goals go_ret2
              all_goals (rw [HCU.out]; exact ⟨_, _, rfl, HSL.out.1, HSL.out.2 _ _ _ (by omega) (by omega) (fun h => by omega), (Below.refl _ _).drew⟩)
            · have hcap2 : k + 1 < cap := by omega
              have hcap3 : ¬ k + 1 = cap := by omega
              go_wp2_with fail
              go_region
              all_goals go_wp2_with fail
              all_goals go_ret2
              all_goals (rw [HCU.out]; exact ⟨_, _, rfl, HSL.out.1, HSL.out.2 _ _ _ (by omega) (by omega) (fun h b' off' e => by cases e; first | rfl | simp [Addr.add]), (Below.refl _ _).drew⟩)
          · have HCU := Lib.hid (HG.out.2 hle)
            clear HG
            go_wp2_with fail
            go_roundw
            case rel => exact ⟨k + 1, _, by omega, by go_num, rfl, ⟨by omega, by omega⟩, HCU, by first | rfl | trivial⟩
            case measure => simp [intOf]; omega
        · have hdx : d = d' := by simpa [h40, h41] using hd'
          have h40b : (x == [40]) = false := by simpa using h40
          have h41b : (x == [41]) = false := by simpa using h41
          clear hd' h40 h41
          subst hdx
          by_cases hle : d ≤ 0
          · have HCU := Lib.hid (HG.out.1 hle)
            clear HG
            by_cases hcap : cap = k + 1
            · subst hcap
              go_wp2_with fail
              go_region
              all_goals go_wp2_with fail
              all_goals go_ret2
              all_goals (rw [HCU.out]; exact ⟨_, _, rfl, HSL.out.1, HSL.out.2 _ _ _ (by omega) (by omega) (fun h => by omega), (Below.refl _ _).drew⟩)
            · have hcap2 : k + 1 < cap := by omega
              have hcap3 : ¬ k + 1 = cap := by omega
              go_wp2_with fail
              go_region
              all_goals go_wp2_with fail
              all_goals go_ret2
              all_goals (rw [HCU.out]; exact ⟨_, _, rfl, HSL.out.1, HSL.out.2 _ _ _ (by omega) (by omega) (fun h b' off' e => by cases e; first | rfl | simp [Addr.add]), (Below.refl _ _).drew⟩)
          · have HCU := Lib.hid (HG.out.2 hle)
            clear HG
            go_wp2_with fail
            go_roundw
            case rel => exact ⟨k + 1, _, by omega, by go_num, rfl, ⟨by omega, by omega⟩, HCU, by first | rfl | trivial⟩
            case measure => simp [intOf]; omega
    · obtain rfl : k = l.length := by omega
      have hcu := hC.out
      rw [List.drop_length, List.take_length, cutP] at hcu
      simp only [List.append_nil] at hcu
      have HCU := Lib.hid hcu
      clear hcu hC
      go_wp2_with fail
      go_ret2
      rw [HCU.out]
      exact ⟨_, _, rfl, HS.out.1, ⟨none, 0, rfl, Nat.le_refl _, by unfold maxLen; omega, fun h => absurd rfl h⟩, Below.refl _ _⟩
end Go.Proofs.YtjboibbgigkhkaaGreatDoor

