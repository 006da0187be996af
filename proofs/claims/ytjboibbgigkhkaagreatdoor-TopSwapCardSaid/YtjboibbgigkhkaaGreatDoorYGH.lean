/- Term of the document's answer: the term of a text's words. -/
import Derived.Test.YtjboibbgigkhkaaGreatDoorYGB
import Derived.Lib.OthersKept
import Derived.Deep.RegionLaw
namespace Go.Proofs.YtjboibbgigkhkaaGreatDoor
open Go.RowKit
set_option maxRecDepth 100000

def nowhere : Nat → Prop := fun _ => False

/-- behind the reader's Term -/
def TermR (q : T × PS) (R : Nat) (D : Value) (w : World) (e : Ending) (w' : World) : Prop :=
  ∃ s, e = .returned (.agg #[.int .i64 q.1.k, .int .i64 q.1.n, s]) ∧ argsInS w' (orNew nowhere w w') q.1 s ∧ RBox w' R D q.2 ∧ But R w.heap.size w w'

theorem Tryz.infoStr : (Tryz.prog.info? 9).map (fun i => (i.zero, i.size, i.bytes)) = some (some (.string ⟨#[]⟩), 1, 16) := by kernel_rfl

theorem reads_new (w : World) (v : Value) (t : TypeId) : Reads (w.alloc (.cells #[v] t)) (w.alloc (.cells #[v] t)).heap.size 1 (some ⟨w.heap.size, 0, none⟩) 1 [v] := by
  refine ⟨rfl, fun _ => ⟨_, rfl, by simp, fun j u hu => ?_⟩⟩
  match j, hu with
  | 0, hu =>
    simp at hu
    subst hu
    simp [Addr.add]

theorem but_iterAt (w : World) (k n : Nat) (s : ByteArray) (pos : Nat) : But k n w (w.iterAt k s pos) :=
  ⟨rfl, rfl, rfl, by rw [Lib.iterAt_size]; exact Nat.le_refl _, fun i _ hi => Lib.iterAt_other w k i s pos hi⟩

theorem RBox.butX {w w' : World} {R X : Nat} {D : Value} {p : PS} (h : RBox w R D p) (hX : R ≠ X) (hb : But X w.heap.size w w') : RBox w' R D p := by
  have hl := h.lt
  obtain ⟨s, h1, h2, h3⟩ := h
  exact ⟨s, h1, h2, h3.but hb hl hX⟩

theorem RBox.grown {w w' : World} {R : Nat} {D : Value} {p : PS} {row : Option Nat} (h : RBox w R D p) (hg : w.grownBy w' row) (hne : some R ≠ row) : RBox w' R D p := by
  obtain ⟨s, h1, h2, h3⟩ := h
  exact ⟨s, h1, h2, h3.grown hg hne⟩

theorem heap_but {X n : Nat} {w w' : World} (h : But X n w w') {k : Nat} {o : Obj} (hk : k < n) (hX : k ≠ X) (ho : w.heap[k]? = some o) : w'.heap[k]? = some o := (h.block k hk hX).trans ho

/-- one round: the child's term goes into the row, the row into the term's box -/
theorem term_round {w wc w8 w9 : World} {R g8 it base pos : Nat} {S : ByteArray} {D V V9 a b : Value} {z : Array Value} {ts : List T} {xp : PS} {o : Obj} {t : TypeId}
    (hit : wc.heap[it]? = some (.stringIter S pos)) (hT : Blk wc g8 t #[a, b, V]) (hB : Blk wc w.heap.size t z) (hbw : But R w.heap.size w wc) (hb8 : But R wc.drew.heap.size wc.drew w8) (hr8 : RBox w8 R D xp)
    (hg9 : (w8.alloc o).grownBy w9 V.ownBlock) (hrow9 : RowS w9 nowhere base V9 ts) (hV : ∀ b, b < base → some b ≠ V.ownBlock) (h1 : R < w.heap.size) (h2 : w.heap.size < g8) (h3 : g8 < it) (h4 : it < base) (h5 : base ≤ wc.heap.size) :
    (w9.setCell ⟨g8, 2, none⟩ V9).heap[it]? = some (.stringIter S pos) ∧ Blk (w9.setCell ⟨g8, 2, none⟩ V9) g8 t #[a, b, V9] ∧ Blk (w9.setCell ⟨g8, 2, none⟩ V9) w.heap.size t z ∧ RowS (w9.setCell ⟨g8, 2, none⟩ V9) nowhere base V9 ts ∧
    RBox (w9.setCell ⟨g8, 2, none⟩ V9) R D xp ∧ But R w.heap.size w (w9.setCell ⟨g8, 2, none⟩ V9) ∧ base ≤ (w9.setCell ⟨g8, 2, none⟩ V9).heap.size := by
  have hs8 : wc.heap.size ≤ w8.heap.size := hb8.size
  have hs9 := hg9.size
  simp at hs9
  have hne : ∀ i, i < wc.heap.size → i ≠ R → some i ≠ V.ownBlock → w9.heap[i]? = wc.heap[i]? := by
    intro i hi hR hv
    rw [hg9.block i (by simp; omega) hv, Below.heap_alloc _ _ _ (by omega)]
    exact hb8.block i hi hR
  refine ⟨?_, ?_, ?_, hrow9.setCell (by simp; omega) (fun h => h) _, ?_, ?_, by simp [World.setCell]; omega⟩
  · rw [Below.heap_setCell _ _ _ _ (by simp; omega), hne it (by omega) (by omega) (hV it (by omega))]; exact hit
  · have h : Blk w9 g8 t #[a, b, V] := (hne g8 (by omega) (by omega) (hV g8 (by omega))).trans hT
    have h' := h.set_ 2 V9
    simpa using h'
  · have h : Blk w9 w.heap.size t z := (hne _ (by omega) (by omega) (hV _ (by omega))).trans hB
    exact h.far (by simp; omega) _
  · exact ((hr8.below ((Below.refl _ _).alloc (Nat.le_refl _) o)).grown hg9 (hV R (by omega))).far (by simp; omega) _
  · refine But.setCell ?_ (by simp; omega) _
    refine But.trans hbw ⟨?_, ?_, ?_, by omega, fun k hk hx => hne k (by omega) hx (hV k (by omega))⟩
    · exact hg9.os.trans (show (w8.alloc o).os = _ from hb8.os)
    · exact hg9.tape.trans (show (w8.alloc o).tape = _ from hb8.tape)
    · exact hg9.output.trans (show (w8.alloc o).output = _ from hb8.output)

theorem term_fin {w wx : World} {base : Nat} {V a b c : Value} {ts : List T} {k n : Int} (hrow : RowS wx nowhere base V ts) (hb : w.heap.size < base) (_hs : base ≤ wx.heap.size) :
    argsInS (((wx.setCell ⟨w.heap.size, 0, none⟩ a).setCell ⟨w.heap.size, 1, none⟩ b).setCell ⟨w.heap.size, 2, none⟩ c) (orNew nowhere w (((wx.setCell ⟨w.heap.size, 0, none⟩ a).setCell ⟨w.heap.size, 1, none⟩ b).setCell ⟨w.heap.size, 2, none⟩ c)) (.mk k n ts) V := by
  refine hrow.term (w := w) (by omega) (fun b h => h.elim) (by simp [World.setCell]) fun p hp => ?_
  have h1 : p.block ≠ w.heap.size := by omega
  exact World.cell?_of_block (by rw [Below.heap_setCell _ _ _ _ h1, Below.heap_setCell _ _ _ _ h1, Below.heap_setCell _ _ _ _ h1])

theorem args_none (w : World) (S : Nat → Prop) (k n : Int) : argsInS w S (.mk k n []) (.slice none 0 0) :=
  argsInS_iff.2 ⟨none, 0, rfl, Nat.le_refl _, by unfold maxLen; omega, fun h => absurd rfl h⟩

theorem atom_al {cn : Str → Option Int} {decls bound : List Str} {x : Str} {p : PS} : ∃ k n, (atom cn decls x bound p).1 = .mk k n [] := by
  unfold atom height T0
  repeat' split
  all_goals exact ⟨_, _, rfl⟩

theorem pterm_err {cn : Str → Option Int} {decls : List Str} {f : Nat} {bound : List Str} {p : PS} (h : p.e ≠ 0) : pterm cn decls (f + 1) bound p = (T0, p) := by rw [pterm, if_pos h]
theorem pterm_atom {cn : Str → Option Int} {decls : List Str} {f : Nat} {bound : List Str} {p : PS} (h : p.e = 0) (hx : p.take.1 ≠ [40]) : pterm cn decls (f + 1) bound p = atom cn decls p.take.1 bound p.take.2 := by
  rw [pterm, if_neg (by simpa using h), if_pos hx]
theorem pterm_list {cn : Str → Option Int} {decls : List Str} {f : Nat} {bound : List Str} {p : PS} (h : p.e = 0) (hx : p.take.1 = [40]) : pterm cn decls (f + 1) bound p =
    (.mk (headKind p.take.2).1 0 (pargs (pterm cn decls f) bound ((shape (headKind p.take.2).1).getD []) (headKind p.take.2).2).1, closed (pargs (pterm cn decls f) bound ((shape (headKind p.take.2).1).getD []) (headKind p.take.2).2).2) := by
  rw [pterm, if_neg (by simpa using h), if_neg (by simpa using hx)]

set_option maxHeartbeats 1600000 in
theorem rterm_any (cn : Str → Option Int) (decls : List Str) (R : Nat) (D : Value) (hdl : decls.length ≤ 1000000000000) : ∀ (f : Nat) (deep : Int) (bound : List Str) (p : PS) (w : World) (bv : Value), (AtomU cn ∨ noU p) → RBox w R D p → Strs w R decls D → Strs w R bound bv → bound.length + 2 * f ≤ 1000000000 → deep + f = 25 → f ≤ 24 →
    Calls Tryz.prog 39 #[.pointer (some ⟨R, 0, none⟩), bv, .int .i64 deep] w (TermR (pterm cn decls f bound p) R D w) := by
  intro f
  induction f with
  | zero =>
    intro deep bound p w bv hU hR hD hb hbl hdp _
    obtain rfl : deep = 25 := by omega
    rw [pterm]
    obtain ⟨BA, bcap, rfl, -⟩ := id hb
    have HP := Lib.hid hR
    have hRl := hR.lt
    clear hR hb hD hU
    go_enter Tryz.func39, Tryz.ntmps39
    have hb0 := (Below.refl w.heap.size w).alloc (Nat.le_refl _) (.cells #[.int .i64 0, .int .i64 0, .slice none 0 0] 30)
    have hblk := Blk.new w 30 #[.int .i64 0, .int .i64 0, .slice none 0 0]
    go_wp2_with fail
    refine (rfail_any _ R D p 9 (HP.out.below hb0)).mono ?_
    rintro e w1 ⟨rfl, hR1, hb1⟩
    have hbb := (but_of (X := R) hb0).trans (hb1.mono hb0.size)
    obtain ⟨⟨d0, d1, d2⟩, e0, e1, e2⟩ := (hblk.but hb1 (by simp) (by omega)).tri
    have hpe : (p.fail 9).e ≠ 0 := by
      unfold PS.fail
      split
      · simp
      · assumption
    have hpeb : ((p.fail 9).e != 0) = true := by simpa using hpe
    have HE := Lib.hid (And.intro hR1 hbb)
    obtain ⟨s0, -, -, hB⟩ := hR1
    have r2 := hB.cell 2
    simp only [List.getElem?_toArray, List.getElem?_cons_succ, List.getElem?_cons_zero] at r2
    generalize hq : p.fail 9 = q at *
    clear hB hb1 hbb hblk hb0 hpe
    go_wp2_with fail
    refine bodyPost_ret (v := .agg #[.int .i64 0, .int .i64 0, .slice none 0 0]) (by simp [results, Tryz.results39, go_sem, d0, d1, d2]) rfl ⟨_, rfl, args_none _ _ _ _, ?_, (atom_end HE.out.1 HE.out.2 hRl).2⟩
    have h := (atom_end (a := .int .i64 0) (b := .int .i64 0) (c := .slice none 0 0) HE.out.1 HE.out.2 hRl).1
    simpa [hq] using h
  | succ f ih =>
    intro deep bound p w bv hU hR hD hb hbl hdp hf
    obtain ⟨BA, bcap, rfl, -⟩ := id hb
    have hRl := hR.lt
    have hdeep : ¬ (24 : Int) < deep := by omega
    have IH := Lib.hid ih
    have HU := Lib.hid hU
    have HP := Lib.hid (And.intro hR (And.intro hD hb))
    obtain ⟨s0, -, -, hB⟩ := hR
    have r2 : w.cell? ⟨R, 2, none⟩ = some (.int .i64 p.e) := hB.cell 2
    have hb0 := (Below.refl w.heap.size w).alloc (Nat.le_refl _) (.cells #[.int .i64 0, .int .i64 0, .slice none 0 0] 30)
    have hblk := Blk.new w 30 #[.int .i64 0, .int .i64 0, .slice none 0 0]
    clear hb hD hU ih hB
    by_cases hpe : p.e = 0
    · have hpeb : (p.e != 0) = false := by simpa using hpe
      have HPE := Lib.hid hpe
      clear hpe
      go_enter Tryz.func39, Tryz.ntmps39
      go_wp2_with fail
      refine (rw_any _ R D p (HP.out.1.below hb0)).mono ?_
      rintro e w1 ⟨rfl, hR1, hb1⟩
      have hbb := (but_of (X := R) hb0).trans (hb1.mono hb0.size)
      have hB1 := hblk.but hb1 (by simp) (by omega)
      have hs1 := hb1.size
      simp at hs1
      have HB1 := Lib.hid hbb
      have HR1 := Lib.hid hR1
      clear hb1 hbb hblk hb0 hR1 r2
      by_cases hx : p.take.1 = [40]
      · have HEQ := Lib.hid (pterm_list (cn := cn) (decls := decls) (f := f) (bound := bound) HPE.out hx)
        rw [hx]
        clear hx
        go_wp2_with fail
        have hR2 := HR1.out.below ((Below.refl w1.heap.size w1).alloc (Nat.le_refl _) (.cells #[.int .i64 5, .int .i64 0, .slice none 0 0] 30))
        have hpk := rpeek_any _ R D p.take.2 hR2
        obtain ⟨y, hy⟩ : ∃ y, p.take.2.l.headD [] = y := ⟨_, rfl⟩
        rw [hy] at hpk
        have HY := Lib.hid hy
        clear hy
        refine hpk.mono ?_
        clear hpk
        rintro e w2 ⟨rfl, hR3, hb3⟩
        have hT2 := (Blk.new w1 30 #[.int .i64 5, .int .i64 0, .slice none 0 0]).but hb3 (by simp) (by have := hB1.lt; omega)
        have hB2 := (hB1.alloc (.cells #[.int .i64 5, .int .i64 0, .slice none 0 0] 30)).but hb3 (by simp; omega) (by omega)
        have hbb := (HB1.out.alloc HB1.out.size (.cells #[.int .i64 5, .int .i64 0, .slice none 0 0] 30)).trans (hb3.mono (by simp; omega))
        have hs3 := hb3.size
        simp at hs3
        clear hb3 hR2 hB1
        go_wp2_with fail
        refine (kindof_any _ _).mono ?_
        rintro e w3 ⟨rfl, hb4⟩
        have hT3 := hT2.below hb4 hT2.lt
        have hB3 := hB2.below hb4 hB2.lt
        have HB3 := Lib.hid (hbb.trans (but_of (hb4.mono hbb.size)))
        have HR3 := Lib.hid (hR3.below hb4)
        have hs4 := hb4.size
        have hq17 := kindOf_le y
        have HHK := Lib.hid (show headKind p.take.2 = if 0 < kindOf (p.take.2.l.headD []) ∧ shape (kindOf (p.take.2.l.headD [])) ≠ some [] then (((kindOf (p.take.2.l.headD []) : Nat) : Int), p.take.2.take.2) else (5, p.take.2) from rfl)
        obtain ⟨k, hk⟩ : ∃ k, kindOf y = k := ⟨_, rfl⟩
        rw [hk] at hq17 ⊢
        have hh := HHK.out
        rw [HY.out, hk] at hh
        have HHK2 := Lib.hid hh
        clear hb4 hT2 hB2 hbb hR3 hk hh HHK
        go_upto_region 10 with fail
        go_cut [42] (fun v wc => ∃ b : Bool, v = .bool b ∧ headKind p.take.2 = (if b then ((k : Int), p.take.2.take.2) else (5, p.take.2)) ∧ (∃ sh, shape (headKind p.take.2).1 = some sh) ∧ Blk wc w1.heap.size 30 #[.int .i64 5, .int .i64 0, .slice none 0 0] ∧ Blk wc w.heap.size 30 #[.int .i64 0, .int .i64 0, .slice none 0 0] ∧ RBox wc R D p.take.2 ∧ But R w.heap.size w wc ∧ w1.heap.size < wc.heap.size)
        case first =>
          by_cases hk0 : 0 < k
          · have hk0' : (0 : Int) < (k : Int) := by omega
            obtain ⟨l, hl⟩ := shape_some hk0 (by omega)
            have hsb := shapeBytes_some hl
            have HL := Lib.hid hl
            clear hl
            go_wp2_with fail
            refine (shape_any _ _).mono ?_
            rintro e w4 ⟨rfl, hb5⟩
            unfold shapeText
            generalize shapeBytes (k : Int) = sb at *
            have hT4 := hT3.below hb5 hT3.lt
            have hB4 := hB3.below hb5 hB3.lt
            have HB4 := Lib.hid (HB3.out.trans (but_of (hb5.mono HB3.out.size)))
            have HR4 := Lib.hid (HR3.out.below hb5)
            have hs5 := hb5.size
            clear hb5 hT3 hB3
            by_cases hsn : sb = []
            · subst hsn
              have hh := HHK2.out
              rw [if_neg (by rw [HL.out, hsb.1 rfl]; simp)] at hh
              have HH := Lib.hid hh
              clear hh HHK2 hsb
              go_wp2_with fail
              go_meet
              exact ⟨false, rfl, HH.out, ⟨_, by rw [HH.out]; rfl⟩, hT4, hB4, HR4.out, HB4.out, by omega⟩
            · have hne : sb.isEmpty = false := by simpa using hsn
              have hh := HHK2.out
              rw [if_pos ⟨hk0, by rw [HL.out]; simpa using fun h => hsn (hsb.2 h)⟩] at hh
              have HH := Lib.hid hh
              clear hh HHK2 hsb hsn
              go_wp2_with fail
              go_meet
              exact ⟨true, rfl, HH.out, ⟨_, by rw [HH.out]; exact HL.out⟩, hT4, hB4, HR4.out, HB4.out, by omega⟩
          · have hk0' : ¬ (0 : Int) < (k : Int) := by omega
            have hh := HHK2.out
            rw [if_neg (fun h => hk0 h.1)] at hh
            have HH := Lib.hid hh
            clear hh HHK2
            go_wp2_with fail
            go_meet
            exact ⟨false, rfl, HH.out, ⟨_, by rw [HH.out]; rfl⟩, hT3, hB3, HR3.out, HB3.out, by omega⟩
        case rest =>
        clear hT3 hB3 HHK2 HR3 HB3 hs4 hs3
        obtain ⟨bb, rfl, hhk, hsh0, hT, hB, hR, hbw, hsz⟩ := hcut
        have HHK := Lib.hid hhk
        have HSH0 := Lib.hid hsh0
        have HR := Lib.hid hR
        have HBW := Lib.hid hbw
        clear hhk hR hbw hsh0
        go_upto_if 42 with fail
        go_cut [] (fun wc => Blk wc w1.heap.size 30 #[.int .i64 (headKind p.take.2).1, .int .i64 0, .slice none 0 0] ∧ Blk wc w.heap.size 30 #[.int .i64 0, .int .i64 0, .slice none 0 0] ∧ RBox wc R D (headKind p.take.2).2 ∧ But R w.heap.size w wc ∧ w1.heap.size < wc.heap.size)
        case first =>
          cases bb with
          | false =>
            have HH := Lib.hid (show headKind p.take.2 = (5, p.take.2) from HHK.out)
            clear HHK
            go_wp2_with fail
            go_meet
            rw [HH.out]
            exact ⟨hT, hB, HR.out, HBW.out, hsz⟩
          | true =>
            have HH := Lib.hid (show headKind p.take.2 = ((k : Int), p.take.2.take.2) from HHK.out)
            obtain ⟨⟨d0, d1, d2⟩, e0, e1, e2⟩ := hT.tri
            clear HHK
            go_wp2_with fail
            refine (rw_any _ R D p.take.2 (HR.out.far (by simp; omega) _)).mono ?_
            rintro e w5 ⟨rfl, hR5, hb6⟩
            have hT5 := (hT.set_ 0 (.int .i64 k)).but hb6 (by have := hT.lt; simpa using this) (by omega)
            have hB5 := (hB.far (p := ⟨w1.heap.size, 0, none⟩) (by simp; omega) (.int .i64 k)).but hb6 (by have := hB.lt; simpa using this) (by omega)
            have hb7 := (HBW.out.setCell (p := ⟨w1.heap.size, 0, none⟩) (by simp; omega) (.int .i64 k)).trans (hb6.mono (by have := HBW.out.size; simpa using this))
            have HE := Lib.hid (And.intro hT5 (And.intro hB5 (And.intro hR5 hb7)))
            have hs6 := hb6.size
            simp at hs6
            clear hT5 hB5 hb7 hb6 hR5 hT hB d0 d1 d2 e0 e1 e2
            go_wp2_with fail
            go_meet
            rw [HH.out]
            exact ⟨by have h := HE.out.1; simpa using h, HE.out.2.1, HE.out.2.2.1, HE.out.2.2.2, by omega⟩
        case rest =>
        clear hT hB HHK HR HBW hsz
        obtain ⟨hT, hB, hR, hbw, hsz⟩ := hcut
        obtain ⟨sh, hsh⟩ := HSH0.out
        obtain ⟨⟨kk, q⟩, hkq⟩ : ∃ a, headKind p.take.2 = a := ⟨_, rfl⟩
        have heq := HEQ.out
        simp only [hkq] at hT hR hsh heq
        rw [hsh] at heq
        simp only [Option.getD_some] at heq
        have HQ := Lib.hid (show q.l <:+ p.l from by have h := headKind_l p.take.2; rw [hkq] at h; exact h.trans (take_l p))
        have HEQ2 := Lib.hid heq
        have HSH := Lib.hid hsh
        have HR := Lib.hid hR
        have HBW := Lib.hid hbw
        obtain ⟨t0, t1, t2⟩ := hT.tri.1
        clear heq hsh hR hbw HEQ HSH0 hkq
        go_wp2_with fail
        refine (shape_any _ _).mono ?_
        rintro e w4 ⟨rfl, hb5⟩
        obtain ⟨x1, -, x3⟩ := shape_text HSH.out
        have X1 := Lib.hid x1
        have X3 := Lib.hid x3
        have X4 := Lib.hid (shape_le HSH.out)
        have hS4 : (shapeText kk).size ≤ 4 := by rw [x1]; exact shape_len4 HSH.out
        clear x1 x3
        have hT4 := hT.below hb5 hT.lt
        have hB4 := hB.below hb5 hB.lt
        have HB4 := Lib.hid (HBW.out.trans (but_of (hb5.mono HBW.out.size)))
        have HR4 := Lib.hid (HR.out.below hb5)
        have hs5 := hb5.size
        clear hb5 hT hB HR HBW t0 t1 t2
        generalize shapeText kk = S at *
        go_wp2_with fail
        have hT6 : Blk (w4.iter S 0) w1.heap.size 30 #[.int .i64 kk, .int .i64 0, .slice none 0 0] := hT4.alloc _
        have hB6 : Blk (w4.iter S 0) w.heap.size 30 #[.int .i64 0, .int .i64 0, .slice none 0 0] := hB4.alloc _
        have hR6 : RBox (w4.iter S 0) R D q := HR4.out.below ((Below.refl _ _).alloc (Nat.le_refl _) _)
        have hb6 : But R w.heap.size w (w4.iter S 0) := HB4.out.alloc HB4.out.size _
        have hi6 : (w4.iter S 0).heap[w4.heap.size]? = some (.stringIter S 0) := heap_alloc_new w4 _
        have hz6 : w4.heap.size + 1 ≤ (w4.iter S 0).heap.size := by simp [World.iter]
        clear hT4 hB4 HR4 HB4
        have hgs : w.heap.size < w1.heap.size := by omega
        have hts : w1.heap.size < w4.heap.size := by omega
        obtain ⟨g, hg⟩ : ∃ g, pterm cn decls f = g := ⟨_, rfl⟩
        have heq := HEQ2.out
        rw [hg] at heq
        have HEQ := Lib.hid heq
        have HG := Lib.hid hg
        clear heq hg HEQ2
        go_loopw [] (fun wr => ∃ (j : Nat) (ts : List T) (V : Value) (qj : PS), j ≤ sh.length ∧ ts.length = j ∧ wr.heap[w4.heap.size]? = some (.stringIter S j) ∧ Blk wr w1.heap.size 30 #[.int .i64 kk, .int .i64 0, V] ∧ Blk wr w.heap.size 30 #[.int .i64 0, .int .i64 0, .slice none 0 0] ∧
          RowS wr nowhere (w4.heap.size + 1) V ts ∧ RBox wr R D qj ∧ But R w.heap.size w wr ∧ w4.heap.size + 1 ≤ wr.heap.size ∧ qj.l <:+ p.l ∧ Hid ((ts ++ (pargs g bound (sh.drop j) qj).1, (pargs g bound (sh.drop j) qj).2) = pargs g bound sh q)) (fun wr => S.size - wr.iterPos w4.heap.size)
        case atStart => exact ⟨0, [], .slice none 0 0, q, Nat.zero_le _, rfl, hi6, hT6, hB6, RowS.nil _ _ _, hR6, hb6, hz6, HQ.out, Lib.hid rfl⟩
        case round =>
          obtain ⟨j, ts, V, qj, hj, htl, hit, hT, hB, hrow, hR, hbw, hsz2, hqj, hrel2⟩ := hrel
          have htb : ts.length ≤ 10 := by have := X1.out; omega
          have HTL := Lib.hid htl
          clear hi6 hT6 hB6 hR6 hb6 hz6 htl
          by_cases hlt : j < S.size
          · have hlt' : j < sh.length := by rw [← X1.out]; exact hlt
            obtain ⟨y, hy⟩ := length_getElem hlt'
            obtain ⟨hi, hch⟩ := X3.out j y hy
            have hy2 : y ≤ 2 := X4.out y (List.mem_of_getElem? hy)
            have hnx : ∀ ty, (Instr.next (.pointer (some ⟨w4.heap.size, 0, none⟩)) true ty).run Tryz.prog wr = _ := fun ty => Lib.run_next_ascii_at wr w4.heap.size S j ty hit hlt (by omega)
            have hbi := but_iterAt wr w4.heap.size wr.heap.size S (j + 1)
            have hT2 := hT.but hbi hT.lt (by omega)
            have hB2 := hB.but hbi hB.lt (by omega)
            have hrow2 := hrow.but (X := w4.heap.size) (fun b h => h.elim) (by omega) (fun h => h) hsz2 hbi
            have hR2 := hR.butX (by omega) hbi
            have hbw2 : But R w.heap.size w (wr.iterAt w4.heap.size S (j + 1)) := hbw.trans (but_of (Lib.below_iterAt (Below.refl w.heap.size wr) (by omega) S (j + 1)))
            have hit2 := Lib.iterAt_heap wr w4.heap.size S j (j + 1) hit
            have hsz3 : w4.heap.size + 1 ≤ (wr.iterAt w4.heap.size S (j + 1)).heap.size := by rw [Lib.iterAt_size]; exact hsz2
            have hw32 : IntKind.i32.wrap (48 + (y : Int) - 48) = (y : Int) := by
              have h1 : IntKind.i32.wrap (48 + (y : Int) - 48) = IntKind.i32.wrap (y : Int) := by congr 1; omega
              rw [h1]
              have : y = 0 ∨ y = 1 ∨ y = 2 := by omega
              rcases this with h | h | h <;> subst h <;> rfl
            have hw64 : IntKind.i64.wrap (y : Int) = (y : Int) := IntWalk.i64_in _ (by omega)
            have HALL := Lib.hid (And.intro hT2 (And.intro hB2 (And.intro hrow2 (And.intro hR2 (And.intro hbw2 hit2)))))
            have HY := Lib.hid hy
            have HREL := hrel2
            have HIT0 := Lib.hid hit
            clear hT hB hrow hR hbw hit hbi hT2 hB2 hrow2 hR2 hbw2 hit2 hy hrel2
            obtain ⟨i0, hi0, hz0, hz1, hz2⟩ := info_parts Tryz.infoStr
            obtain ⟨BA', bcap', hBv, hb2', hb3', hb4'⟩ := HP.out.2.2.but HALL.out.2.2.2.2.1
            cases hBv
            have hrd := ((HP.out.2.2.but HALL.out.2.2.2.2.1).reads).alloc (Nat.le_refl _) (.cells #[] 9)
            have HRD := Lib.hid hrd
            clear hb4' hrd
            have hm1 : 0 + bound.length ≤ maxLen := by unfold maxLen; omega
            have hm2 : (0 + bound.length) * 16 ≤ 140737488355328 := by omega
            go_wp2_with (first | (at_builtin; go_loud (refine wpList_append_any _ rfl (.tmp 54) (.tmp 55) 35 rfl (wr.iterAt w4.heap.size S (j + 1)).heap.size 9 i0 (.string ⟨#[]⟩) 1 16 Tryz.underlying35 hi0 hz0 hz1 hz2 rfl (by decide) _ 0 [] rfl (own_empty _ _ (Nat.le_refl _) _) (wr.iterAt w4.heap.size S (j + 1)).heap.size BA bound.length bcap (strc bound) rfl HRD.out (strc_one _) hm1 hm2 (by simp) ?_)))
            intro V2 wa hown hgr _
            obtain ⟨wi, hwi⟩ : ∃ wi, wr.iterAt w4.heap.size S (j + 1) = wi := ⟨_, rfl⟩
            rw [hwi] at hown hgr hsz3
            have hall := HALL.out
            rw [hwi] at hall
            have HA := Lib.hid hall
            have hba : Below wi.heap.size wi wa := (((Below.refl wi.heap.size wi).alloc (Nat.le_refl _) (.cells #[] 9))).grown hgr (by simp) (by intro k hk; simp [Value.ownBlock] at hk; omega)
            have HBA := Lib.hid hba
            have hRi : R < wi.heap.size := by have := HA.out.2.2.2.2.1.size; omega
            have hRa := HA.out.2.2.2.1.below hba
            have hown : wa.ownsRow wi.heap.size 9 1 V2 bound.length (strc bound) := by simpa using hown
            clear hall HALL hnx hgr hwi hba HRD
            obtain ⟨A2, cap2, hV2, -⟩ := Strs.own (R := R) hown hRi
            subst hV2
            obtain ⟨gp, hgp⟩ : ∃ gp, binders y bound qj = gp := ⟨_, rfl⟩
            have HGP := Lib.hid hgp
            have HGP0 := Lib.hid hgp
            clear hgp
            go_wp2_with fail
            go_loopw [12, 60] (fun v2 i wv => ∃ n : Nat, n ≤ y ∧ i = .int .i64 n ∧ ∃ (l : List Str) (qn : PS), wv.ownsRow wi.heap.size 9 1 v2 l.length (strc l) ∧ RBox wv R D qn ∧ But R wi.heap.size wi wv ∧ Hid (binders (y - n) l qn = gp) ∧ l.length = bound.length + n ∧ qn.l <:+ qj.l) (fun _ i _ => y - (intOf i).toNat)
            case atStart => exact ⟨0, Nat.zero_le _, rfl, bound, qj, hown, hRa, but_of HBA.out, by rw [Nat.sub_zero]; exact HGP, rfl, List.suffix_refl _⟩
            case round =>
              obtain ⟨n, hn, rfl, l, qn, hown3, hR3, hb3, hbn, hll, hqn⟩ := hrel
              have HLL := Lib.hid hll
              have hlb : l.length ≤ 1000000002 := by omega
              clear hown hRa HGP HBA hll
              obtain ⟨A3, cap3, hV3, -⟩ := Strs.own (R := R) hown3 hRi
              subst hV3
              by_cases hny : n < y
              · have HB3 := Lib.hid hb3
                have HO3 := Lib.hid hown3
                have HR3 := Lib.hid hR3
                have hlx := hR3.len
                have HBN := Lib.hid (show binders (y - n) l qn = binders (y - (n + 1)) (l ++ [qn.take.1]) (if isName qn.take.1 then qn.take.2 else qn.take.2.fail 7) from by
                  rw [show y - n = (y - (n + 1)) + 1 by omega]; rfl)
                have HQT := Lib.hid (take_l qn)
                clear hb3 hown3 hR3
                go_wp2_with fail
                refine (rw_any _ R D qn HR3.out).mono ?_
                rintro e wx ⟨rfl, hR4, hb4⟩
                have HO4 := Lib.hid (own_but HO3.out hRi hb4)
                have HB4 := Lib.hid (HB3.out.trans (hb4.mono HB3.out.size))
                have HR4 := Lib.hid hR4
                obtain ⟨⟨x, q1⟩, hx⟩ : ∃ a, qn.take = a := ⟨_, rfl⟩
                have hbn2 := HBN.out
                have hqt := HQT.out
                have hr4 := HR4.out
                simp only [hx] at hbn2 hqt hr4 hlx ⊢
                have HBN2 := Lib.hid hbn2
                have HQT2 := Lib.hid hqt
                have HR5 := Lib.hid hr4
                clear hb4 hR4 hbn2 hqt hr4 HR4 HR3 HO3 HB3 HBN HQT hx
                go_wp2_with fail
                refine (rname_any x hlx _).mono ?_
                rintro e wy ⟨rfl, hb5⟩
                have HO5 := Lib.hid (own_but HO4.out hRi (but_of hb5))
                have HB5 := Lib.hid (HB4.out.trans (but_of (hb5.mono HB4.out.size)))
                have HR6 := Lib.hid (HR5.out.below hb5)
                clear hb5 HO4 HB4 HR5
                obtain ⟨nm, hnm⟩ : ∃ b, isName x = b := ⟨_, rfl⟩
                have hbn3 := HBN2.out
                rw [hnm] at hbn3 ⊢
                have HBN3 := Lib.hid hbn3
                clear hbn3 HBN2 hnm
                go_upto_if 66 with fail
                go_cut [] from 67 to 68 (fun wz => wz.ownsRow wi.heap.size 9 1 (.slice A3 l.length cap3) l.length (strc l) ∧ RBox wz R D (if nm = true then q1 else q1.fail 7) ∧ But R wi.heap.size wi wz)
                case first =>
                  cases nm with
                  | true =>
                    go_wp2_with fail
                    go_meet
                    exact ⟨HO5.out, by simpa using HR6.out, HB5.out⟩
                  | false =>
                    go_wp2_with fail
                    refine (rfail_any _ R D q1 7 HR6.out).mono ?_
                    rintro e wz ⟨rfl, hR7, hb7⟩
                    have HE := Lib.hid (And.intro (own_but HO5.out hRi hb7) (And.intro hR7 (HB5.out.trans (hb7.mono HB5.out.size))))
                    clear hR7 hb7
                    go_wp2_with fail
                    go_meet
                    exact ⟨HE.out.1, by simpa using HE.out.2.1, HE.out.2.2⟩
                case rest =>
                  obtain ⟨hO7, hR7, hb7⟩ := hcut
                  have HOA := Lib.hid (hO7.alloc (.cells #[.string ⟨x.toArray⟩] 9))
                  have HRB := Lib.hid (hR7.below ((Below.refl wc.heap.size wc).alloc (Nat.le_refl _) (.cells #[.string ⟨x.toArray⟩] 9)))
                  have HBA := Lib.hid (hb7.alloc hb7.size (.cells #[.string ⟨x.toArray⟩] 9))
                  have HRD := Lib.hid (reads_new wc (.string ⟨x.toArray⟩) 9)
                  have hl1 : l.length + 1 ≤ maxLen := by unfold maxLen; omega
                  have hl2 : (l.length + 1) * 16 ≤ 140737488355328 := by omega
                  have hs7 := hb7.size
                  clear hO7 hR7 hb7 HO5 HB5 HR6
                  go_wp2_with (first | (at_builtin; go_loud (refine wpList_append_any _ rfl (.tmp 69) (.tmp 71) 35 rfl wi.heap.size 9 i0 (.string ⟨#[]⟩) 1 16 Tryz.underlying35 hi0 hz0 hz1 hz2 rfl (by decide) _ l.length (strc l) rfl HOA.out (wc.alloc (.cells #[.string ⟨x.toArray⟩] 9)).heap.size (some ⟨wc.heap.size, 0, none⟩) 1 1 [.string ⟨x.toArray⟩] rfl HRD.out (by intro u hu; simp at hu; subst hu; rfl) hl1 hl2 (by simp; omega) ?_)))
                  intro V4 w9 hown9 hgr9 _
                  have hown9' : w9.ownsRow wi.heap.size 9 1 V4 (l ++ [x]).length (strc (l ++ [x])) := by simpa [strc] using hown9
                  have hlo : ∀ g, (Value.slice A3 l.length cap3).ownBlock = some g → wi.heap.size ≤ g := fun g hg => (HOA.out.lt g hg).1
                  have HE := Lib.hid (And.intro hown9' (And.intro (HRB.out.grown hgr9 (fun e => absurd (hlo R e.symm) (by omega))) (HBA.out.grown hgr9 (by simp; omega) hlo)))
                  clear hown9 hgr9 hown9' HOA HRB HBA HRD
                  go_wp2_with fail
                  go_roundw
                  case rel => exact ⟨n + 1, by omega, by go_num, l ++ [x], _, HE.out.1, HE.out.2.1, HE.out.2.2, Lib.hid (HBN3.out.symm.trans hbn.out), by rw [List.length_append, HLL.out]; rfl, by split <;> first | exact HQT2.out.trans hqn | (rw [fail_l]; exact HQT2.out.trans hqn)⟩
                  case measure => simp [intOf]; omega
              · obtain rfl : n = y := by omega
                have hgp := hbn.out
                rw [Nat.sub_self] at hgp
                have HGP := Lib.hid (show gp = (l, qn) from hgp.symm)
                have HO := Lib.hid hown3
                have HR := Lib.hid hR3
                have HB := Lib.hid hb3
                clear hgp hbn hown3 hR3 hb3
                go_upto_if 76 with fail
                go_cut [] from 74 to 78 (fun wz => wz.ownsRow wi.heap.size 9 1 (.slice A3 l.length cap3) l.length (strc l) ∧ RBox wz R D (if 8 < l.length then qn.fail 5 else qn) ∧ But R wi.heap.size wi wz)
                case first =>
                  by_cases h8 : 8 < l.length
                  · have h8' : (8 : Int) < (l.length : Int) := by omega
                    go_wp2_with fail
                    refine (rfail_any _ R D qn 5 HR.out).mono ?_
                    rintro e wz ⟨rfl, hR7, hb7⟩
                    have HE := Lib.hid (And.intro (own_but HO.out hRi hb7) (And.intro hR7 (HB.out.trans (hb7.mono HB.out.size))))
                    clear hR7 hb7
                    go_wp2_with fail
                    go_meet
                    exact ⟨HE.out.1, by rw [if_pos h8]; exact HE.out.2.1, HE.out.2.2⟩
                  · have h8' : ¬ (8 : Int) < (l.length : Int) := by omega
                    go_wp2_with fail
                    go_meet
                    exact ⟨HO.out, by rw [if_neg h8]; exact HR.out, HB.out⟩
                case rest =>
                  obtain ⟨hO7, hR7, hb7⟩ := hcut
                  obtain ⟨q5, hq5⟩ : ∃ a, (if 8 < l.length then qn.fail 5 else qn) = a := ⟨_, rfl⟩
                  rw [hq5] at hR7
                  have hq5l : q5.l <:+ p.l := by
                    rw [← hq5]
                    split
                    · rw [fail_l]; exact hqn.trans hqj
                    · exact hqn.trans hqj
                  have HQ5 := Lib.hid hq5
                  have hTz := HA.out.1.but hb7 HA.out.1.lt (by omega)
                  have hBz := HA.out.2.1.but hb7 HA.out.2.1.lt (by omega)
                  have hrowz := HA.out.2.2.1.but (X := R) (fun b h => h.elim) (by omega) (fun h => h) hsz3 hb7
                  have hbwz := HA.out.2.2.2.2.1.trans (hb7.mono HA.out.2.2.2.2.1.size)
                  have hitz := heap_but hb7 (by omega) (by omega) HA.out.2.2.2.2.2
                  have hsz8 := hb7.size
                  have hih := IH.out (deep + 1) l q5 wc.drew _ (HU.out.imp id (fun h => h.sub hq5l)) (hR7.below (Below.refl wc.heap.size wc).drew) (HP.out.2.1.but hbwz.drew) (Strs.own (R := R) hO7.drew hRi) (by have := HLL.out; omega) (by omega) (by omega)
                  rw [HG.out] at hih
                  have HIH := Lib.hid hih
                  obtain ⟨AV, capV, hV⟩ := hrowz.form
                  subst hV
                  obtain ⟨⟨v0, v1, v2⟩, f0, f1, f2⟩ := hTz.tri
                  have HT := Lib.hid hTz
                  have HBZ := Lib.hid hBz
                  have HROW := Lib.hid hrowz
                  have HBW := Lib.hid hbwz
                  have HIT := Lib.hid hitz
                  have hwd : IntKind.i64.wrap (deep + 1) = deep + 1 := IntWalk.i64_in _ (by omega)
                  clear hO7 hR7 hb7 hTz hBz hrowz hbwz hitz hih HO HR HB HA hq5
                  obtain ⟨⟨xt, xp⟩, hgx⟩ : ∃ a, g l q5 = a := ⟨_, rfl⟩
                  have hih := HIH.out
                  rw [hgx] at hih
                  have HIH2 := Lib.hid (show Calls Tryz.prog 39 #[.pointer (some ⟨R, 0, none⟩), .slice A3 l.length cap3, .int .i64 (deep + 1)] wc.drew (fun e w' => ∃ s, e = .returned (.agg #[.int .i64 xt.k, .int .i64 xt.n, s]) ∧ argsInS w' (orNew nowhere wc.drew w') xt s ∧ RBox w' R D xp ∧ But R wc.drew.heap.size wc.drew w') from hih)
                  have hneR : w1.heap.size ≠ R := by omega
                  have HGX := Lib.hid hgx
                  clear hih hgx HIH
                  have hts1 : w1.heap.size < wc.heap.size := by omega
                  have HLEN := Lib.hid (show ts.length ≤ 2000000000 by omega)
                  have HRB := Lib.hid (show R < w4.heap.size + 1 by omega)
                  have HBS := Lib.hid (show w4.heap.size + 1 ≤ wc.heap.size by omega)
                  have HNE := Lib.hid (show ∀ b : Nat, b < w4.heap.size + 1 → some b ≠ (Value.slice AV ts.length capV).ownBlock from fun b hb e => absurd (HROW.out.lt b e.symm).1 (by omega))
                  go_wp2_with fail
                  go_region_law
                    (first
                      | ((refine step_append_term _ rfl (.tmp 80) (.tmp 86) rfl nowhere (w4.heap.size + 1) (fun b h => h.elim) HRC.out.2.2 (.slice AV ts.length capV) ts rfl HRC.out.1 HLEN.out xt (.slice A8 xt.al.length cap8) HRC.out.2.1 ⟨w8.heap.size, 0, none⟩ 1 rfl (new_term w8 (.int .i64 xt.k) (.int .i64 xt.n) (.slice A8 xt.al.length cap8) 30 w8.heap.size rfl) ?_); intro V9 w9 hrow9 hg9 _; (obtain ⟨AV9, cap9, hV9⟩ := hrow9.form); (rw [show (ts ++ [xt]).length = ts.length + 1 from by simp] at hV9); subst hV9; (have HR9 := Lib.hid hrow9); (have HG9 := Lib.hid hg9); (obtain ⟨⟨y0, y1, y2⟩, z0, z1, z2⟩ := (((HT.out.drew.but HB8.out hts1 hneR).alloc (.cells #[.int .i64 xt.k, .int .i64 xt.n, .slice A8 xt.al.length cap8] 30)).grown hg9 (HNE.out w1.heap.size (by omega))).tri); clear hrow9 hg9)
                      | (go_simp; (with_reducible refine (HIH2.out).mono ?_); rintro e w8 ⟨s8, rfl, hx8, hr8, hb8⟩; (obtain ⟨A8, cap8, rfl, -⟩ := argsInS_iff.1 hx8); (have k2 := (hb8.cell (p := ⟨w1.heap.size, 2, none⟩) hts1 hneR : _ = wc.cell? _).trans v2); (have HX8 := Lib.hid hx8); (have HR8 := Lib.hid hr8); (have HB8 := Lib.hid hb8); (have hs8 := hb8.size); (have a2 := (World.cell?_alloc_lt w8 (.cells #[.int .i64 xt.k, .int .i64 xt.n, .slice A8 xt.al.length cap8] 30) ⟨w1.heap.size, 2, none⟩ (Nat.lt_of_lt_of_le hts1 hs8)).trans k2); (have HRC := Lib.hid (row_call_but HROW.out (fun b h => h.elim) HRB.out (fun h => h) HBS.out (Below.refl wc.heap.size wc).drew hb8 hx8 (.cells #[.int .i64 xt.k, .int .i64 xt.n, .slice A8 xt.al.length cap8] 30))); clear hx8 hr8 hb8; go_wp2_with fail)
                      | fail)
                  all_goals
                    have hxp : xp.l <:+ p.l := by
                      have h1 : xp = (g l q5).2 := by rw [HGX.out]
                      rw [h1, ← HG.out]
                      exact (pterm_l f l q5).trans hq5l
                    have hfin : (ts ++ [xt] ++ (pargs g bound (sh.drop (j + 1)) xp).1, (pargs g bound (sh.drop (j + 1)) xp).2) = pargs g bound sh q := by
                      rw [← HREL.out, List.drop_eq_getElem_cons hlt', (List.getElem?_eq_some_iff.1 HY.out).2, pargs]
                      dsimp only
                      rw [HGP0.out, HGP.out]
                      dsimp only
                      rw [HQ5.out, HGX.out]
                      simp
                    have HFIN := Lib.hid hfin
                    have HRND := Lib.hid (term_round HIT.out HT.out HBZ.out HBW.out HB8.out HR8.out HG9.out HR9.out HNE.out hRl hgs hts (Nat.lt_succ_self _) HBS.out)
                    clear hfin
                    go_wp2_with fail
                    go_roundw
                    case rel => exact ⟨j + 1, ts ++ [xt], _, xp, by omega, by rw [List.length_append, HTL.out]; rfl, HRND.out.1, HRND.out.2.1, HRND.out.2.2.1, HRND.out.2.2.2.1, HRND.out.2.2.2.2.1, HRND.out.2.2.2.2.2.1, HRND.out.2.2.2.2.2.2, hxp, HFIN⟩
                    case measure =>
                      rw [iterPos_of HRND.out.1]
                      have h0 := HIT0.out
                      rw [iterPos_of h0]
                      omega
          · obtain rfl : j = sh.length := by have := X1.out; omega
            have hnx : ∀ ty, (Instr.next (.pointer (some ⟨w4.heap.size, 0, none⟩)) true ty).run Tryz.prog wr = _ := fun ty => Lib.run_next_end_at wr w4.heap.size S sh.length ty hit hlt
            have hpa : pargs g bound sh q = (ts, qj) := by
              have h := hrel2.out
              rw [List.drop_length, pargs] at h
              simpa using h.symm
            have heq := HEQ.out
            rw [hpa] at heq
            dsimp only at heq
            have HEQ3 := Lib.hid heq
            obtain ⟨AV, capV, hV⟩ := hrow.form
            subst hV
            have HT := Lib.hid hT
            have HBZ := Lib.hid hB
            have HROW := Lib.hid hrow
            have HBW := Lib.hid hbw
            have HR := Lib.hid hR
            clear hT hB hrow hR hbw hit hpa heq hrel2 HEQ
            go_wp2_with fail
            refine (rw_any _ R D qj HR.out).mono ?_
            rintro e wx ⟨rfl, hRx, hbx⟩
            have hTx := HT.out.but hbx HT.out.lt (by omega)
            have hBx := HBZ.out.but hbx HBZ.out.lt (by omega)
            have HROWX := Lib.hid (HROW.out.but (X := R) (fun b h => h.elim) (by omega) (fun h => h) hsz2 hbx)
            have HBWX := Lib.hid (HBW.out.trans (hbx.mono HBW.out.size))
            have hszx : w4.heap.size + 1 ≤ wx.heap.size := Nat.le_trans hsz2 hbx.size
            have HRX := Lib.hid hRx
            clear hbx hRx hnx HT HBZ HROW HBW HR
            by_cases hx : qj.take.1 = [41]
            · have hxb : (qj.take.1 == [41]) = true := by simpa using hx
              have HC := Lib.hid (show closed qj = qj.take.2 from by unfold closed; rw [if_pos hx])
              obtain ⟨t0, t1, t2⟩ := hTx.tri.1
              obtain ⟨⟨d0, d1, d2⟩, e0, e1, e2⟩ := hBx.tri
              clear hx hTx hBx
              go_wp2_with fail
              refine bodyPost_ret (v := .agg #[.int .i64 kk, .int .i64 0, .slice AV ts.length capV]) (by simp [results, Tryz.results39, go_sem, d0, d1, d2]) rfl ?_
              rw [HEQ3.out, HC.out]
              exact ⟨_, rfl, term_fin HROWX.out (by omega) hszx, (atom_end HRX.out HBWX.out hRl).1, (atom_end HRX.out HBWX.out hRl).2⟩
            · have hxb : (qj.take.1 == [41]) = false := by simpa using hx
              have HC := Lib.hid (show closed qj = qj.take.2.fail 2 from by unfold closed; rw [if_neg hx])
              clear hx
              go_wp2_with fail
              refine (rfail_any _ R D qj.take.2 2 HRX.out).mono ?_
              rintro e wy ⟨rfl, hRy, hby⟩
              have hTy := hTx.but hby hTx.lt (by omega)
              have hBy := hBx.but hby hBx.lt (by omega)
              have HROWY := Lib.hid (HROWX.out.but (X := R) (fun b h => h.elim) (by omega) (fun h => h) hszx hby)
              have HBWY := Lib.hid (HBWX.out.trans (hby.mono HBWX.out.size))
              have hszy : w4.heap.size + 1 ≤ wy.heap.size := Nat.le_trans hszx hby.size
              have HRY := Lib.hid hRy
              obtain ⟨t0, t1, t2⟩ := hTy.tri.1
              obtain ⟨⟨d0, d1, d2⟩, e0, e1, e2⟩ := hBy.tri
              clear hby hRy hTx hBx hTy hBy HROWX HBWX HRX
              go_wp2_with fail
              refine bodyPost_ret (v := .agg #[.int .i64 kk, .int .i64 0, .slice AV ts.length capV]) (by simp [results, Tryz.results39, go_sem, d0, d1, d2]) rfl ?_
              rw [HEQ3.out, HC.out]
              exact ⟨_, rfl, term_fin HROWY.out (by omega) hszy, (atom_end HRY.out HBWY.out hRl).1, (atom_end HRY.out HBWY.out hRl).2⟩
      · have HEQ := Lib.hid (pterm_atom (cn := cn) (decls := decls) (f := f) (bound := bound) HPE.out hx)
        have hxb : (p.take.1 == [40]) = false := by simpa using hx
        clear hx
        have hcall : Calls Tryz.prog 74 #[.pointer (some ⟨R, 0, none⟩), .string ⟨p.take.1.toArray⟩, .slice BA bound.length bcap] w1 (ReadPost (.agg #[.int .i64 (atom cn decls p.take.1 bound p.take.2).1.k, .int .i64 (atom cn decls p.take.1 bound p.take.2).1.n, .slice none 0 0]) (atom cn decls p.take.1 bound p.take.2).2 R D w1) := by
          by_cases h85 : p.take.1.head? = some 85
          · rcases HU.out with hu | hu
            · exact hu w1 R D _ p.take.2 p.take.1 decls bound HP.out.1.len HR1.out h85
            · exfalso
              obtain ⟨pl, pe⟩ := p
              cases pl with
              | nil => simp [PS.take] at h85
              | cons a r => exact hu a (List.mem_cons_self ..) h85
          · exact atom_other cn w1 R D _ p.take.2 p.take.1 decls bound HP.out.1.len HR1.out h85 (HP.out.2.1.but HB1.out) (HP.out.2.2.but HB1.out) hdl (by omega)
        have HCALL := Lib.hid hcall
        clear hcall
        go_wp2_with fail
        refine HCALL.out.mono ?_
        rintro e w2 ⟨rfl, hR2, hb2⟩
        obtain ⟨⟨d0, d1, d2⟩, e0, e1, e2⟩ := (hB1.but hb2 hB1.lt (by omega)).tri
        have HE := Lib.hid (And.intro hR2 (HB1.out.trans (hb2.mono HB1.out.size)))
        clear hR2 hb2 hB1 HCALL
        go_wp2_with fail
        refine bodyPost_ret (v := .agg #[.int .i64 (atom cn decls p.take.1 bound p.take.2).1.k, .int .i64 (atom cn decls p.take.1 bound p.take.2).1.n, .slice none 0 0]) (by simp [results, Tryz.results39, go_sem, d0, d1, d2]) rfl ?_
        rw [HEQ.out]
        obtain ⟨ak, an, hal⟩ := atom_al (cn := cn) (decls := decls) (bound := bound) (x := p.take.1) (p := p.take.2)
        refine ⟨_, rfl, ?_, (atom_end HE.out.1 HE.out.2 hRl).1, (atom_end HE.out.1 HE.out.2 hRl).2⟩
        rw [hal]
        exact args_none _ _ _ _
    · rw [pterm_err hpe]
      have hpeb : (p.e != 0) = true := by simpa using hpe
      clear hpe
      go_enter Tryz.func39, Tryz.ntmps39
      go_wp2_with fail
      refine bodyPost_ret (v := .agg #[.int .i64 0, .int .i64 0, .slice none 0 0]) (by simp [results, Tryz.results39, go_sem]) rfl ⟨_, rfl, args_none _ _ _ _, HP.out.1.below hb0, but_of hb0⟩
end Go.Proofs.YtjboibbgigkhkaaGreatDoor

/- Parse of the document's answer: the term of a text. -/
namespace Go.Proofs.YtjboibbgigkhkaaGreatDoor
open Go.RowKit
set_option maxRecDepth 100000

theorem Strs.any {w : World} {R R' : Nat} {l : List Str} {v : Value} (h : Strs w R l v) (hR : w.heap.size ≤ R') : Strs w R' l v := by
  obtain ⟨A, cap, h1, h2, h3, h4⟩ := h
  exact ⟨A, cap, h1, h2, h3, fun hne => by
    obtain ⟨b, off, e, hlt, -, hc⟩ := h4 hne
    exact ⟨b, off, e, hlt, by omega, hc⟩⟩

/-- behind Parse: the term, what is wrong -/
def ParsePost (r : T × Int) (w : World) (e : Ending) (w' : World) : Prop :=
  ∃ s, e = .returned (.tuple #[.agg #[.int .i64 r.1.k, .int .i64 r.1.n, s], .int .i64 r.2]) ∧ argsInS w' (orNew nowhere w w') r.1 s ∧ Below w.heap.size w w'

theorem ended_err {p : PS} (h : p.e ≠ 0) : ended p = p := by unfold ended; rw [if_neg (fun h' => h h'.1)]
theorem ended_ok {p : PS} (h : p.l = []) : ended p = p := by unfold ended; rw [if_neg (fun h' => h'.2 h)]
theorem ended_more {p : PS} (h : p.e = 0) (hl : p.l ≠ []) : ended p = ⟨p.l, 2⟩ := by unfold ended; rw [if_pos ⟨h, hl⟩, PS.fail, if_pos h]

theorem parse_body {cn : Str → Option Int} {decls bound : List Str} {s : Str} (h1 : ¬ 1500 < s.length) (h2 : ¬ 8 < bound.length) : parse cn decls s bound =
    if (ended (pterm cn decls 24 bound ⟨words s, 0⟩).2).e ≠ 0 then (T0, (ended (pterm cn decls 24 bound ⟨words s, 0⟩).2).e) else ((pterm cn decls 24 bound ⟨words s, 0⟩).1, 0) := by
  unfold parse
  rw [if_neg h1, if_neg h2]

theorem parse_fin {w w4 : World} {n : Nat} {t : T} {s a b c : Value} (h : argsInS w4 (fun b => w.heap.size + 2 ≤ b ∧ b < n) t s) (hn : n ≤ w4.heap.size) :
    argsInS (((w4.setCell ⟨w.heap.size, 0, none⟩ a).setCell ⟨w.heap.size, 1, none⟩ b).setCell ⟨w.heap.size, 2, none⟩ c) (orNew nowhere w (((w4.setCell ⟨w.heap.size, 0, none⟩ a).setCell ⟨w.heap.size, 1, none⟩ b).setCell ⟨w.heap.size, 2, none⟩ c)) t s := by
  refine h.keep (fun b hb => .inr ⟨by omega, by simp [World.setCell]; omega⟩) fun p hp => ?_
  have h1 : p.block ≠ w.heap.size := by have := hp.1; omega
  exact World.cell?_of_block (by rw [Below.heap_setCell _ _ _ _ h1, Below.heap_setCell _ _ _ _ h1, Below.heap_setCell _ _ _ _ h1])

set_option maxHeartbeats 400000 in
theorem rparse_any (cn : Str → Option Int) (decls bound : List Str) (s : Str) (w : World) (bv D : Value) (hU : AtomU cn ∨ noU ⟨words s, 0⟩) (hs : s.length ≤ 1000000000000) (hD : Strs w w.heap.size decls D) (hb : Strs w w.heap.size bound bv)
    (hdl : decls.length ≤ 1000000000000) (hbl : bound.length ≤ 1000000000000) :
    Calls Tryz.prog 19 #[.string ⟨s.toArray⟩, bv, D] w (ParsePost (parse cn decls s bound) w) := by
  obtain ⟨BA, bcap, rfl, -⟩ := id hb
  obtain ⟨DA, dcap, rfl, -⟩ := id hD
  have hblk := Blk.new w 30 #[.int .i64 0, .int .i64 0, .slice none 0 0]
  have hb0 := (Below.refl w.heap.size w).alloc (Nat.le_refl _) (.cells #[.int .i64 0, .int .i64 0, .slice none 0 0] 30)
  by_cases h1 : 1500 < s.length
  · have hp : parse cn decls s bound = (T0, 4) := by unfold parse; rw [if_pos h1]
    rw [hp]
    have h1' : (1500 : Int) < (s.length : Int) := by omega
    clear hp hb hD hU
    go_enter Tryz.func19, Tryz.ntmps19
    go_wp2_with fail
    refine bodyPost_ret (v := .tuple #[.agg #[.int .i64 0, .int .i64 0, .slice none 0 0], .int .i64 4]) (by simp [results, Tryz.results19, go_sem]) rfl ⟨_, rfl, args_none _ _ _ _, ?_⟩
    exact hb0
  · have h1' : ¬ (1500 : Int) < (s.length : Int) := by omega
    by_cases h2 : 8 < bound.length
    · have hp : parse cn decls s bound = (T0, 5) := by unfold parse; rw [if_neg h1, if_pos h2]
      rw [hp]
      have h2' : (8 : Int) < (bound.length : Int) := by omega
      clear hp hb hD hU
      go_enter Tryz.func19, Tryz.ntmps19
      go_wp2_with fail
      refine bodyPost_ret (v := .tuple #[.agg #[.int .i64 0, .int .i64 0, .slice none 0 0], .int .i64 5]) (by simp [results, Tryz.results19, go_sem]) rfl ⟨_, rfl, args_none _ _ _ _, ?_⟩
      exact hb0
    · have h2' : ¬ (8 : Int) < (bound.length : Int) := by omega
      have hpb := parse_body (cn := cn) (decls := decls) h1 h2
      have hb1 := hb0.alloc (by simp) (.cells #[.string ⟨s.toArray⟩, .slice DA decls.length dcap, .int .i64 0] 40)
      have hR1 : RBox ((w.alloc (.cells #[.int .i64 0, .int .i64 0, .slice none 0 0] 30)).alloc (.cells #[.string ⟨s.toArray⟩, .slice DA decls.length dcap, .int .i64 0] 40)) (w.heap.size + 1) (.slice DA decls.length dcap) ⟨words s, 0⟩ := by
        refine ⟨s, hs, rfl, ?_⟩
        have h := Blk.new (w.alloc (.cells #[.int .i64 0, .int .i64 0, .slice none 0 0] 30)) 40 #[.string ⟨s.toArray⟩, .slice DA decls.length dcap, .int .i64 0]
        simpa using h
      have hB1 := hblk.alloc (.cells #[.string ⟨s.toArray⟩, .slice DA decls.length dcap, .int .i64 0] 40)
      have hD1 := (hD.any (R' := w.heap.size + 1) (by omega)).but (but_of hb1)
      have hb2 := (hb.any (R' := w.heap.size + 1) (by omega)).but (but_of hb1)
      have hcall := rterm_any cn decls (w.heap.size + 1) (.slice DA decls.length dcap) hdl 24 1 bound ⟨words s, 0⟩ _ _ hU hR1 hD1 hb2 (by omega) (by omega) (by omega)
      obtain ⟨⟨t, q⟩, hq⟩ : ∃ a, pterm cn decls 24 bound ⟨words s, 0⟩ = a := ⟨_, rfl⟩
      rw [hq] at hcall hpb
      dsimp only at hpb
      have HCALL := Lib.hid (show Calls Tryz.prog 39 _ _ (fun e w' => ∃ s, e = .returned (.agg #[.int .i64 t.k, .int .i64 t.n, s]) ∧ argsInS w' (orNew nowhere _ w') t s ∧ RBox w' _ _ q ∧ But _ _ _ w') from hcall)
      have HPB := Lib.hid hpb
      have HB1 := Lib.hid hb1
      clear hcall hpb hq hb hD hU hb0 hblk hR1 hD1 hb2 hb1
      go_enter Tryz.func19, Tryz.ntmps19
      go_wp2_with fail
      refine HCALL.out.mono ?_
      rintro e w2 ⟨s2, rfl, hx, hR2, hb2⟩
      obtain ⟨A2, cap2, rfl, -⟩ := argsInS_iff.1 hx
      have hB2 := hB1.but hb2 hB1.lt (by omega)
      have hbw := (but_of (X := w.heap.size + 1) HB1.out).trans (hb2.mono HB1.out.size)
      have hs2 := hb2.size
      simp at hs2
      have hx2 : argsInS w2 (fun b => w.heap.size + 2 ≤ b ∧ b < w2.heap.size) t (.slice A2 t.al.length cap2) := hx.keep (fun b hb => hb.elim (fun h => h.elim) (fun h => ⟨by have := h.1; simpa using this, h.2⟩)) (fun _ _ => rfl)
      have HX := Lib.hid hx2
      have HBW := Lib.hid hbw
      have HR2 := Lib.hid hR2
      have hRlt := hR2.lt
      have hB3 := hB2.alloc (.cells #[.int .i64 t.k, .int .i64 t.n, .slice A2 t.al.length cap2] 30)
      have hR3 := hR2.below ((Below.refl w2.heap.size w2).alloc (Nat.le_refl _) (.cells #[.int .i64 t.k, .int .i64 t.n, .slice A2 t.al.length cap2] 30))
      have hT3 := Blk.new w2 30 #[.int .i64 t.k, .int .i64 t.n, .slice A2 t.al.length cap2]
      have hb3 := hbw.alloc hbw.size (.cells #[.int .i64 t.k, .int .i64 t.n, .slice A2 t.al.length cap2] 30)
      have HB3 := Lib.hid hb3
      have HR3 := Lib.hid hR3
      obtain ⟨sq, -, hwq, hBq⟩ := hR3
      have r2 := hBq.cell 2
      simp only [List.getElem?_toArray, List.getElem?_cons_succ, List.getElem?_cons_zero] at r2
      clear hx hx2 hbw hR2 hb2 HCALL hB1 hB2 hb3 hBq HR2 HBW
      by_cases he : q.e = 0
      · have heb : (q.e == 0) = true := by simpa using he
        by_cases hl : q.l = []
        · have hp := HPB.out
          rw [ended_ok hl, if_neg (by simpa using he)] at hp
          rw [hl] at hwq
          have hpk := rpeek_any _ _ _ q HR3.out
          rw [show (q.l.headD []) = [] from by rw [hl]; rfl] at hpk
          have HPK := Lib.hid hpk
          have HP := Lib.hid hp
          clear hp hpk hl
          go_wp2_with fail
          refine HPK.out.mono ?_
          rintro e w4 ⟨rfl, hR4, hb4⟩
          have hT4 := hT3.but hb4 hT3.lt (by omega)
          have hB4 := hB3.but hb4 hB3.lt (by omega)
          have HB4 := Lib.hid (HB3.out.trans (hb4.mono HB3.out.size))
          have HX4 := Lib.hid (HX.out.keep (w' := w4) (S' := fun b => w.heap.size + 2 ≤ b ∧ b < w2.heap.size) (fun _ h => h) (fun p hp => by
            have h1 := hp.1
            have h2 := hp.2
            rw [hb4.cell (by simp; omega) (by omega)]
            exact World.cell?_alloc_lt _ _ _ h2))
          obtain ⟨sq2, -, -, hBq2⟩ := hR4
          have r3 := hBq2.cell 2
          simp only [List.getElem?_toArray, List.getElem?_cons_succ, List.getElem?_cons_zero] at r3
          obtain ⟨⟨t0, t1, t2⟩, -⟩ := hT4.tri
          obtain ⟨⟨d0, d1, d2⟩, e0, e1, e2⟩ := hB4.tri
          have heb3 : (q.e != 0) = false := by simpa using he
          have hs4 := hb4.size
          simp at hs4
          have HE := Lib.hid he
          clear hT4 hB4 hBq2 hT3 hB3 hb4 he HPK
          go_wp2_with fail
          refine bodyPost_ret (v := .tuple #[.agg #[.int .i64 t.k, .int .i64 t.n, .slice A2 t.al.length cap2], .int .i64 0]) (by simp [results, Tryz.results19, go_sem, d0, d1, d2]) rfl ?_
          rw [HP.out]
          refine ⟨_, rfl, parse_fin HX4.out (by omega), ?_⟩
          exact (((HB4.out.below (Nat.le_refl _) (by omega)).setCell (by simp) _).setCell (by simp) _).setCell (by simp) _
        · have hp := HPB.out
          rw [ended_more he hl, if_pos (by simp)] at hp
          obtain ⟨a, r, hal⟩ : ∃ a r, q.l = a :: r := by
            cases h : q.l with
            | nil => exact absurd h hl
            | cons a r => exact ⟨a, r, rfl⟩
          have ha : a ≠ [] := words_ne sq a (by rw [hwq, hal]; exact List.mem_cons_self ..)
          have hne : a.isEmpty = false := by simpa using ha
          have hpk := rpeek_any _ _ _ q HR3.out
          rw [show (q.l.headD []) = a from by rw [hal]; rfl] at hpk
          have HPK := Lib.hid hpk
          have HP := Lib.hid hp
          have hff : (q.fail 2).e = 2 := by unfold PS.fail; rw [if_pos he]
          have HFF := Lib.hid hff
          clear hp hpk hl ha hal hff he
          go_wp2_with fail
          refine HPK.out.mono ?_
          rintro e w4 ⟨rfl, hR4, hb4⟩
          have hB4 := hB3.but hb4 hB3.lt (by omega)
          have HB4 := Lib.hid (HB3.out.trans (hb4.mono HB3.out.size))
          have HR4 := Lib.hid hR4
          have hs4 := hb4.size
          simp at hs4
          clear hb4 hR4 hB3 HPK hT3
          go_wp2_with fail
          refine (rfail_any _ _ _ q 2 HR4.out).mono ?_
          rintro e w5 ⟨rfl, hR5, hb5⟩
          have hB5 := hB4.but hb5 hB4.lt (by omega)
          have HB5 := Lib.hid (HB4.out.trans (hb5.mono HB4.out.size))
          obtain ⟨sq2, -, -, hBq2⟩ := hR5
          have r3 := hBq2.cell 2
          rw [HFF.out] at r3
          simp only [List.getElem?_toArray, List.getElem?_cons_succ, List.getElem?_cons_zero] at r3
          obtain ⟨⟨d0, d1, d2⟩, e0, e1, e2⟩ := hB5.tri
          have hs5 := hb5.size
          clear hb5 hB4 hB5 hBq2 r2
          go_wp2_with fail
          go_region
          all_goals go_wp2_with fail
          all_goals (
            refine bodyPost_ret (v := .tuple #[.agg #[.int .i64 0, .int .i64 0, .slice none 0 0], .int .i64 2]) (by simp [results, Tryz.results19, go_sem, d0, d1, d2]) rfl ?_
            rw [HP.out]
            refine ⟨_, rfl, args_none _ _ _ _, ?_⟩
            exact Below.drew ((((HB5.out.below (Nat.le_refl _) (by omega)).setCell (by simp) _).setCell (by simp) _).setCell (by simp) _))
      · have heb : (q.e == 0) = false := by simpa using he
        have heb2 : (q.e != 0) = true := by simpa using he
        have hp := HPB.out
        rw [ended_err he, if_pos he] at hp
        have HP := Lib.hid hp
        clear hp he
        obtain ⟨⟨d0, d1, d2⟩, e0, e1, e2⟩ := hB3.tri
        clear hB3
        go_wp2_with fail
        go_region
        all_goals go_wp2_with fail
        all_goals (
          refine bodyPost_ret (v := .tuple #[.agg #[.int .i64 0, .int .i64 0, .slice none 0 0], .int .i64 q.e]) (by simp [results, Tryz.results19, go_sem, d0, d1, d2]) rfl ?_
          rw [HP.out]
          refine ⟨_, rfl, args_none _ _ _ _, ?_⟩
          exact Below.drew ((((HB3.out.below (Nat.le_refl _) (by omega)).setCell (by simp) _).setCell (by simp) _).setCell (by simp) _))
end Go.Proofs.YtjboibbgigkhkaaGreatDoor

/- The program's own reader (package text): its box; fail and take. -/
namespace Go.Proofs.YtjboibbgigkhkaaGreatDoor
open Go.RowKit
set_option maxRecDepth 100000

/-- the box of the program's reader: these words are left (they lie in block L); what was wrong first -/
def PBox (w : World) (R L : Nat) (D : Value) (p : PS) : Prop := ∃ (A : Option Addr) (cap : Nat), Strs w R p.l (.slice A p.l.length cap) ∧ (p.l.length ≤ 1000000000000 ∧ L < w.heap.size ∧ (p.l ≠ [] → ∃ off, A = some ⟨L, off, none⟩)) ∧ Blk w R 75 #[.slice A p.l.length cap, D, .int .i64 p.e]

theorem PBox.lt {w : World} {R L : Nat} {D : Value} {p : PS} (h : PBox w R L D p) : R < w.heap.size := by
  obtain ⟨A, cap, -, -, h⟩ := h
  exact h.lt
theorem PBox.ltL {w : World} {R L : Nat} {D : Value} {p : PS} (h : PBox w R L D p) : L < w.heap.size := by
  obtain ⟨A, cap, -, h, -⟩ := h
  exact h.2.1
/-- the same cells: the same box -/
theorem PBox.same {w w' : World} {R L : Nat} {D : Value} {p : PS} (h : PBox w R L D p) (hs : w.heap.size ≤ w'.heap.size) (h1 : w'.heap[R]? = w.heap[R]?) (h2 : w'.heap[L]? = w.heap[L]?) : PBox w' R L D p := by
  obtain ⟨A, cap, ⟨A0, cap0, e, g2, g3, g4⟩, ⟨k1, k2, k3⟩, k4⟩ := h
  cases e
  refine ⟨A, cap, ⟨A, cap, rfl, g2, g3, fun hne => ?_⟩, ⟨k1, by omega, k3⟩, h1.trans k4⟩
  obtain ⟨b, off, e, hlt, hR, hc⟩ := g4 hne
  obtain ⟨off2, e2⟩ := k3 hne
  rw [e] at e2
  cases e2
  exact ⟨L, off, e, by omega, hR, fun j s hj => (World.cell?_of_block (a := ⟨L, off + j, none⟩) h2).trans (hc j s hj)⟩
theorem PBox.below {w w' : World} {R L : Nat} {D : Value} {p : PS} (h : PBox w R L D p) (hb : Below w.heap.size w w') : PBox w' R L D p := h.same hb.size (hb.block R h.lt) (hb.block L h.ltL)
theorem PBox.butX {w w' : World} {R L X : Nat} {D : Value} {p : PS} (h : PBox w R L D p) (hX : R ≠ X) (hL : L ≠ X) (hb : But X w.heap.size w w') : PBox w' R L D p := h.same hb.size (hb.block R h.lt hX) (hb.block L h.ltL hL)
theorem PBox.far {w : World} {R L : Nat} {D : Value} {p : PS} (h : PBox w R L D p) {a : Addr} (hR : R ≠ a.block) (hL : L ≠ a.block) (u : Value) : PBox (w.setCell a u) R L D p :=
  h.same (by simp [World.setCell]) (Below.heap_setCell _ _ _ _ hR) (Below.heap_setCell _ _ _ _ hL)
theorem PBox.grown {w w' : World} {R L : Nat} {D : Value} {p : PS} {row : Option Nat} (h : PBox w R L D p) (hg : w.grownBy w' row) (hR : some R ≠ row) (hL : some L ≠ row) : PBox w' R L D p :=
  h.same hg.size (hg.block R h.lt hR) (hg.block L h.ltL hL)

/-- behind a call on the reader -/
def PPost (v : Value) (p : PS) (R L : Nat) (D : Value) (w : World) (e : Ending) (w' : World) : Prop := e = .returned v ∧ PBox w' R L D p ∧ But R w.heap.size w w'

theorem Strs.setR {w : World} {R : Nat} {l : List Str} {v : Value} (h : Strs w R l v) (i : Nat) (u : Value) : Strs (w.setCell ⟨R, i, none⟩ u) R l v := by
  obtain ⟨A, cap, h1, h2, h3, h4⟩ := h
  refine ⟨A, cap, h1, h2, h3, fun hne => ?_⟩
  obtain ⟨b, off, e, hlt, hR, hc⟩ := h4 hne
  exact ⟨b, off, e, by simpa [World.setCell] using hlt, hR, fun j s hj => (World.cell?_of_block (Below.heap_setCell _ _ _ _ hR)).trans (hc j s hj)⟩

theorem pfail_any (w : World) (R L : Nat) (D : Value) (p : PS) (c : Int) (hR : PBox w R L D p) :
    Calls Tryz.prog 38 #[.pointer (some ⟨R, 0, none⟩), .int .i64 c] w (PPost (.agg #[.int .i64 0, .int .i64 0, .slice none 0 0]) (p.fail c) R L D w) := by
  have hRl := hR.lt
  obtain ⟨A, cap, hs, hl, hB⟩ := hR
  have hb0 := (Below.refl w.heap.size w).alloc (Nat.le_refl _) (.cells #[.int .i64 0, .int .i64 0, .slice none 0 0] 30)
  have b2 : w.cell? ⟨R, 2, none⟩ = some (.int .i64 p.e) := hB.cell 2
  have f2 := hB.frozen 2
  have HB := Lib.hid (And.intro hB hs)
  by_cases h0 : p.e = 0
  · have HF := Lib.hid (show p.fail c = ⟨p.l, c⟩ from by unfold PS.fail; rw [if_pos h0])
    have hb : (p.e == 0) = true := by simpa using h0
    clear hB h0 hs
    go_enter Tryz.func38, Tryz.ntmps38
    go_wp2_with fail
    refine bodyPost_ret (v := .agg #[.int .i64 0, .int .i64 0, .slice none 0 0]) (by simp [results, Tryz.results38, go_sem]) rfl ?_
    rw [HF.out]
    refine ⟨rfl, ⟨A, cap, ?_, ⟨hl.1, by have := hl.2.1; simp [World.setCell]; omega, hl.2.2⟩, ?_⟩, ?_⟩
    · exact (HB.out.2.setR 2 _).but (but_of ((Below.refl _ _).alloc (Nat.le_refl _) _))
    · have h := (HB.out.1.set_ 2 (.int .i64 c)).alloc (.cells #[.int .i64 0, .int .i64 0, .slice none 0 0] 30)
      simpa using h
    · exact ((But.refl R w.heap.size w).setX (p := ⟨R, 2, none⟩) rfl _).alloc (by simp) _
  · have HF := Lib.hid (show p.fail c = p from by unfold PS.fail; rw [if_neg h0])
    have hb : (p.e == 0) = false := by simpa using h0
    clear hB h0 hs
    go_enter Tryz.func38, Tryz.ntmps38
    go_wp2_with fail
    refine bodyPost_ret (v := .agg #[.int .i64 0, .int .i64 0, .slice none 0 0]) (by simp [results, Tryz.results38, go_sem]) rfl ?_
    rw [HF.out]
    exact ⟨rfl, PBox.below ⟨A, cap, HB.out.2, hl, HB.out.1⟩ hb0, but_of hb0⟩

theorem Strs.tail {w : World} {R : Nat} {a : Str} {r : List Str} {A : Option Addr} {cap : Nat} (h : Strs w R (a :: r) (.slice A (a :: r).length cap)) : ∃ b off, A = some ⟨b, off, none⟩ ∧ b ≠ R ∧ w.cell? ⟨b, off, none⟩ = some (.string ⟨a.toArray⟩) ∧ r.length + 1 ≤ cap ∧ cap ≤ maxLen ∧
    ∀ A', (r ≠ [] → A' = some ⟨b, off + 1, none⟩) → Strs w R r (.slice A' r.length (cap - 1)) := by
  obtain ⟨A0, cap0, e, h2, h3, h4⟩ := h
  cases e
  obtain ⟨b, off, e, hlt, hR, hc⟩ := h4 (by simp)
  refine ⟨b, off, e, hR, by simpa using hc 0 a rfl, by simpa using h2, h3, fun A' hA' => ⟨A', cap - 1, rfl, by simp at h2; omega, by omega, fun hne => ⟨b, off + 1, hA' hne, hlt, hR, fun j s hj => ?_⟩⟩⟩
  have := hc (j + 1) s (by simpa using hj)
  rw [show off + 1 + j = off + (j + 1) by omega]
  exact this

theorem ptake_any (w : World) (R L : Nat) (D : Value) (p : PS) (hR : PBox w R L D p) :
    Calls Tryz.prog 70 #[.pointer (some ⟨R, 0, none⟩)] w (PPost (.string ⟨p.take.1.toArray⟩) p.take.2 R L D w) := by
  have hRl := hR.lt
  obtain ⟨pl, pe⟩ := p
  cases pl with
  | nil =>
    have HTK := Lib.hid (show PS.take ⟨[], pe⟩ = ([], PS.fail 8 ⟨[], pe⟩) from rfl)
    have HR := Lib.hid hR
    obtain ⟨A, cap, hs, hl, hB⟩ := hR
    have b0 : w.cell? ⟨R, 0, none⟩ = some (.slice A 0 cap) := hB.cell 0
    clear hB hs
    go_enter Tryz.func70, Tryz.ntmps70
    go_wp2_with fail
    refine (pfail_any w R L D ⟨[], pe⟩ 8 HR.out).mono ?_
    rintro e w1 ⟨rfl, hR1, hb1⟩
    have HE := Lib.hid (And.intro hR1 hb1)
    clear hR1 hb1
    go_wp2_with fail
    go_ret
    rw [HTK.out]
    exact ⟨rfl, HE.out.1, HE.out.2⟩
  | cons a r =>
    have HTK := Lib.hid (show PS.take ⟨a :: r, pe⟩ = (a, ⟨r, pe⟩) from rfl)
    obtain ⟨A, cap, hs, hl, hB⟩ := hR
    obtain ⟨b, off, hA, hbR, hca, hcap, hcm, htl⟩ := hs.tail
    subst hA
    obtain ⟨hl1, hl2, hl3⟩ := hl
    obtain ⟨off2, e2⟩ := hl3 (by simp)
    cases e2
    clear hl3
    simp only [List.length_cons] at hB hl1
    have b0 : w.cell? ⟨R, 0, none⟩ = some (.slice (some ⟨L, off, none⟩) (r.length + 1) cap) := hB.cell 0
    have f0 := hB.frozen 0
    have HB := Lib.hid hB
    have HTL := Lib.hid htl
    clear hB hs htl
    unfold maxLen at hcm
    have hr1 : ((r.length : Int) + 1 == 0) = false := by rw [beq_eq_false_iff_ne]; omega
    by_cases hc1 : cap = 1
    · have hr0 : r = [] := List.eq_nil_of_length_eq_zero (by omega)
      have HS := Lib.hid (HTL.out (some ⟨L, off, none⟩) (fun h => absurd hr0 h))
      subst hr0 hc1
      clear HTL
      go_enter Tryz.func70, Tryz.ntmps70
      go_wp2_with fail
      go_ret
      rw [HTK.out]
      refine ⟨rfl, ⟨_, _, HS.out.setR 0 _, ⟨by simp, by simpa [World.setCell] using hl2, fun h => absurd rfl h⟩, ?_⟩, (But.refl R w.heap.size w).setX (p := ⟨R, 0, none⟩) rfl _⟩
      have h := HB.out.set_ 0 (.slice (some ⟨L, off, none⟩) 0 0)
      simpa using h
    · have HS := Lib.hid (HTL.out (some ⟨L, off + 1, none⟩) (fun _ => rfl))
      clear HTL
      go_enter Tryz.func70, Tryz.ntmps70
      go_wp2_with fail
      go_ret
      rw [HTK.out]
      refine ⟨rfl, ⟨_, _, HS.out.setR 0 _, ⟨by simp; omega, by simpa [World.setCell] using hl2, fun _ => ⟨_, rfl⟩⟩, ?_⟩, (But.refl R w.heap.size w).setX (p := ⟨R, 0, none⟩) rfl _⟩
      have h := HB.out.set_ 0 (.slice (some ⟨L, off + 1, none⟩) r.length (cap - 1))
      simpa using h
end Go.Proofs.YtjboibbgigkhkaaGreatDoor

/- slices.Index, slices.Contains, slices.Clone at texts; the words of kinds; how many names an argument binds. -/
namespace Go.Proofs.YtjboibbgigkhkaaGreatDoor
open Go.RowKit
set_option maxRecDepth 100000

/-- where a text stands first; -1: nowhere -/
def idxOf (l : List Str) (x : Str) : Int := match l.findIdx? (· == x) with
  | some i => i
  | none => -1

theorem idxOf_some {l : List Str} {x : Str} {i : Nat} (hi : i < l.length) (hx : l[i] = x) (hn : ∀ j, j < i → ∀ h : j < l.length, l[j] ≠ x) : idxOf l x = i := by
  have h : l.findIdx? (· == x) = some i := by
    rw [List.findIdx?_eq_some_iff_getElem]
    exact ⟨hi, by simp [hx], fun j hj => by simpa using hn j hj (by omega)⟩
  unfold idxOf
  rw [h]
theorem idxOf_none {l : List Str} {x : Str} (hn : ∀ j, ∀ h : j < l.length, l[j] ≠ x) : idxOf l x = -1 := by
  have h : l.findIdx? (· == x) = none := by
    rw [List.findIdx?_eq_none_iff]
    intro y hy
    obtain ⟨j, hj, rfl⟩ := List.getElem_of_mem hy
    simpa using hn j hj
  unfold idxOf
  rw [h]

theorem index_any (R : Nat) (l : List Str) (x : Str) (w : World) (v : Value) (hs : Strs w R l v) (_hl : l.length ≤ 1000000000000) :
    Calls Tryz.prog 61 #[v, .string ⟨x.toArray⟩] w (StrPost (.int .i64 (idxOf l x)) w) := by
  obtain ⟨A, cap, rfl, h2, h3, h4⟩ := hs
  unfold maxLen at h3
  have H4 := Lib.hid h4
  clear h4
  go_enter Tryz.func61, Tryz.ntmps61
  go_wp2_with fail
  go_loopw [8] (fun i wr => ∃ k : Nat, k ≤ l.length ∧ i = .int .i64 k ∧ (∀ j, j < k → ∀ h : j < l.length, l[j] ≠ x) ∧ wr = w) (fun i _ => l.length - (intOf i).toNat)
  case atStart => exact ⟨0, Nat.zero_le _, rfl, fun j hj => absurd hj (by omega), rfl⟩
  case round =>
    obtain ⟨k, hk, rfl, hn, rfl⟩ := hrel
    have HN := Lib.hid hn
    clear hn
    by_cases hlt : k < l.length
    · obtain ⟨b, off, hA, hb, -, hc⟩ := H4.out (by intro e; rw [e] at hlt; simp at hlt)
      subst hA
      have hck := hc k l[k] (List.getElem?_eq_getElem hlt)
      clear hc
      by_cases he : l[k] = x
      · have heb : (x == l[k]) = true := by simpa using he.symm
        have HI := Lib.hid (idxOf_some hlt he HN.out)
        clear he
        go_wp2_with fail
        go_ret
        exact ⟨by rw [HI.out]; rfl, Below.refl _ _⟩
      · have heb : (x == l[k]) = false := by simpa using fun h => he h.symm
        have HE := Lib.hid he
        clear he
        go_wp2_with fail
        go_roundw
        case rel => exact ⟨k + 1, by omega, by go_num, fun j hj h => (by
          rcases Nat.lt_or_ge j k with h1 | h1
          · exact HN.out j h1 h
          · obtain rfl : j = k := by omega
            exact HE.out), by first | rfl | trivial⟩
        case measure => simp [intOf]; omega
    · obtain rfl : k = l.length := by omega
      have HI := Lib.hid (idxOf_none fun j h => HN.out j h h)
      go_wp2_with fail
      go_ret
      exact ⟨by rw [HI.out]; rfl, Below.refl _ _⟩

theorem contains_any (R : Nat) (l : List Str) (x : Str) (w : World) (v : Value) (hs : Strs w R l v) (hl : l.length ≤ 1000000000000) :
    Calls Tryz.prog 31 #[v, .string ⟨x.toArray⟩] w (StrPost (.bool (decide (0 ≤ idxOf l x))) w) := by
  have HC := Lib.hid (index_any R l x w v hs hl)
  clear hs
  go_enter Tryz.func31, Tryz.ntmps31
  go_wp2_with fail
  refine HC.out.mono ?_
  rintro e w1 ⟨rfl, hb⟩
  obtain ⟨q, hq⟩ : ∃ q, idxOf l x = q := ⟨_, rfl⟩
  rw [hq]
  have HQ := Lib.hid hq
  clear hq
  go_wp2_with fail
  go_ret
  exact ⟨by rw [HQ.out]; rfl, hb⟩

/-- kinds' words, as the program lays them -/
def W18 : List Str := [[], [85], [112, 105], [102, 110], [], [115, 105, 103], [112, 97, 105, 114], [102, 115, 116], [115, 110, 100], [117, 110, 105, 116], [115, 116, 97, 114], [101, 109, 112, 116, 121], [97, 98, 115, 117, 114, 100], [110, 97, 116], [122, 101, 114, 111], [115, 117, 99], [114, 101, 99], []]

theorem pwords_any (w : World) : Calls Tryz.prog 32 #[] w (fun e w' => e = .returned (.slice (some ⟨w.heap.size, 0, none⟩) W18.length W18.length) ∧ w' = w.alloc (.cells (strc W18).toArray 9)) := by
  go_enter Tryz.func32, Tryz.ntmps32
  go_wp2
  go_ret
  exact ⟨rfl, rfl⟩

theorem pnames_any (k : Int) (w : World) : Calls Tryz.prog 43 #[.int .i64 k] w (fun e w' => ∃ s, e = .returned s ∧ intsAt w' w'.heap.size ((shape k).getD []) s ∧ Below w.heap.size w w') := by
  have HC := Lib.hid (binds_any k w)
  go_enter Tryz.func43, Tryz.ntmps43
  go_wp2_with fail
  refine HC.out.mono ?_
  rintro e w1 ⟨s, rfl, hi, hb⟩
  have HI := Lib.hid hi
  obtain ⟨A, cap, rfl, -⟩ := hi
  clear HC
  go_wp2_with fail
  go_ret
  exact ⟨_, rfl, HI.out, hb⟩

theorem clone_any (R : Nat) (l : List Str) (w : World) (v : Value) (hs : Strs w R l v) (hl : l.length ≤ 1000000000000) :
    Calls Tryz.prog 44 #[v] w (fun e w' => ∃ V, e = .returned V ∧ w'.ownsRow w.heap.size 9 1 V l.length (strc l) ∧ Below w.heap.size w w') := by
  obtain ⟨A, cap, rfl, h2, h3, h4⟩ := id hs
  cases A with
  | none =>
    have hl0 : l = [] := by
      cases l with
      | nil => rfl
      | cons a r => obtain ⟨b, off, e, -⟩ := h4 (by simp); cases e
    subst hl0
    clear h4 hs
    have heq : (binOp BinOp.eql 35 (.slice none (([] : List Str).length) cap) (.slice none 0 0)).run Tryz.prog w = .ok (.bool true) w := by kernel_rfl
    simp only [List.length_nil] at heq ⊢
    go_enter Tryz.func44, Tryz.ntmps44
    go_wp2_with fail
    go_ret
    exact ⟨_, rfl, World.ownsRow_nil _ _ _ _, Below.refl _ _⟩
  | some ad =>
    have HRD := Lib.hid (hs.reads.alloc (Nat.le_refl _) (.cells #[] 9))
    have hm1 : 0 + l.length ≤ maxLen := by unfold maxLen; omega
    have hm2 : (0 + l.length) * 16 ≤ 140737488355328 := by omega
    obtain ⟨i0, hi0, hz0, hz1, hz2⟩ := info_parts Tryz.infoStr
    clear h4 hs
    have heq : (binOp BinOp.eql 35 (.slice (some ad) l.length cap) (.slice none 0 0)).run Tryz.prog w = .ok (.bool false) w := by kernel_rfl
    go_enter Tryz.func44, Tryz.ntmps44
    go_wp2_with (first | (at_builtin; go_loud (refine wpList_append_any _ rfl (.tmp 5) (.tmp 6) 35 rfl w.heap.size 9 i0 (.string ⟨#[]⟩) 1 16 Tryz.underlying35 hi0 hz0 hz1 hz2 rfl (by decide) _ 0 [] rfl (own_empty _ _ (Nat.le_refl _) _) w.heap.size (some ad) l.length cap (strc l) rfl HRD.out (strc_one _) hm1 hm2 (by simp) ?_)))
    intro V wa hown hgr _
    have hba : Below w.heap.size w wa := (((Below.refl w.heap.size w).alloc (Nat.le_refl _) (.cells #[] 9))).grown hgr (by simp) (by intro k hk; simp [Value.ownBlock] at hk; omega)
    have HO := Lib.hid (show wa.ownsRow w.heap.size 9 1 V l.length (strc l) from by simpa using hown)
    clear hown hgr
    obtain ⟨A2, cap2, hV⟩ : ∃ A2 cap2, V = .slice A2 l.length cap2 := by
      rcases HO.out.2 with ⟨h1, h0⟩ | ⟨g, c, cur, h1, -⟩
      · exact ⟨_, _, by rw [h0]; exact h1⟩
      · exact ⟨_, _, h1⟩
    subst hV
    go_wp2_with fail
    go_ret
    exact ⟨_, rfl, HO.out, hba⟩
end Go.Proofs.YtjboibbgigkhkaaGreatDoor

