/- Atom of the document's answer: the term of a word. -/
import Derived.Test.YtjboibbgigkhkaaDoorRW
import Derived.Test.YtjboibbgigkhkaaDoorLook
namespace Go.Proofs.YtjboibbgigkhkaaDoor
open Go.RowKit
set_option maxRecDepth 100000

/-- a slice of texts, apart from the reader's box -/
def Strs (w : World) (R : Nat) (l : List Str) (v : Value) : Prop := ∃ A cap, v = .slice A l.length cap ∧ l.length ≤ cap ∧ cap ≤ maxLen ∧
  (l ≠ [] → ∃ b off, A = some ⟨b, off, none⟩ ∧ b < w.heap.size ∧ b ≠ R ∧ ∀ j s, l[j]? = some s → w.cell? ⟨b, off + j, none⟩ = some (.string ⟨s.toArray⟩))

theorem Strs.but {w w' : World} {R : Nat} {l : List Str} {v : Value} (h : Strs w R l v) (hb : But R w.heap.size w w') : Strs w' R l v := by
  obtain ⟨A, cap, h1, h2, h3, h4⟩ := h
  refine ⟨A, cap, h1, h2, h3, fun hne => ?_⟩
  obtain ⟨b, off, e, hlt, hR, hc⟩ := h4 hne
  exact ⟨b, off, e, Nat.lt_of_lt_of_le hlt hb.size, hR, fun j s hj => (hb.cell (p := ⟨b, _, none⟩) hlt hR).trans (hc j s hj)⟩

theorem RBox.below {w w' : World} {R : Nat} {D : Value} {p : PS} (h : RBox w R D p) (hb : Below w.heap.size w w') : RBox w' R D p := by
  have hl := h.lt
  obtain ⟨s, h1, h2, h3⟩ := h
  exact ⟨s, h1, h2, h3.below hb hl⟩

theorem fromEnd_some {l : List Str} {w : Str} {i : Nat} (hi : i < l.length) (hw : l[i] = w) (hn : ∀ j, i < j → ∀ h : j < l.length, l[j] ≠ w) : fromEnd l w = some (l.length - 1 - i) := by
  unfold fromEnd
  rw [List.findIdx?_eq_some_iff_getElem]
  refine ⟨by simp; omega, ?_, ?_⟩
  · rw [List.getElem_reverse]
    have : l.length - 1 - (l.length - 1 - i) = i := by omega
    simp [this, hw]
  · intro j hj
    rw [List.getElem_reverse]
    simp only [Bool.not_eq_true, beq_eq_false_iff_ne]
    exact hn _ (by omega) (by omega)

theorem fromEnd_none {l : List Str} {w : Str} (hn : ∀ j, ∀ h : j < l.length, l[j] ≠ w) : fromEnd l w = none := by
  unfold fromEnd
  rw [List.findIdx?_eq_none_iff]
  intro x hx
  rw [List.mem_reverse] at hx
  obtain ⟨j, hj, rfl⟩ := List.getElem_of_mem hx
  simpa using hn j hj

/-- a word that begins with U is a type of types, or wrong: what is asked of Atom there -/
def AtomU (cn : Str → Option Int) : Prop := ∀ (w : World) (R : Nat) (D bv : Value) (p : PS) (x : Str) (decls bound : List Str), x.length ≤ 1000000000000 → RBox w R D p → x.head? = some 85 →
  Calls Tryd.prog 75 #[.pointer (some ⟨R, 0, none⟩), .string ⟨x.toArray⟩, bv] w (ReadPost (.agg #[.int .i64 (atom cn decls x bound p).1.k, .int .i64 (atom cn decls x bound p).1.n, .slice none 0 0]) (atom cn decls x bound p).2 R D w)

theorem kindOf_le (s : Str) : kindOf s ≤ 17 := by
  have key : ∀ f k, k + f ≤ 18 → kindFrom s k f ≤ 17 := by
    intro f
    induction f with
    | zero => intro k _; simp [kindFrom]
    | succ f ih =>
      intro k hk
      rw [kindFrom_step]
      split
      · omega
      · exact ih _ (by omega)
  exact key 15 3 (by omega)

theorem shape_some {k : Nat} (h0 : 0 < k) (h : k ≤ 18) : ∃ l, shape k = some l := by
  have : k = 1 ∨ k = 2 ∨ k = 3 ∨ k = 4 ∨ k = 5 ∨ k = 6 ∨ k = 7 ∨ k = 8 ∨ k = 9 ∨ k = 10 ∨ k = 11 ∨ k = 12 ∨ k = 13 ∨ k = 14 ∨ k = 15 ∨ k = 16 ∨ k = 17 ∨ k = 18 := by omega
  rcases this with h | h | h | h | h | h | h | h | h | h | h | h | h | h | h | h | h | h <;> subst h <;> exact ⟨_, rfl⟩

theorem RBox.far {w : World} {R : Nat} {D : Value} {p : PS} (h : RBox w R D p) {a : Addr} (ha : R ≠ a.block) (u : Value) : RBox (w.setCell a u) R D p := by
  obtain ⟨s, h1, h2, h3⟩ := h
  exact ⟨s, h1, h2, h3.far ha u⟩

/-- the answer's box is filled -/
theorem atom_end {w w3 : World} {R : Nat} {D a b c : Value} {p : PS} (hR : RBox w3 R D p) (hb : But R w.heap.size w w3) (hRw : R < w.heap.size) :
    RBox (((w3.setCell ⟨w.heap.size, 0, none⟩ a).setCell ⟨w.heap.size, 1, none⟩ b).setCell ⟨w.heap.size, 2, none⟩ c) R D p ∧
    But R w.heap.size w (((w3.setCell ⟨w.heap.size, 0, none⟩ a).setCell ⟨w.heap.size, 1, none⟩ b).setCell ⟨w.heap.size, 2, none⟩ c) := by
  have hne : R ≠ w.heap.size := by omega
  exact ⟨((hR.far (a := ⟨w.heap.size, 0, none⟩) hne a).far (a := ⟨w.heap.size, 1, none⟩) hne b).far (a := ⟨w.heap.size, 2, none⟩) hne c, ((hb.setCell (Nat.le_refl _) _).setCell (Nat.le_refl _) _).setCell (Nat.le_refl _) _⟩

theorem shapeBytes_some {k : Int} {l : List Nat} (h : shape k = some l) : (shapeBytes k = [] ↔ l = []) := by
  unfold shapeBytes
  rw [h]
  simp

theorem atom_other (cn : Str → Option Int) (w : World) (R : Nat) (D bv : Value) (p : PS) (x : Str) (decls bound : List Str) (hx : x.length ≤ 1000000000000) (hR : RBox w R D p) (hU : x.head? ≠ some 85)
    (hD : Strs w R decls D) (hb : Strs w R bound bv) (hdl : decls.length ≤ 1000000000000) (hbl : bound.length ≤ 1000000000000) :
    Calls Tryd.prog 75 #[.pointer (some ⟨R, 0, none⟩), .string ⟨x.toArray⟩, bv] w (ReadPost (.agg #[.int .i64 (atom cn decls x bound p).1.k, .int .i64 (atom cn decls x bound p).1.n, .slice none 0 0]) (atom cn decls x bound p).2 R D w) := by
  have hat : atom cn decls x bound p = if 0 < kindOf x then (if shape (kindOf x) = some [] then (.mk (kindOf x) 0 [], p) else (T0, p.fail 2))
    else if isName x = false then (T0, p.fail 7)
    else match fromEnd bound x with
      | some i => (.mk 1 i [], p)
      | none => match fromEnd decls x with
        | some i => (.mk 18 ((decls.length : Int) - 1 - i) [], p)
        | none => (T0, p.fail 6) := by
    unfold atom
    rw [if_neg hU]
    rfl
  rw [hat]
  clear hat
  have HP := Lib.hid (And.intro hR (And.intro hD hb))
  obtain ⟨BA, bcap, rfl, -⟩ := id hb
  have hb0 := (Below.refl w.heap.size w).alloc (Nat.le_refl _) (.cells #[.int .i64 0, .int .i64 0, .slice none 0 0] 24)
  have hblk := Blk.new w 24 #[.int .i64 0, .int .i64 0, .slice none 0 0]
  have HU : x = [] ∨ ∃ h : 0 < x.length, x[0] ≠ 85 := by
    cases x with
    | nil => exact .inl rfl
    | cons c r => exact .inr ⟨by simp, fun e => hU (by simpa using e)⟩
  clear hR hD hb hU
  rcases HU with h | ⟨h, hne⟩
  · subst h
    have hv : (if 0 < kindOf [] then (if shape (kindOf []) = some [] then (T.mk (kindOf []) 0 [], p) else (T0, p.fail 2))
      else if isName [] = false then (T0, p.fail 7)
      else match fromEnd bound [] with
        | some i => (T.mk 1 i [], p)
        | none => match fromEnd decls [] with
          | some i => (T.mk 18 ((decls.length : Int) - 1 - i) [], p)
          | none => (T0, p.fail 6)) = (T0, p.fail 7) := rfl
    rw [hv]
    clear hv
    go_enter Tryd.func75, Tryd.ntmps75
    go_wp2_with fail
    refine (kindof_any [] _).mono ?_
    rintro e w1 ⟨rfl, hb1⟩
    rw [show kindOf [] = 0 from rfl]
    have hb2 := hb0.trans (hb1.mono hb0.size)
    have hs1 := hb1.size
    have hB1 := hblk.below hb1 (by simp)
    clear hb1
    go_wp2_with fail
    refine (rname_any [] (by simp) _).mono ?_
    rintro e w2 ⟨rfl, hb3⟩
    rw [show isName [] = false from rfl]
    have hb4 := hb2.trans (hb3.mono hb2.size)
    have hs2 := hb3.size
    have hB2 := hB1.below hb3 hB1.lt
    clear hb3
    have HB4 := Lib.hid hb4
    have HR2 := Lib.hid (HP.out.1.below hb4)
    clear hb2 hb4 hb0 hB1
    go_wp2_with fail
    refine (rfail_any _ R D p 7 HR2.out).mono ?_
    rintro e w3 ⟨rfl, hR3, hb5⟩
    obtain ⟨⟨d0, d1, d2⟩, e0, e1, e2⟩ := (hB2.but hb5 hB2.lt (by have := HP.out.1.lt; omega)).tri
    have HE := Lib.hid (And.intro hR3 ((but_of HB4.out).trans (hb5.mono HB4.out.size)))
    clear hR3 hb5 hB2
    go_wp2_with fail
    refine bodyPost_ret (v := .agg #[.int .i64 0, .int .i64 0, .slice none 0 0]) (by simp [results, Tryd.results75, go_sem, d0, d1, d2]) rfl ⟨rfl, (atom_end HE.out.1 HE.out.2 HP.out.1.lt).1, (atom_end HE.out.1 HE.out.2 HP.out.1.lt).2⟩
  · have hkb : 0 < (⟨x.toArray⟩ : ByteArray).size := h
    have h' : (0 : Int) < (x.length : Int) := by omega
    have hc : ¬ ((((⟨x.toArray⟩ : ByteArray)[0]'hkb).toNat : Nat) : Int) = 85 := by
      intro e
      have e2 : ((x[0].toNat : Nat) : Int) = 85 := e
      exact hne (UInt8.toNat_inj.1 (by have h85 : (85 : UInt8).toNat = 85 := rfl; rw [h85]; omega))
    have hcb : (((((⟨x.toArray⟩ : ByteArray)[0]'hkb).toNat : Nat) : Int) == 85) = false := by rw [beq_eq_false_iff_ne]; exact hc
    clear hne
    generalize hv : (if 0 < kindOf x then (if shape (kindOf x) = some [] then (T.mk (kindOf x) 0 [], p) else (T0, p.fail 2))
      else if isName x = false then (T0, p.fail 7)
      else match fromEnd bound x with
        | some i => (T.mk 1 i [], p)
        | none => match fromEnd decls x with
          | some i => (T.mk 18 ((decls.length : Int) - 1 - i) [], p)
          | none => (T0, p.fail 6)) = v
    have HV := Lib.hid hv
    clear hv
    go_enter Tryd.func75, Tryd.ntmps75
    go_wp2_with fail
    refine (kindof_any x _).mono ?_
    rintro e w1 ⟨rfl, hb1⟩
    have hb2 := hb0.trans (hb1.mono hb0.size)
    have hs1 := hb1.size
    have hB1 := hblk.below hb1 (by simp)
    have hq17 := kindOf_le x
    have HB2 := Lib.hid hb2
    obtain ⟨q, hq⟩ : ∃ q, kindOf x = q := ⟨_, rfl⟩
    rw [hq] at hq17 ⊢
    have hv := HV.out
    rw [hq] at hv
    have HV2 := Lib.hid hv
    clear hb1 hb2 hb0 hv hq HV
    by_cases hq0 : 0 < q
    · have hq0' : (0 : Int) < (q : Int) := by omega
      have hv := HV2.out
      rw [if_pos hq0] at hv
      obtain ⟨l, hl⟩ := shape_some hq0 (by omega)
      have hsb := shapeBytes_some hl
      rw [hl] at hv
      have HV3 := Lib.hid hv
      clear hv HV2 hl
      go_wp2_with fail
      refine (shape_any _ _).mono ?_
      rintro e w2 ⟨rfl, hb3⟩
      unfold shapeText
      generalize shapeBytes (q : Int) = sb at *
      have hb4 := HB2.out.trans (hb3.mono HB2.out.size)
      have hs2 := hb3.size
      have hB2 := hB1.below hb3 hB1.lt
      have HB4 := Lib.hid hb4
      have HR2 := Lib.hid (HP.out.1.below hb4)
      clear hb3 hb4 hB1
      by_cases hsn : sb = []
      · subst hsn
        have hv := HV3.out
        rw [if_pos (by rw [hsb.1 rfl])] at hv
        subst hv
        obtain ⟨⟨d0, d1, d2⟩, e0, e1, e2⟩ := hB2.tri
        clear hB2 HV3 hsb
        go_wp2_with fail
        refine bodyPost_ret (v := .agg #[.int .i64 q, .int .i64 0, .slice none 0 0]) (by simp [results, Tryd.results75, go_sem, d0, d1, d2]) rfl ⟨rfl, (atom_end HR2.out (but_of HB4.out) HP.out.1.lt).1, (atom_end HR2.out (but_of HB4.out) HP.out.1.lt).2⟩
      · have hv := HV3.out
        rw [if_neg (by simpa using fun h => hsn (hsb.2 h))] at hv
        subst hv
        have hne : sb.isEmpty = false := by simpa using hsn
        clear HV3 hsb hsn
        go_wp2_with fail
        refine (rfail_any _ R D p 2 HR2.out).mono ?_
        rintro e w3 ⟨rfl, hR3, hb5⟩
        obtain ⟨⟨d0, d1, d2⟩, e0, e1, e2⟩ := (hB2.but hb5 hB2.lt (by have := HP.out.1.lt; omega)).tri
        have HE := Lib.hid (And.intro hR3 ((but_of HB4.out).trans (hb5.mono HB4.out.size)))
        clear hR3 hb5 hB2
        go_wp2_with fail
        refine bodyPost_ret (v := .agg #[.int .i64 0, .int .i64 0, .slice none 0 0]) (by simp [results, Tryd.results75, go_sem, d0, d1, d2]) rfl ⟨rfl, (atom_end HE.out.1 HE.out.2 HP.out.1.lt).1, (atom_end HE.out.1 HE.out.2 HP.out.1.lt).2⟩
    · have hq0' : ¬ (0 : Int) < (q : Int) := by omega
      have hv := HV2.out
      rw [if_neg hq0] at hv
      have HV3 := Lib.hid hv
      clear hv HV2
      go_wp2_with fail
      refine (rname_any x hx _).mono ?_
      rintro e w2 ⟨rfl, hb3⟩
      have hb4 := HB2.out.trans (hb3.mono HB2.out.size)
      have hs2 := hb3.size
      have hB2 := hB1.below hb3 hB1.lt
      have HB4 := Lib.hid hb4
      have HR2 := Lib.hid (HP.out.1.below hb4)
      clear hb3 hb4 hB1
      cases hnm : isName x with
      | false =>
        have hv := HV3.out
        rw [if_pos hnm] at hv
        subst hv
        clear HV3 hnm
        go_wp2_with fail
        refine (rfail_any _ R D p 7 HR2.out).mono ?_
        rintro e w3 ⟨rfl, hR3, hb5⟩
        obtain ⟨⟨d0, d1, d2⟩, e0, e1, e2⟩ := (hB2.but hb5 hB2.lt (by have := HP.out.1.lt; omega)).tri
        have HE := Lib.hid (And.intro hR3 ((but_of HB4.out).trans (hb5.mono HB4.out.size)))
        clear hR3 hb5 hB2
        go_wp2_with fail
        refine bodyPost_ret (v := .agg #[.int .i64 0, .int .i64 0, .slice none 0 0]) (by simp [results, Tryd.results75, go_sem, d0, d1, d2]) rfl ⟨rfl, (atom_end HE.out.1 HE.out.2 HP.out.1.lt).1, (atom_end HE.out.1 HE.out.2 HP.out.1.lt).2⟩
      | true =>
        have hv := HV3.out
        rw [if_neg (by simp [hnm])] at hv
        have HV4 := Lib.hid hv
        clear hv HV3 hnm
        obtain ⟨DA, dcap, hDv, hd2, hd3, hd4⟩ := HP.out.2.1.but (but_of HB4.out)
        obtain ⟨BA', bcap', hBv, hb2', hb3', hb4'⟩ := HP.out.2.2.but (but_of HB4.out)
        cases hBv
        subst hDv
        have HDC := Lib.hid hd4
        have HBC := Lib.hid hb4'
        obtain ⟨d0, d1, d2⟩ := hB2.tri.1
        obtain ⟨e0, e1, e2⟩ := hB2.tri.2
        have hRW := HP.out.1.lt
        clear hd4 hb4' hblk hs1
        go_wp2_with fail
        go_loopw [10] (fun i wr => ∃ k : Nat, k ≤ bound.length ∧ i = .int .i64 ((k : Int) - 1) ∧ (∀ j, k ≤ j → ∀ h : j < bound.length, bound[j] ≠ x) ∧ wr = w2) (fun i _ => (intOf i + 1).toNat)
        case atStart => exact ⟨bound.length, Nat.le_refl _, rfl, fun j hj h => absurd h (by omega), rfl⟩
        case round =>
          obtain ⟨k, hk, rfl, hn, rfl⟩ := hrel
          have HN := Lib.hid hn
          clear hn
          rcases Nat.eq_zero_or_pos k with hk0 | hk0
          · subst hk0
            have hv := HV4.out
            rw [fromEnd_none (fun j h => HN.out j (Nat.zero_le _) h)] at hv
            have HV5 := Lib.hid hv
            clear hv HV4 HBC HN
            obtain ⟨s0, hs0, hs1, hs2⟩ := HR2.out
            have r1 := hs2.cell 1
            simp only [List.getElem?_toArray] at r1
            clear hs1 hs2
            go_wp2_with fail
            go_loopw [11] (fun i wr2 => ∃ k : Nat, k ≤ decls.length ∧ i = .int .i64 ((k : Int) - 1) ∧ (∀ j, k ≤ j → ∀ h : j < decls.length, decls[j] ≠ x) ∧ wr2 = wr) (fun i _ => (intOf i + 1).toNat)
            case atStart => exact ⟨decls.length, Nat.le_refl _, rfl, fun j hj h => absurd h (by omega), rfl⟩
            case round =>
              obtain ⟨k, hk, rfl, hn, rfl⟩ := hrel
              have HN := Lib.hid hn
              clear hn
              rcases Nat.eq_zero_or_pos k with hk0 | hk0
              · subst hk0
                have hv := HV5.out
                rw [fromEnd_none (fun j h => HN.out j (Nat.zero_le _) h)] at hv
                subst hv
                clear HV5 HDC HN
                go_wp2_with fail
                refine (rfail_any _ R (.slice DA decls.length dcap) p 6 HR2.out).mono ?_
                rintro e w3 ⟨rfl, hR3, hb5⟩
                obtain ⟨⟨d0, d1, d2⟩, e0, e1, e2⟩ := (hB2.but hb5 hB2.lt (by have := HP.out.1.lt; omega)).tri
                have HE := Lib.hid (And.intro hR3 ((but_of HB4.out).trans (hb5.mono HB4.out.size)))
                clear hR3 hb5 hB2
                go_wp2_with fail
                refine bodyPost_ret (v := .agg #[.int .i64 0, .int .i64 0, .slice none 0 0]) (by simp [results, Tryd.results75, go_sem, d0, d1, d2]) rfl ⟨rfl, (atom_end HE.out.1 HE.out.2 HP.out.1.lt).1, (atom_end HE.out.1 HE.out.2 HP.out.1.lt).2⟩
              · obtain ⟨m, rfl⟩ : ∃ m, k = m + 1 := ⟨k - 1, by omega⟩
                have hm : m < decls.length := by omega
                have hm0 : ((m + 1 : Nat) : Int) - 1 = (m : Int) := by omega
                rw [hm0]
                obtain ⟨b, off, hA, hlt, hbR, hc⟩ := HDC.out (by intro e; rw [e] at hm; simp at hm)
                subst hA
                have hcm := hc m decls[m] (List.getElem?_eq_getElem hm)
                clear hc hm0
                by_cases he : decls[m] = x
                · have heb : (decls[m] == x) = true := by simpa using he
                  have hv := HV5.out
                  rw [fromEnd_some hm he (fun j hj h => HN.out j (by omega) h)] at hv
                  subst hv
                  clear HV5 he HN
                  go_wp2_with fail
                  refine bodyPost_ret (v := .agg #[.int .i64 18, .int .i64 m, .slice none 0 0]) (by simp [results, Tryd.results75, go_sem, d0, d1, d2]) rfl ⟨?_, (atom_end HR2.out (but_of HB4.out) HP.out.1.lt).1, (atom_end HR2.out (but_of HB4.out) HP.out.1.lt).2⟩
                  rw [show (T.mk 18 ((decls.length : Int) - 1 - ((decls.length - 1 - m : Nat) : Int)) []).n = (m : Int) from by simp [T.n]; omega]
                  rfl
                · have heb : (decls[m] == x) = false := by simpa using he
                  have HEX := Lib.hid he
                  clear he
                  go_wp2_with fail
                  go_roundw
                  case rel => exact ⟨m, by omega, by go_num, fun j hj h => (by
                    rcases Nat.lt_or_ge m j with h1 | h1
                    · exact HN.out j (by omega) h
                    · obtain rfl : j = m := by omega
                      exact HEX.out), by first | rfl | trivial⟩
                  case measure => simp [intOf]
          · obtain ⟨m, rfl⟩ : ∃ m, k = m + 1 := ⟨k - 1, by omega⟩
            have hm : m < bound.length := by omega
            have hm0 : ((m + 1 : Nat) : Int) - 1 = (m : Int) := by omega
            rw [hm0]
            obtain ⟨b, off, hA, hlt, hbR, hc⟩ := HBC.out (by intro e; rw [e] at hm; simp at hm)
            subst hA
            have hcm := hc m bound[m] (List.getElem?_eq_getElem hm)
            clear hc hm0
            by_cases he : bound[m] = x
            · have heb : (bound[m] == x) = true := by simpa using he
              have hv := HV4.out
              rw [fromEnd_some hm he (fun j hj h => HN.out j (by omega) h)] at hv
              subst hv
              clear HV4 he HN
              go_wp2_with fail
              refine bodyPost_ret (v := .agg #[.int .i64 1, .int .i64 ((bound.length : Int) - 1 - m), .slice none 0 0]) (by simp [results, Tryd.results75, go_sem, d0, d1, d2]) rfl ⟨?_, (atom_end HR2.out (but_of HB4.out) HP.out.1.lt).1, (atom_end HR2.out (but_of HB4.out) HP.out.1.lt).2⟩
              rw [show (T.mk 1 ((bound.length - 1 - m : Nat) : Int) []).n = (bound.length : Int) - 1 - m from by simp [T.n]; omega]
              rfl
            · have heb : (bound[m] == x) = false := by simpa using he
              have HEX := Lib.hid he
              clear he
              go_wp2_with fail
              go_roundw
              case rel => exact ⟨m, by omega, by go_num, fun j hj h => (by
                rcases Nat.lt_or_ge m j with h1 | h1
                · exact HN.out j (by omega) h
                · obtain rfl : j = m := by omega
                  exact HEX.out), by first | rfl | trivial⟩
              case measure => simp [intOf]
end Go.Proofs.YtjboibbgigkhkaaDoor
