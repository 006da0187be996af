/- book.Read: the declaration of a line. -/
import Derived.Test.YtjboibbgigkhkaaGreatDoorYGK
import Derived.Test.YtjboibbgigkhkaaGreatDoorYGE
import Derived.Test.YtjboibbgigkhkaaGreatDoorYGetDecl
import Derived.Test.YtjboibbgigkhkaaGreatDoorYGA
import Derived.Test.YtjboibbgigkhkaaGreatDoorYGF
import Derived.Test.YtjboibbgigkhkaaGreatDoorYPWrong
namespace Go.Proofs.YtjboibbgigkhkaaGreatDoor
open Go.RowKit
set_option maxRecDepth 100000

/-- strings.Join of words, with blanks -/
theorem joinS_any (R : Nat) (l : List Str) (w : World) (v : Value) (h : Strs w R l v) (hl : l.length ≤ 1000000000) (hlen : (Lib.join l [32]).length ≤ 1000000000000) :
    Calls Tryz.prog 45 #[v, .string ⟨#[32]⟩] w (StrPost (.string ⟨(Lib.join l [32]).toArray⟩) w) := by
  obtain ⟨A, cap, rfl, h2, h3, h4⟩ := h
  by_cases hl0 : l = []
  · subst hl0
    refine (Tryz.strings_Join_none A cap ⟨#[32]⟩ w).mono ?_
    rintro e w' ⟨rfl, rfl⟩
    exact ⟨rfl, Below.refl _ _⟩
  · obtain ⟨b, off, rfl, hlt, -, hc⟩ := h4 hl0
    have hm2 : (l.map fun s => (⟨s.toArray⟩ : ByteArray)).map (·.data.toList) = l := by
      rw [List.map_map]
      exact List.map_id _
    have hj := Tryz.strings_Join b off cap (l.map fun s => (⟨s.toArray⟩ : ByteArray)) ⟨#[32]⟩ w (fun j x hx => by
      rw [List.getElem?_map] at hx
      cases hu : l[j]? with
      | none => rw [hu] at hx; cases hx
      | some s =>
        rw [hu] at hx
        simp only [Option.map_some, Option.some.injEq] at hx
        subst hx
        exact hc j s hu) hlt (by rw [List.length_map]; omega) (by rw [List.length_map]; exact h2) (by rw [hm2, show (⟨#[32]⟩ : ByteArray).data.toList = [32] from rfl]; omega)
    rw [hm2, show (⟨#[32]⟩ : ByteArray).data.toList = [32] from rfl, List.length_map] at hj
    exact hj

theorem blk_set1 {w : World} {g : Nat} {t : TypeId} {n a1 a2 a3 b1 b2 b3 x y z : Value} (h : Blk w g t #[n, a1, a2, a3, b1, b2, b3]) : Blk (((w.setCell ⟨g, 1, none⟩ x).setCell ⟨g, 2, none⟩ y).setCell ⟨g, 3, none⟩ z) g t #[n, x, y, z, b1, b2, b3] := by
  have := ((h.set_ 1 x).set_ 2 y).set_ 3 z
  simpa using this
theorem blk_set2 {w : World} {g : Nat} {t : TypeId} {n a1 a2 a3 b1 b2 b3 x y z : Value} (h : Blk w g t #[n, a1, a2, a3, b1, b2, b3]) : Blk (((w.setCell ⟨g, 4, none⟩ x).setCell ⟨g, 5, none⟩ y).setCell ⟨g, 6, none⟩ z) g t #[n, a1, a2, a3, x, y, z] := by
  have := ((h.set_ 4 x).set_ 5 y).set_ 6 z
  simpa using this

/-- behind book.Read -/
def LinePost (d : ND) (w : World) (e : Ending) (w' : World) : Prop := ∃ s s', e = .returned (.tuple #[.agg #[.string ⟨d.1.toArray⟩, .int .i64 d.2.1.k, .int .i64 d.2.1.n, s, .int .i64 d.2.2.k, .int .i64 d.2.2.n, s'], .int .i64 0]) ∧ argsInS w' (newFrom w w') d.2.1 s ∧ argsInS w' (newFrom w w') d.2.2 s' ∧ Below w.heap.size w w'

/-- what the loop has at hand: two rows of words, names, the declaration's box -/
structure ReadF (g r : Nat) (va vb D : Value) (a b names : List Str) (nm : Str) (T1 T2 : T) (s1 s2 : Value) (w w1 : World) : Prop where
  row : Blk w1 r 35 #[va, vb]
  ne : r ≠ g
  res : Blk w1 w.heap.size 50 #[.string ⟨#[]⟩, .int .i64 0, .int .i64 0, .slice none 0 0, .int .i64 0, .int .i64 0, .slice none 0 0]
  ga : Strs w1 g a va
  gb : Strs w1 g b vb
  gn : Strs w1 g names D
  box : Blk w1 g 50 #[.string ⟨nm.toArray⟩, .int .i64 T1.k, .int .i64 T1.n, s1, .int .i64 T2.k, .int .i64 T2.n, s2]
  t1 : argsInS w1 (behind g w1) T1 s1
  t2 : argsInS w1 (behind g w1) T2 s2
  low : Below w.heap.size w w1
  lt : w.heap.size < g
theorem ReadF.more {g r : Nat} {va vb D : Value} {a b names : List Str} {nm : Str} {T1 T2 : T} {s1 s2 : Value} {w w1 w2 : World} (h : ReadF g r va vb D a b names nm T1 T2 s1 s2 w w1) (hb : Below w1.heap.size w1 w2) : ReadF g r va vb D a b names nm T1 T2 s1 s2 w w2 :=
  ⟨h.row.more hb, h.ne, h.res.more hb, h.ga.but (but_of hb), h.gb.but (but_of hb), h.gn.but (but_of hb), h.box.more hb, h.t1.keep (fun _ hb' => ⟨hb'.1, Nat.lt_of_lt_of_le hb'.2 hb.size⟩) (fun _ hp => hb.cell hp.2), h.t2.keep (fun _ hb' => ⟨hb'.1, Nat.lt_of_lt_of_le hb'.2 hb.size⟩) (fun _ hp => hb.cell hp.2), below_step h.low hb, h.lt⟩
theorem ReadF.set {g r : Nat} {va vb D : Value} {a b names : List Str} {nm : Str} {T1 T2 U1 U2 : T} {s1 s2 u1 u2 : Value} {w w1 : World} (h : ReadF g r va vb D a b names nm T1 T2 s1 s2 w w1) (i j k : Nat) (x y z : Value)
    (hbox : Blk (((w1.setCell ⟨g, i, none⟩ x).setCell ⟨g, j, none⟩ y).setCell ⟨g, k, none⟩ z) g 50 #[.string ⟨nm.toArray⟩, .int .i64 U1.k, .int .i64 U1.n, u1, .int .i64 U2.k, .int .i64 U2.n, u2])
    (h1 : argsInS w1 (behind g w1) U1 u1) (h2 : argsInS w1 (behind g w1) U2 u2) : ReadF g r va vb D a b names nm U1 U2 u1 u2 w (((w1.setCell ⟨g, i, none⟩ x).setCell ⟨g, j, none⟩ y).setCell ⟨g, k, none⟩ z) := by
  have hsz : ∀ (v : World) (a : Addr) (u : Value), (v.setCell a u).heap.size = v.heap.size := fun v a u => by simp [World.setCell]
  have hS : ∀ q, behind g w1 q → behind g (((w1.setCell ⟨g, i, none⟩ x).setCell ⟨g, j, none⟩ y).setCell ⟨g, k, none⟩ z) q := fun q hq => ⟨hq.1, by rw [hsz, hsz, hsz]; exact hq.2⟩
  have hc : ∀ p : Addr, behind g w1 p.block → (((w1.setCell ⟨g, i, none⟩ x).setCell ⟨g, j, none⟩ y).setCell ⟨g, k, none⟩ z).cell? p = w1.cell? p := fun p hp => by
    have hne : p.block ≠ g := by have := hp.1; omega
    refine World.cell?_of_block ?_
    rw [Below.heap_setCell _ _ _ _ hne, Below.heap_setCell _ _ _ _ hne, Below.heap_setCell _ _ _ _ hne]
  have hne : w.heap.size ≠ g := by have := h.lt; omega
  exact ⟨((h.row.far h.ne _).far h.ne _).far h.ne _, h.ne, ((h.res.far hne _).far hne _).far hne _, ((h.ga.setR _ _).setR _ _).setR _ _, ((h.gb.setR _ _).setR _ _).setR _ _, ((h.gn.setR _ _).setR _ _).setR _ _, hbox, h1.keep hS hc, h2.keep hS hc,
    ((h.low.setCell (Nat.le_of_lt h.lt) _).setCell (Nat.le_of_lt h.lt) _).setCell (Nat.le_of_lt h.lt) _, h.lt⟩

theorem readP_some {names : List Str} {s : Str} {d : ND} (h : readP names s = some d) : s.length ≤ 1500 ∧ ∃ (l : List Str) (a b : List Str), words s = l ∧ 3 < l.length ∧ l[0]? = some [40] ∧ l[1]? = some [100, 101, 102] ∧ l[2]? = some d.1 ∧ l[l.length - 1]? = some [41] ∧ isName d.1 = true ∧
    (∃ x, cutP ((l.take (l.length - 1)).drop 3) 0 = (a, x) ∧ cutP x 0 = (b, [])) ∧ parse canon names (Lib.join a [32]) [] = (d.2.1, 0) ∧ parse canon names (Lib.join b [32]) [] = (d.2.2, 0) := by
  unfold readP at h
  by_cases hs : 1500 < s.length
  · rw [if_pos hs] at h; cases h
  · rw [if_neg hs] at h
    refine ⟨by omega, ?_⟩
    match hw : words s, h with
    | o :: df :: nm :: rest, h =>
      simp only at h
      split at h
      · cases h
      · rename_i hc
        simp only [not_or] at hc
        obtain ⟨h1, h2, h3, h4⟩ := hc
        split at h
        · cases h
        · rename_i hb
          split at h
          · cases h
          · rename_i he
            simp only [not_or] at he
            cases h
            have h1 : o = [40] := Classical.not_not.1 h1
            have h2 : df = [100, 101, 102] := Classical.not_not.1 h2
            have h3 : rest.getLast? = some [41] := Classical.not_not.1 h3
            have hb : (cutP (cutP rest.dropLast 0).2 0).2 = [] := Classical.not_not.1 hb
            subst h1 h2
            have hr : rest ≠ [] := by intro e; rw [e] at h3; cases h3
            have hrl : 0 < rest.length := List.length_pos_iff.2 hr
            have hd : (((([40] :: [100, 101, 102] :: nm :: rest : List Str)).take (([40] :: [100, 101, 102] :: nm :: rest : List Str).length - 1)).drop 3) = rest.dropLast := by
              rw [show ([40] :: [100, 101, 102] :: nm :: rest : List Str).length - 1 = (rest.length - 1) + 3 by simp; omega]
              simp [List.dropLast_eq_take]
            refine ⟨_, (cutP rest.dropLast 0).1, (cutP (cutP rest.dropLast 0).2 0).1, rfl, by simp; omega, rfl, rfl, rfl, ?_, by simpa using h4, ⟨(cutP rest.dropLast 0).2, by rw [hd], by rw [← hb]⟩, ?_, ?_⟩
            · rw [List.getLast?_eq_getElem?] at h3
              rw [show ([40] :: [100, 101, 102] :: nm :: rest : List Str).length - 1 = (rest.length - 1) + 3 by simp; omega]
              simpa using h3
            · exact Prod.ext rfl (Classical.not_not.1 he.1)
            · exact Prod.ext rfl (Classical.not_not.1 he.2)
end Go.Proofs.YtjboibbgigkhkaaGreatDoor

/- book.Read: the walk. -/
namespace Go.Proofs.YtjboibbgigkhkaaGreatDoor
open Go.RowKit
set_option maxRecDepth 100000

theorem parse_len {names : List Str} {s : Str} {t : T} (h : parse canon names s [] = (t, 0)) : s.length ≤ 1500 := by
  rcases Nat.lt_or_ge 1500 s.length with h1 | h1
  · unfold parse at h; rw [if_pos h1] at h; cases h
  · exact h1

theorem cutP_len : ∀ (l : List Str) (d : Int), (cutP l d).1.length + (cutP l d).2.length = l.length := by
  intro l
  induction l with
  | nil => intro d; rfl
  | cons w r ih =>
    intro d
    obtain ⟨d', hd⟩ : ∃ d', (if w = [40] then d + 1 else if w = [41] then d - 1 else d) = d' := ⟨_, rfl⟩
    by_cases h : d' ≤ 0
    · rw [cutP_step hd, if_pos h]
      simp only [List.length_cons, List.length_nil]
      omega
    · rw [cutP_step hd, if_neg h]
      have := ih d'
      simp only [List.length_cons]
      omega
theorem Strs.mid {w : World} {R i j : Nat} {l : List Str} {A A' : Option Addr} {cap : Nat} (h : Strs w R l (.slice A l.length cap)) (hij : i ≤ j) (hj : j ≤ l.length) (hA : ∀ b off, A = some ⟨b, off, none⟩ → A' = some ⟨b, off + i, none⟩) :
    Strs w R ((l.take j).drop i) (.slice A' (j - i) (cap - i)) := by
  have h1 := h.pre hj
  have hl : (l.take j).length = j := by simp; omega
  exact Strs.suf (A := A) (cap := cap) (by rw [hl]; exact h1) (by rw [hl]; exact hij) (by rw [hl]) rfl fun _ => hA
theorem Strs.form {w : World} {R : Nat} {l : List Str} {v : Value} (h : Strs w R l v) : ∃ A cap, v = .slice A l.length cap := by
  obtain ⟨A, cap, e, -⟩ := h
  exact ⟨A, cap, e⟩

theorem set7_size {W : World} {g : Nat} {a0 a1 a2 a3 a4 a5 a6 : Value} : (((((((W.setCell ⟨g, 0, none⟩ a0).setCell ⟨g, 1, none⟩ a1).setCell ⟨g, 2, none⟩ a2).setCell ⟨g, 3, none⟩ a3).setCell ⟨g, 4, none⟩ a4).setCell ⟨g, 5, none⟩ a5).setCell ⟨g, 6, none⟩ a6).heap.size = W.heap.size := by simp [World.setCell]
theorem cell_set7 {W : World} {g : Nat} {a0 a1 a2 a3 a4 a5 a6 : Value} {p : Addr} (h : p.block ≠ g) : (((((((W.setCell ⟨g, 0, none⟩ a0).setCell ⟨g, 1, none⟩ a1).setCell ⟨g, 2, none⟩ a2).setCell ⟨g, 3, none⟩ a3).setCell ⟨g, 4, none⟩ a4).setCell ⟨g, 5, none⟩ a5).setCell ⟨g, 6, none⟩ a6).cell? p = W.cell? p := by
  refine World.cell?_of_block ?_
  rw [Below.heap_setCell _ _ _ _ h, Below.heap_setCell _ _ _ _ h, Below.heap_setCell _ _ _ _ h, Below.heap_setCell _ _ _ _ h, Below.heap_setCell _ _ _ _ h, Below.heap_setCell _ _ _ _ h, Below.heap_setCell _ _ _ _ h]
theorem Strs.lt {w : World} {R : Nat} {l : List Str} {v : Value} (h : Strs w R l v) : Strs w w.heap.size l v := by
  obtain ⟨A, cap, h1, h2, h3, h4⟩ := h
  exact ⟨A, cap, h1, h2, h3, fun hne => by
    obtain ⟨b, off, e, hlt, -, hc⟩ := h4 hne
    exact ⟨b, off, e, hlt, by omega, hc⟩⟩
theorem Strs.any' {w : World} {R : Nat} {l : List Str} {v : Value} (h : Strs w R l v) : Strs w w.heap.size l v := h.lt
theorem Strs.any2 {w : World} {R R' : Nat} {l : List Str} {v : Value} (h : Strs w R l v) (hR : w.heap.size ≤ R') : Strs w R' l v := h.lt.any hR
theorem strs_nil (w : World) (R : Nat) : Strs w R [] (.slice none 0 0) := ⟨none, 0, rfl, Nat.le_refl _, by unfold maxLen; omega, fun h => absurd rfl h⟩

set_option maxHeartbeats 3200000 in
theorem read_any (ds : List ND) (s : Str) (d : ND) (hr : readP (ds.map Prod.fst) s = some d) (hdl : ds.length ≤ 1000) (w : World) (D : Value) (hV : Vars w) (hD : DeclsAt w ds D) :
    Calls Tryz.prog 51 #[D, .string ⟨s.toArray⟩] w (LinePost d w) := by
  obtain ⟨DA, dcap, rfl⟩ := hD.form
  obtain ⟨hs, l, a, b, hwl, hl3, x0, x1, x2, x3, hnm, ⟨x, hca, hcb⟩, hpa, hpb⟩ := readP_some hr
  have hs' : ¬ (1500 : Int) < (s.length : Int) := by omega
  have hll : l.length ≤ 1000000 := by
    have := words_count s
    rw [hwl] at this
    omega
  have hba := below_alloc' (Below.refl w.heap.size w) (.cells #[.string ⟨#[]⟩, .int .i64 0, .int .i64 0, .slice none 0 0, .int .i64 0, .int .i64 0, .slice none 0 0] 50)
  have HVW := Lib.hid hV
  have HR := Lib.hid (Blk.new w 50 #[.string ⟨#[]⟩, .int .i64 0, .int .i64 0, .slice none 0 0, .int .i64 0, .int .i64 0, .slice none 0 0])
  have HF := Lib.hid (And.intro (hD.keep hba) (And.intro (hV.below hba) hba))
  have HP := Lib.hid (And.intro hwl (And.intro hca (And.intro hcb (And.intro hpa (And.intro hpb hnm)))))
  clear hD hV hba hwl hca hcb hpa hpb hnm hr
  go_enter Tryz.func51, Tryz.ntmps51
  go_wp2_with fail
  generalize w.alloc (.cells #[.string ⟨#[]⟩, .int .i64 0, .int .i64 0, .slice none 0 0, .int .i64 0, .int .i64 0, .slice none 0 0] 50) = w1 at *
  refine (pwordsof_any s (by omega) w1).mono ?_
  rintro e w2 ⟨V, rfl, hown, hb2⟩
  rw [HP.out.1] at hown
  obtain ⟨A, cap, rfl⟩ := ownF hown
  have hS := Strs.own (R := w.heap.size) hown HR.out.lt
  have HL2 := Lib.hid hb2
  have HS := Lib.hid hS
  have HB := Lib.hid (And.intro (below_step HF.out.2.2 hb2) (And.intro (HF.out.1.keep hb2) (HF.out.2.1.below hb2)))
  have HN := Lib.hid (show ((l.take (l.length - 1)).drop 3).length = l.length - 1 - 3 by simp)
  obtain ⟨vb, vo, hA, -, -, hc⟩ : ∃ vb vo, A = some ⟨vb, vo, none⟩ ∧ vb < w2.heap.size ∧ vb ≠ w.heap.size ∧ ∀ j s, l[j]? = some s → w2.cell? ⟨vb, vo + j, none⟩ = some (.string ⟨s.toArray⟩) := by
    obtain ⟨A', cap', e, -, -, h4⟩ := hS
    cases e
    exact h4 (by intro e; rw [e] at hl3; simp at hl3)
  subst hA
  obtain ⟨-, hcap, hcm⟩ : True ∧ l.length ≤ cap ∧ cap ≤ maxLen := by
    obtain ⟨A', cap', e, h2, h3, -⟩ := hS
    cases e
    exact ⟨trivial, h2, h3⟩
  unfold maxLen at hcm
  have c0 := hc 0 _ x0
  have c1 := hc 1 _ x1
  have c2 := hc 2 _ x2
  have c3 := hc _ _ x3
  have HX2 := Lib.hid x2
  rw [Nat.add_zero] at c0
  have e1 : (l.length : Int) - 1 = ((l.length - 1 : Nat) : Int) := by omega
  obtain ⟨j, hj⟩ : ∃ j, l.length - 1 = j := ⟨_, rfl⟩
  have hjl : j < l.length := by omega
  have hj3 : 3 ≤ j := by omega
  have HJ := Lib.hid hj
  rw [hj] at e1 c3
  have hjI : (j : Int) < (l.length : Int) := by omega
  have hl3' : ¬ (l.length : Int) < 3 := by omega
  clear hc hS hown hb2 x0 x1 x2 x3 hj
  go_wp2_with fail
  have hdn : d.1.length ≤ 1000000 := by
    have := words_len s d.1 (by rw [HP.out.1]; exact List.mem_of_getElem? HX2.out)
    omega
  refine (show Calls Tryz.prog 13 #[.string ⟨d.1.toArray⟩] w2 (StrPost (.bool true) w2) from by rw [← HP.out.2.2.2.2.2]; exact pnm_any d.1 (by omega) w2).mono ?_
  rintro e w3 ⟨rfl, hb3⟩
  have HL23 := Lib.hid hb3
  have HB3 := Lib.hid (And.intro (below_step HB.out.1 hb3) (And.intro (HB.out.2.1.keep hb3) (HB.out.2.2.below hb3)))
  have HS3 := Lib.hid (HS.out.but (but_of hb3))
  have c2 := cell_keep hb3 c2
  clear hb3 c0 c1 c3
  have h3c : ¬ cap = 3 := by omega
  have hcj : j ≤ cap := by omega
  go_wp2_with fail
  have HM := Lib.hid (show Strs w3 w.heap.size ((l.take j).drop 3) (.slice (some ⟨vb, vo + 3, none⟩) (j - 3) (cap - 3)) from HS3.out.mid hj3 (by omega) fun b off e => by cases e; rfl)
  have HCA := Lib.hid (show cutP ((l.take j).drop 3) 0 = (a, x) from by rw [← HJ.out]; exact HP.out.2.1)
  have HML := Lib.hid (show ((l.take j).drop 3).length ≤ 1000000 by simp; omega)
  refine (show Calls Tryz.prog 84 _ w3 (CutPost w.heap.size (a, x) w3) from by rw [← HCA.out]; exact cut_any w.heap.size _ w3 _ HM.out (by have := HML.out; omega)).mono ?_
  rintro e w4 ⟨v1, v2, rfl, hs1, hs2, hb4⟩
  obtain ⟨A1, cap1, rfl⟩ := hs1.form
  obtain ⟨A2, cap2, rfl⟩ := hs2.form
  have HL34 := Lib.hid hb4
  have HB4 := Lib.hid (And.intro (below_step HB3.out.1 hb4) (And.intro (HB3.out.2.1.keep hb4) (HB3.out.2.2.below hb4)))
  have HS4 := Lib.hid (And.intro hs1 hs2)
  have c2 := cell_keep hb4 c2
  clear hb4 hs1 hs2
  have HXL := Lib.hid (show x.length ≤ 1000000 ∧ a.length ≤ 1000000 from by
    have h1 := cutP_len ((l.take j).drop 3) 0
    rw [HCA.out] at h1
    have := HML.out
    simp only at h1
    exact ⟨by omega, by omega⟩)
  go_wp2_with fail
  refine (show Calls Tryz.prog 84 _ w4 (CutPost w.heap.size (b, []) w4) from by rw [← HP.out.2.2.1]; exact cut_any w.heap.size x w4 _ HS4.out.2 (by have := HXL.out; omega)).mono ?_
  rintro e w5 ⟨v3, v4, rfl, hs3, hs4, hb5⟩
  obtain ⟨A3, cap3, rfl⟩ := hs3.form
  obtain ⟨A4, cap4, rfl⟩ := hs4.form
  simp only [List.length_nil]
  have HL25 := Lib.hid (below_step (below_step HL23.out HL34.out) hb5)
  have HB5 := Lib.hid (And.intro (below_step HB4.out.1 hb5) (And.intro (HB4.out.2.1.keep hb5) (HB4.out.2.2.below hb5)))
  have HS5 := Lib.hid (And.intro (HS4.out.1.but (but_of hb5)) hs3)
  have c2 := cell_keep hb5 c2
  have HBL := Lib.hid (show b.length ≤ 1000000 from by
    have h1 := cutP_len x 0
    rw [HP.out.2.2.1] at h1
    have := HXL.out
    simp only [List.length_nil] at h1
    omega)
  clear hb5 hs3 hs4
  go_wp2_with fail
  have HB6 := Lib.hid (below_alloc' (Below.refl w5.heap.size w5) (.cells #[.string ⟨d.1.toArray⟩, .int .i64 0, .int .i64 0, .slice none 0 0, .int .i64 0, .int .i64 0, .slice none 0 0] 50))
  have HG := Lib.hid (Blk.new w5 50 #[.string ⟨d.1.toArray⟩, .int .i64 0, .int .i64 0, .slice none 0 0, .int .i64 0, .int .i64 0, .slice none 0 0])
  clear c2
  generalize w5.alloc (.cells #[.string ⟨d.1.toArray⟩, .int .i64 0, .int .i64 0, .slice none 0 0, .int .i64 0, .int .i64 0, .slice none 0 0] 50) = w6 at *
  refine (dnames_any ds w6 _ (HB5.out.2.1.keep HB6.out) (by omega)).mono ?_
  rintro e w7 ⟨V7, rfl, hown7, hb7⟩
  have hS7 := Strs.own (R := w5.heap.size) hown7 HG.out.lt
  rw [List.length_map] at hown7
  obtain ⟨A7, cap7, rfl⟩ := ownF hown7
  have hb8 := below_alloc' hb7 (.cells #[.slice A1 a.length cap1, .slice A3 b.length cap3] 35)
  have hlt1 : w.heap.size < w1.heap.size := HR.out.lt
  have hlt2 : w.heap.size < w5.heap.size := by
    have h1 := HL2.out.size
    have h2 := HB5.out.1.size
    have h3 : w2.heap.size ≤ w5.heap.size := HL25.out.size
    omega
  have HRF8 := Lib.hid (show ReadF w5.heap.size w7.heap.size (.slice A1 a.length cap1) (.slice A3 b.length cap3) (.slice A7 ds.length cap7) a b (ds.map Prod.fst) d.1 (.mk 0 0 []) (.mk 0 0 []) (.slice none 0 0) (.slice none 0 0) w (w7.alloc (.cells #[.slice A1 a.length cap1, .slice A3 b.length cap3] 35)) from
    ⟨Blk.new w7 _ _, by have := HG.out.lt; have := hb7.size; omega, ((HR.out.more (below_step HL2.out HL25.out)).more HB6.out).more hb8, ((HS5.out.1.any2 (Nat.le_refl _)).but (but_of HB6.out)).but (but_of hb8), ((HS5.out.2.any2 (Nat.le_refl _)).but (but_of HB6.out)).but (but_of hb8), hS7.but (but_of (below_alloc' (Below.refl w7.heap.size w7) _)), HG.out.more hb8, args_none _ _ _ _, args_none _ _ _ _, below_step (below_step HB5.out.1 HB6.out) hb8, hlt2⟩)
  clear hown7 hS7 hb7 hb8
  go_wp2_with fail
  generalize w7.alloc (.cells #[.slice A1 a.length cap1, .slice A3 b.length cap3] 35) = w8 at *
  go_loopw [82] (fun iv wr => ∃ (k : Nat) (T1 T2 : T) (s1 s2 : Value), k ≤ 2 ∧ iv = .int .i64 k ∧ ReadF w5.heap.size w7.heap.size (.slice A1 a.length cap1) (.slice A3 b.length cap3) (.slice A7 ds.length cap7) a b (ds.map Prod.fst) d.1 T1 T2 s1 s2 w wr ∧ Hid (1 ≤ k → T1 = d.2.1) ∧ Hid (2 ≤ k → T2 = d.2.2)) (fun iv _ => 2 - (intOf iv).toNat)
  case atStart => exact ⟨0, _, _, _, _, by omega, rfl, HRF8.out, Lib.hid (fun h => absurd h (by omega)), Lib.hid (fun h => absurd h (by omega))⟩
  case round =>
    obtain ⟨k, T1, T2, s1, s2, hk, rfl, hrf, HT1, HT2⟩ := hrel
    have HRF := Lib.hid hrf
    obtain ⟨AT1, cT1, rfl, -⟩ := argsInS_iff.1 hrf.t1
    obtain ⟨AT2, cT2, rfl, -⟩ := argsInS_iff.1 hrf.t2
    clear hrf
    by_cases hlt : k < 2
    · have hk01 : k = 0 ∨ k = 1 := by omega
      rcases hk01 with rfl | rfl
      · obtain ⟨⟨r0, r1⟩, -⟩ := HRF.out.row.two
        have HJL := Lib.hid (parse_len HP.out.2.2.2.1)
        go_wp2_with fail
        refine (joinS_any w5.heap.size a wr _ HRF.out.ga (by have := HXL.out.2; omega) (by have := HJL.out; omega)).mono ?_
        rintro e w9 ⟨rfl, hb9⟩
        have HR9 := Lib.hid (HRF.out.more hb9)
        clear hb9
        go_wp2_with fail
        refine (show Calls Tryz.prog 18 _ w9 (ParsePost (d.2.1, 0) w9) from by rw [← HP.out.2.2.2.1]; exact pparse_any (ds.map Prod.fst) [] (Lib.join a [32]) w9 _ _ (HVW.out.below HR9.out.low) (by have := HJL.out; omega) (HR9.out.gn.any' ) (strs_nil _ _) (by simp; omega) (by simp)).mono ?_
        rintro e w10 ⟨s10, rfl, ht, hb10⟩
        have ht : argsInS w10 (orNew nowhere w9 w10) d.2.1 s10 := ht
        obtain ⟨A10, cap10, rfl, -⟩ := argsInS_iff.1 ht
        have hba := below_alloc' hb10 (.cells #[.int .i64 d.2.1.k, .int .i64 d.2.1.n, .slice A10 d.2.1.al.length cap10] 30)
        have HR11 := Lib.hid (HR9.out.more hba)
        have hgl : w5.heap.size < w9.heap.size := HR9.out.box.lt
        have HT := Lib.hid (ht.keep (w' := w10.alloc (.cells #[.int .i64 d.2.1.k, .int .i64 d.2.1.n, .slice A10 d.2.1.al.length cap10] 30)) (S' := behind w5.heap.size (w10.alloc (.cells #[.int .i64 d.2.1.k, .int .i64 d.2.1.n, .slice A10 d.2.1.al.length cap10] 30))) (fun q hq => by
          rcases hq with hq | hq
          · exact hq.elim
          · exact ⟨Nat.lt_of_lt_of_le hgl hq.1, by have := hq.2; simp; omega⟩) fun p hp => World.cell?_alloc_lt _ _ _ (by
          rcases hp with hp | hp
          · exact hp.elim
          · exact hp.2))
        obtain ⟨⟨k0, k1, k2⟩, -⟩ := (Blk.new w10 30 #[.int .i64 d.2.1.k, .int .i64 d.2.1.n, .slice A10 d.2.1.al.length cap10]).tri
        obtain ⟨⟨g0, g1, g2, g3, g4, g5, g6⟩, f0, f1, f2, f3, f4, f5, f6⟩ := HR11.out.box.seven
        have h0b : ((0 : Int) != 0) = false := by decide
        clear ht hb10 hba r0 r1
        go_wp2_with fail
        go_roundw
        case rel => exact ⟨1, _, _, _, _, by omega, by go_num, ReadF.set HR11.out 1 2 3 _ _ _ (blk_set1 HR11.out.box) HT.out HR11.out.t2, Lib.hid (fun _ => rfl), Lib.hid (fun h => absurd h (by omega))⟩
        case measure => simp [intOf]
      · obtain ⟨⟨r0, r1⟩, -⟩ := HRF.out.row.two
        have HJL := Lib.hid (parse_len HP.out.2.2.2.2.1)
        go_wp2_with fail
        refine (joinS_any w5.heap.size b wr _ HRF.out.gb (by have := HBL.out; omega) (by have := HJL.out; omega)).mono ?_
        rintro e w9 ⟨rfl, hb9⟩
        have HR9 := Lib.hid (HRF.out.more hb9)
        clear hb9
        go_wp2_with fail
        refine (show Calls Tryz.prog 18 _ w9 (ParsePost (d.2.2, 0) w9) from by rw [← HP.out.2.2.2.2.1]; exact pparse_any (ds.map Prod.fst) [] (Lib.join b [32]) w9 _ _ (HVW.out.below HR9.out.low) (by have := HJL.out; omega) (HR9.out.gn.any' ) (strs_nil _ _) (by simp; omega) (by simp)).mono ?_
        rintro e w10 ⟨s10, rfl, ht, hb10⟩
        have ht : argsInS w10 (orNew nowhere w9 w10) d.2.2 s10 := ht
        obtain ⟨A10, cap10, rfl, -⟩ := argsInS_iff.1 ht
        have hba := below_alloc' hb10 (.cells #[.int .i64 d.2.2.k, .int .i64 d.2.2.n, .slice A10 d.2.2.al.length cap10] 30)
        have HR11 := Lib.hid (HR9.out.more hba)
        have hgl : w5.heap.size < w9.heap.size := HR9.out.box.lt
        have HT := Lib.hid (ht.keep (w' := w10.alloc (.cells #[.int .i64 d.2.2.k, .int .i64 d.2.2.n, .slice A10 d.2.2.al.length cap10] 30)) (S' := behind w5.heap.size (w10.alloc (.cells #[.int .i64 d.2.2.k, .int .i64 d.2.2.n, .slice A10 d.2.2.al.length cap10] 30))) (fun q hq => by
          rcases hq with hq | hq
          · exact hq.elim
          · exact ⟨Nat.lt_of_lt_of_le hgl hq.1, by have := hq.2; simp; omega⟩) fun p hp => World.cell?_alloc_lt _ _ _ (by
          rcases hp with hp | hp
          · exact hp.elim
          · exact hp.2))
        obtain ⟨⟨k0, k1, k2⟩, -⟩ := (Blk.new w10 30 #[.int .i64 d.2.2.k, .int .i64 d.2.2.n, .slice A10 d.2.2.al.length cap10]).tri
        obtain ⟨⟨g0, g1, g2, g3, g4, g5, g6⟩, f0, f1, f2, f3, f4, f5, f6⟩ := HR11.out.box.seven
        have h0b : ((0 : Int) != 0) = false := by decide
        clear ht hb10 hba r0 r1
        go_wp2_with fail
        go_roundw
        case rel => exact ⟨2, _, _, _, _, by omega, by go_num, ReadF.set HR11.out 4 5 6 _ _ _ (blk_set2 HR11.out.box) HR11.out.t1 HT.out, Lib.hid (fun _ => HT1.out (by omega)), Lib.hid (fun _ => rfl)⟩
        case measure => simp [intOf]
    · obtain rfl : k = 2 := by omega
      have e1 := HT1.out (by omega)
      have e2 := HT2.out (by omega)
      subst e1 e2
      obtain ⟨⟨g0, g1, g2, g3, g4, g5, g6⟩, -⟩ := HRF.out.box.seven
      obtain ⟨⟨q0, q1, q2, q3, q4, q5, q6⟩, f0, f1, f2, f3, f4, f5, f6⟩ := HRF.out.res.seven
      go_wp2_with fail
      have hwg := HRF.out.lt
      have hbf := HRF.out.low
      have hS : ∀ q, behind w5.heap.size wr q → newFrom w (((((((wr.setCell ⟨w.heap.size, 0, none⟩ (.string ⟨d.1.toArray⟩)).setCell ⟨w.heap.size, 1, none⟩ (.int .i64 d.2.1.k)).setCell ⟨w.heap.size, 2, none⟩ (.int .i64 d.2.1.n)).setCell ⟨w.heap.size, 3, none⟩ (.slice AT1 d.2.1.al.length cT1)).setCell ⟨w.heap.size, 4, none⟩ (.int .i64 d.2.2.k)).setCell ⟨w.heap.size, 5, none⟩ (.int .i64 d.2.2.n)).setCell ⟨w.heap.size, 6, none⟩ (.slice AT2 d.2.2.al.length cT2)) q := fun q hq => ⟨by have := hq.1; omega, by rw [set7_size]; exact hq.2⟩
      have hc : ∀ p : Addr, behind w5.heap.size wr p.block → (((((((wr.setCell ⟨w.heap.size, 0, none⟩ (.string ⟨d.1.toArray⟩)).setCell ⟨w.heap.size, 1, none⟩ (.int .i64 d.2.1.k)).setCell ⟨w.heap.size, 2, none⟩ (.int .i64 d.2.1.n)).setCell ⟨w.heap.size, 3, none⟩ (.slice AT1 d.2.1.al.length cT1)).setCell ⟨w.heap.size, 4, none⟩ (.int .i64 d.2.2.k)).setCell ⟨w.heap.size, 5, none⟩ (.int .i64 d.2.2.n)).setCell ⟨w.heap.size, 6, none⟩ (.slice AT2 d.2.2.al.length cT2)).cell? p = wr.cell? p := fun p hp => cell_set7 (by have := hp.1; omega)
      refine bodyPost_ret (v := .tuple #[.agg #[.string ⟨d.1.toArray⟩, .int .i64 d.2.1.k, .int .i64 d.2.1.n, .slice AT1 d.2.1.al.length cT1, .int .i64 d.2.2.k, .int .i64 d.2.2.n, .slice AT2 d.2.2.al.length cT2], .int .i64 0]) (by simp [results, Tryz.results51, go_sem, q0, q1, q2, q3, q4, q5, q6]) rfl
        ⟨_, _, rfl, argsInS.keep HRF.out.t1 hS hc, argsInS.keep HRF.out.t2 hS hc, ?_⟩
      exact ((((((hbf.setCell (Nat.le_refl _) _).setCell (Nat.le_refl _) _).setCell (Nat.le_refl _) _).setCell (Nat.le_refl _) _).setCell (Nat.le_refl _) _).setCell (Nat.le_refl _) _).setCell (Nat.le_refl _) _
end Go.Proofs.YtjboibbgigkhkaaGreatDoor

/- decl.Add: one more declaration, where its type is one. -/
namespace Go.Proofs.YtjboibbgigkhkaaGreatDoor
open Go.RowKit
set_option maxRecDepth 100000

/-- what decl.Add has at hand -/
structure AddF (ds : List ND) (d : ND) (D s s' : Value) (w w1 : World) : Prop where
  box : Blk w1 w.heap.size 23 #[D]
  dec : Blk w1 (w.heap.size + 1) 50 #[.string ⟨d.1.toArray⟩, .int .i64 d.2.1.k, .int .i64 d.2.1.n, s, .int .i64 d.2.2.k, .int .i64 d.2.2.n, s']
  ver : Blk w1 (w.heap.size + 2) 58 #[.int .i64 0, .int .i64 0]
  dsAt : DeclsAt w1 ds D
  ty : argsIn w1 w1.heap.size d.2.1 s
  bd : argsIn w1 w1.heap.size d.2.2 s'
  low : Below w.heap.size w w1
theorem AddF.more {ds : List ND} {d : ND} {D s s' : Value} {w w1 w2 : World} (h : AddF ds d D s s' w w1) (hb : Below w1.heap.size w1 w2) : AddF ds d D s s' w w2 :=
  ⟨h.box.more hb, h.dec.more hb, h.ver.more hb, h.dsAt.keep hb, h.ty.keep hb.size hb, h.bd.keep hb.size hb, below_step h.low hb⟩
theorem addf_new {ds : List ND} {d : ND} {D s s' : Value} {w : World} (hD : DeclsAt w ds D) (hs : argsIn w w.heap.size d.2.1 s) (hs' : argsIn w w.heap.size d.2.2 s') :
    AddF ds d D s s' w (((w.alloc (.cells #[D] 23)).alloc (.cells #[.string ⟨d.1.toArray⟩, .int .i64 d.2.1.k, .int .i64 d.2.1.n, s, .int .i64 d.2.2.k, .int .i64 d.2.2.n, s'] 50)).alloc (.cells #[.int .i64 0, .int .i64 0] 58)) := by
  have hb := below_alloc' (below_alloc' (below_alloc' (Below.refl w.heap.size w) (.cells #[D] 23)) (.cells #[.string ⟨d.1.toArray⟩, .int .i64 d.2.1.k, .int .i64 d.2.1.n, s, .int .i64 d.2.2.k, .int .i64 d.2.2.n, s'] 50)) (.cells #[.int .i64 0, .int .i64 0] 58)
  exact ⟨((Blk.new w _ _).alloc _).alloc _, (Blk.new' (by simp)).alloc _, Blk.new' (by simp), hD.keep hb, hs.keep hb.size hb, hs'.keep hb.size hb, hb⟩

theorem cell_set2 {W : World} {g : Nat} {a b : Value} {p : Addr} (h : p.block ≠ g) : ((W.setCell ⟨g, 0, none⟩ a).setCell ⟨g, 1, none⟩ b).cell? p = W.cell? p := by
  refine World.cell?_of_block ?_
  rw [Below.heap_setCell _ _ _ _ h, Below.heap_setCell _ _ _ _ h]
theorem reads_row {w : World} {g : Nat} {t : TypeId} {d : ND} {s s' : Value} (h : Blk w g t #[.string ⟨d.1.toArray⟩, .int .i64 d.2.1.k, .int .i64 d.2.1.n, s, .int .i64 d.2.2.k, .int .i64 d.2.2.n, s']) : Reads w w.heap.size 7 (some ⟨g, 0, none⟩) 1 (dcell d s s') :=
  ⟨rfl, fun _ => ⟨_, rfl, h.lt, fun j u hu => by
    rw [Go.WideShapes.add_plain]
    have := h.cell (0 + j)
    rw [this]
    simpa [dcell] using hu⟩⟩
theorem dcell_one (d : ND) (s s' : Value) (h : s.oneCell' = true) (h' : s'.oneCell' = true) : ∀ u ∈ dcell d s s', u.oneCell' = true := by
  intro u hu
  simp [dcell] at hu
  rcases hu with rfl | rfl | rfl | rfl | rfl | rfl | rfl <;> first | rfl | assumption

/-- behind decl.Add: the row -/
def AddRaw (n : Nat) (cs : List Value) (err part : Int) (w : World) (e : Ending) (w' : World) : Prop := ∃ V, e = .returned (.tuple #[V, .agg #[.int .i64 err, .int .i64 part]]) ∧ w'.ownsRow w.heap.size 50 7 V n cs ∧ Below w.heap.size w w'
def AddRawQ (n : Nat) (cs cd : List Value) (q : Bool) (w : World) (e : Ending) (w' : World) : Prop := AddRaw (if q then n + 1 else n) (if q then cs ++ cd else cs) (if q then 0 else 10) (if q then 0 else 2) w e w'
/-- behind decl.Add -/
def AddPost (ds : List ND) (d : ND) (q : Bool) (w : World) (e : Ending) (w' : World) : Prop := DVPost (if q then ds ++ [d] else ds) (if q then 0 else 10) (if q then 0 else 2) w e w'

set_option maxHeartbeats 3200000 in
theorem add_raw (ds : List ND) (hI : InferC ds 400) (d : ND) (q : Bool) (hd : addable ds d = true) (hn : d.1.length ≤ 1000000) (hq : checkTop' (ds.map Prod.snd) 400 d.2.2 d.2.1 = some q) (w : World) (DA : Option Addr) (dcap : Nat) (cs : List Value) (s s' : Value) (hD : DeclsAt w ds (.slice DA ds.length dcap)) (hcs : DCells w ds cs) (hrd : Reads w w.heap.size 7 DA ds.length cs) (hs : argsIn w w.heap.size d.2.1 s) (hs' : argsIn w w.heap.size d.2.2 s') :
    Calls Tryz.prog 52 #[.slice DA ds.length dcap, .agg #[.string ⟨d.1.toArray⟩, .int .i64 d.2.1.k, .int .i64 d.2.1.n, s, .int .i64 d.2.2.k, .int .i64 d.2.2.n, s']] w (AddRawQ ds.length cs (dcell d s s') q w) := by
  obtain ⟨SA, scap, rfl, -⟩ := argsIn_iff.1 hs
  obtain ⟨SB, scb, rfl, -⟩ := argsIn_iff.1 hs'
  unfold addable at hd
  simp only [Bool.and_eq_true, decide_eq_true_eq, beq_iff_eq] at hd
  obtain ⟨⟨⟨⟨⟨hnm, hix⟩, hlen⟩, hw1⟩, hw2⟩, hso⟩ := hd
  obtain ⟨so, hso⟩ := Option.isSome_iff_exists.1 hso
  have HCS := Lib.hid (And.intro hcs (And.intro hrd (And.intro hs hs')))
  have HF0 := Lib.hid (addf_new hD hs hs')
  have HNM := Lib.hid (show ∀ w' : World, Calls Tryz.prog 13 #[.string ⟨d.1.toArray⟩] w' (StrPost (.bool true) w') from fun w' => by rw [← hnm]; exact pnm_any d.1 (by omega) w')
  have HCO := Lib.hid (show ∀ (w' : World) (V : Value) (base : Nat), 0 < base → w'.ownsRow base 9 1 V ds.length (strc (ds.map Prod.fst)) → Calls Tryz.prog 31 #[V, .string ⟨d.1.toArray⟩] w' (StrPost (.bool false) w') from
    fun w' V base hb h => by rw [← show decide (0 ≤ idxOf (ds.map Prod.fst) d.1) = false by simpa using hix]; exact contains_any 0 (ds.map Prod.fst) d.1 w' V (Strs.own (by simpa using h) hb) (by simp; omega))
  have HH := Lib.hid (And.intro hw1 (And.intro hw2 (And.intro hso (And.intro hq hI))))
  have hlenI : (ds.length : Int) < 12 := by omega
  have HLEN := Lib.hid hlen
  clear hD hs hs' hnm hix hw1 hw2 hso hq hI hlen hcs hrd
  have HL1 := Lib.hid trivial
  have HL2 := Lib.hid trivial
  have HL3 := Lib.hid trivial
  have HL4 := Lib.hid trivial
  have HL5 := Lib.hid trivial
  go_enter Tryz.func52, Tryz.ntmps52
  go_wp2_with fail
  generalize ((w.alloc (.cells #[.slice DA ds.length dcap] 23)).alloc (.cells #[.string ⟨d.1.toArray⟩, .int .i64 d.2.1.k, .int .i64 d.2.1.n, .slice SA d.2.1.al.length scap, .int .i64 d.2.2.k, .int .i64 d.2.2.n, .slice SB d.2.2.al.length scb] 50)).alloc (.cells #[.int .i64 0, .int .i64 0] 58) = w1 at *
  have HNS := Lib.hid (fun (w' : World) (hb : Below w1.heap.size w1 w') => dnames_any ds w' _ (HF0.out.dsAt.keep hb) (by have := HLEN.out; omega))
  have l0 := HF0.out.box.cell 0
  obtain ⟨⟨d0, d1, d2, d3, d4, d5, d6⟩, -⟩ := HF0.out.dec.seven
  simp only [List.getElem?_toArray, List.getElem?_cons_zero] at l0
  have hnot : (!true) = false := rfl
  have HK1 := Lib.hid (And.intro l0 d0)
  have HPOS := Lib.hid (show 0 < w1.heap.size from Nat.lt_of_le_of_lt (Nat.zero_le _) HF0.out.box.lt)
  go_region_held3 (fun w' => w'.cell? ⟨w.heap.size, 0, none⟩ = some (.slice DA ds.length dcap) ∧ w'.cell? ⟨w.heap.size + 1, 0, none⟩ = some (.string ⟨d.1.toArray⟩)) (go_keep)
    (first
      | ((with_reducible refine (HNM.out _).mono ?_); rintro e2 w2 ⟨rfl, hb2⟩; (have HL1 := Lib.hid hb2); (have hbw : Below w1.heap.size w1 w2 := by (repeat (first | with_reducible exact Below.refl _ _ | with_reducible refine below_alloc' ?_ _ | with_reducible refine below_step ?_ HL1.out | with_reducible refine below_step ?_ HL2.out | with_reducible refine below_step ?_ HL3.out | with_reducible refine below_step ?_ HL4.out | with_reducible refine below_step ?_ HL5.out | with_reducible refine below_drew ?_))); (have zHK10_0 := cell_keep hbw HK1.out.1); (have zHK10_1 := cell_keep hbw HK1.out.2); clear hb2 hbw)
      | ((with_reducible refine (HNS.out _ (by (repeat (first | with_reducible exact Below.refl _ _ | with_reducible refine below_alloc' ?_ _ | with_reducible refine below_step ?_ HL1.out | with_reducible refine below_step ?_ HL2.out | with_reducible refine below_step ?_ HL3.out | with_reducible refine below_step ?_ HL4.out | with_reducible refine below_step ?_ HL5.out | with_reducible refine below_drew ?_)))).mono ?_); rintro e3 w3 ⟨V, rfl, hown, hb3⟩; (rw [List.length_map] at hown); (obtain ⟨AV, cV, hV⟩ := ownf hown); subst hV; (have HL2 := Lib.hid hb3); (have hbw : Below w1.heap.size w1 w3 := by (repeat (first | with_reducible exact Below.refl _ _ | with_reducible refine below_alloc' ?_ _ | with_reducible refine below_step ?_ HL1.out | with_reducible refine below_step ?_ HL2.out | with_reducible refine below_step ?_ HL3.out | with_reducible refine below_step ?_ HL4.out | with_reducible refine below_step ?_ HL5.out | with_reducible refine below_drew ?_))); (have HO3 := Lib.hid hown); (have zHK11_0 := cell_keep hbw HK1.out.1); (have zHK11_1 := cell_keep hbw HK1.out.2); clear hown hb3 hbw)
      | ((with_reducible refine (HCO.out _ _ _ (Nat.lt_of_lt_of_le HPOS.out (Below.size (by (repeat (first | with_reducible exact Below.refl _ _ | with_reducible refine below_alloc' ?_ _ | with_reducible refine below_step ?_ HL1.out | with_reducible refine below_step ?_ HL2.out | with_reducible refine below_step ?_ HL3.out | with_reducible refine below_step ?_ HL4.out | with_reducible refine below_step ?_ HL5.out | with_reducible refine below_drew ?_))))) (own_keep HO3.out (by (repeat (first | with_reducible exact Below.refl _ _ | with_reducible refine below_alloc' ?_ _ | with_reducible refine below_step ?_ HL1.out | with_reducible refine below_step ?_ HL2.out | with_reducible refine below_step ?_ HL3.out | with_reducible refine below_step ?_ HL4.out | with_reducible refine below_step ?_ HL5.out | with_reducible refine below_drew ?_))))).mono ?_); rintro e4 w4 ⟨rfl, hb4⟩; (have HL3 := Lib.hid hb4); (have hbw : Below w1.heap.size w1 w4 := by (repeat (first | with_reducible exact Below.refl _ _ | with_reducible refine below_alloc' ?_ _ | with_reducible refine below_step ?_ HL1.out | with_reducible refine below_step ?_ HL2.out | with_reducible refine below_step ?_ HL3.out | with_reducible refine below_step ?_ HL4.out | with_reducible refine below_step ?_ HL5.out | with_reducible refine below_drew ?_))); (have HBW4 := Lib.hid hbw); (have zHK12_0 := cell_keep hbw HK1.out.1); (have zHK12_1 := cell_keep hbw HK1.out.2); clear hb4 hbw)
      | fail)
  have HF4 := Lib.hid (HF0.out.more HBW4.out)
  clear l0 d0 d1 d2 d3 d4 d5 d6 zHK10_0 zHK10_1 zHK11_0 zHK11_1 zHK12_0 zHK12_1 HL1 HL2 HL3 HO3 hnot HNS HK1
  have l0 := HF4.out.box.cell 0
  obtain ⟨⟨d0, d1, d2, d3, d4, d5, d6⟩, -⟩ := HF4.out.dec.seven
  simp only [List.getElem?_toArray, List.getElem?_cons_zero] at l0
  go_wp2_with fail
  have HR := Lib.hid (Blk.new w4 30 #[.int .i64 d.2.1.k, .int .i64 d.2.1.n, .slice SA d.2.1.al.length scap, .int .i64 d.2.2.k, .int .i64 d.2.2.n, .slice SB d.2.2.al.length scb])
  have HF5 := Lib.hid (HF4.out.more (below_alloc' (Below.refl w4.heap.size w4) (.cells #[.int .i64 d.2.1.k, .int .i64 d.2.1.n, .slice SA d.2.1.al.length scap, .int .i64 d.2.2.k, .int .i64 d.2.2.n, .slice SB d.2.2.al.length scb] 30)))
  clear l0 d0 d1 d2 d3 d4 d5 d6
  generalize w4.alloc (.cells #[.int .i64 d.2.1.k, .int .i64 d.2.1.n, .slice SA d.2.1.al.length scap, .int .i64 d.2.2.k, .int .i64 d.2.2.n, .slice SB d.2.2.al.length scb] 30) = w5 at *
  go_loopw [42] (fun iv wr => ∃ k : Nat, k ≤ 2 ∧ iv = .int .i64 k ∧ Below w5.heap.size w5 wr) (fun iv _ => 2 - (intOf iv).toNat)
  case atStart => exact ⟨0, by omega, rfl, Below.refl _ _⟩
  case round =>
    obtain ⟨k, hk, rfl, hb⟩ := hrel
    have HFR := Lib.hid (HF5.out.more hb)
    have hRr := HR.out.more hb
    obtain ⟨r0, r1, r2, r3, r4, r5⟩ : wr.cell? ⟨w4.heap.size, 0, none⟩ = some (.int .i64 d.2.1.k) ∧ wr.cell? ⟨w4.heap.size, 1, none⟩ = some (.int .i64 d.2.1.n) ∧ wr.cell? ⟨w4.heap.size, 2, none⟩ = some (.slice SA d.2.1.al.length scap) ∧ wr.cell? ⟨w4.heap.size, 3, none⟩ = some (.int .i64 d.2.2.k) ∧ wr.cell? ⟨w4.heap.size, 4, none⟩ = some (.int .i64 d.2.2.n) ∧ wr.cell? ⟨w4.heap.size, 5, none⟩ = some (.slice SB d.2.2.al.length scb) := ⟨hRr.cell 0, hRr.cell 1, hRr.cell 2, hRr.cell 3, hRr.cell 4, hRr.cell 5⟩
    have HB := Lib.hid hb
    have l0 := HFR.out.box.cell 0
    simp only [List.getElem?_toArray, List.getElem?_cons_zero] at l0
    clear hRr hb
    by_cases hlt : k < 2
    · have hk01 : k = 0 ∨ k = 1 := by omega
      rcases hk01 with rfl | rfl
      · have HFB := Lib.hid (HFR.out.more (below_alloc' (Below.refl wr.heap.size wr) (.cells #[.int .i64 d.2.1.k, .int .i64 d.2.1.n, .slice SA d.2.1.al.length scap] 30)))
        have HBA := Lib.hid (below_alloc' HB.out (.cells #[.int .i64 d.2.1.k, .int .i64 d.2.1.n, .slice SA d.2.1.al.length scap] 30))
        obtain ⟨⟨b0, b1, b2⟩, -⟩ := (Blk.new wr 30 #[.int .i64 d.2.1.k, .int .i64 d.2.1.n, .slice SA d.2.1.al.length scap]).tri
        have l1 := HFB.out.box.cell 0
        simp only [List.getElem?_toArray, List.getElem?_cons_zero] at l1
        go_wp2_with fail
        refine (pwrong_any d.2.1 0 ds.length (by omega) (by omega) _ _ HFB.out.ty (by omega) (by omega)).mono ?_
        rintro e w6 ⟨rfl, hb6⟩
        rw [HH.out.1]
        have HB6 := Lib.hid (below_step HBA.out hb6)
        clear hb6
        go_wp2_with fail
        go_roundw
        case rel => exact ⟨1, by omega, by go_num, HB6.out⟩
        case measure => simp [intOf]
      · have HFB := Lib.hid (HFR.out.more (below_alloc' (Below.refl wr.heap.size wr) (.cells #[.int .i64 d.2.2.k, .int .i64 d.2.2.n, .slice SB d.2.2.al.length scb] 30)))
        have HBA := Lib.hid (below_alloc' HB.out (.cells #[.int .i64 d.2.2.k, .int .i64 d.2.2.n, .slice SB d.2.2.al.length scb] 30))
        obtain ⟨⟨b0, b1, b2⟩, -⟩ := (Blk.new wr 30 #[.int .i64 d.2.2.k, .int .i64 d.2.2.n, .slice SB d.2.2.al.length scb]).tri
        have l1 := HFB.out.box.cell 0
        simp only [List.getElem?_toArray, List.getElem?_cons_zero] at l1
        go_wp2_with fail
        refine (pwrong_any d.2.2 0 ds.length (by omega) (by omega) _ _ HFB.out.bd (by omega) (by omega)).mono ?_
        rintro e w6 ⟨rfl, hb6⟩
        rw [HH.out.2.1]
        have HB6 := Lib.hid (below_step HBA.out hb6)
        clear hb6
        go_wp2_with fail
        go_roundw
        case rel => exact ⟨2, by omega, by go_num, HB6.out⟩
        case measure => simp [intOf]
    · obtain rfl : k = 2 := by omega
      clear r0 r1 r2 r3 r4 r5
      obtain ⟨⟨d0, d1, d2, d3, d4, d5, d6⟩, -⟩ := HFR.out.dec.seven
      go_wp2_with fail
      refine (isort_any ds 400 HH.out.2.2.2.2 d.2.1 so wr _ _ HH.out.2.2.1 (by omega) HFR.out.dsAt HFR.out.ty).mono ?_
      rintro e w7 ⟨rfl, hb7⟩
      have HF7 := Lib.hid (HFR.out.more hb7)
      clear hb7 l0 d0 d1 d2 d3 d4 d5 d6
      have l0 := HF7.out.box.cell 0
      simp only [List.getElem?_toArray, List.getElem?_cons_zero] at l0
      obtain ⟨⟨d0, d1, d2, d3, d4, d5, d6⟩, -⟩ := HF7.out.dec.seven
      go_wp2_with fail
      cases q with
      | false =>
        refine (show Calls Tryz.prog 90 _ w7 (StrPost (.int .i64 10) w7) from icheck_any ds 400 HH.out.2.2.2.2 d.2.2 d.2.1 false w7 _ _ _ HH.out.2.2.2.1 (by omega) HF7.out.dsAt HF7.out.bd HF7.out.ty).mono ?_
        rintro e w8 ⟨rfl, hb8⟩
        have HF8 := Lib.hid (HF7.out.more hb8)
        clear hb8 l0 d0 d1 d2 d3 d4 d5 d6
        have l0 := HF8.out.box.cell 0
        simp only [List.getElem?_toArray, List.getElem?_cons_zero] at l0
        obtain ⟨⟨d0, d1, d2, d3, d4, d5, d6⟩, -⟩ := HF8.out.dec.seven
        have HRD := Lib.hid ((HCS.out.2.1.below HF8.out.low).more HF8.out.low.size)
        go_wp2_with fail
        refine (addno_raw ds.length cs 10 2 _ _ _ w8 HF8.out.box HRD.out HCS.out.1.one (by have := HLEN.out; omega)).mono ?_
        rintro e w9 ⟨V, rfl, hown, hb9⟩
        obtain ⟨A9, cap9, rfl⟩ := ownF hown
        have hbl := HF8.out.ver.more hb9
        have HV9 := Lib.hid (And.intro hown (below_step HF8.out.low hb9))
        obtain ⟨⟨v0, v1⟩, f0, f1⟩ := hbl.two
        clear hown hb9 hbl
        go_wp2_with fail
        have hbf := (HV9.out.2.setCell (p := ⟨w.heap.size + 1 + 1, 0, none⟩) (by show w.heap.size ≤ w.heap.size + 1 + 1; omega) (.int .i64 10)).setCell (p := ⟨w.heap.size + 1 + 1, 1, none⟩) (by show w.heap.size ≤ w.heap.size + 1 + 1; omega) (.int .i64 2)
        have hlt : w.heap.size + 1 + 1 < w8.heap.size := HF8.out.ver.lt
        refine bodyPost_ret (v := .tuple #[.slice A9 ds.length cap9, .agg #[.int .i64 10, .int .i64 2]]) (by simp [results, Tryz.results52, go_sem, v0, v1]) rfl ⟨_, rfl, own_mono (own_set (own_set HV9.out.1 hlt _) hlt _) HF8.out.low.size, hbf⟩
      | true =>
        refine (show Calls Tryz.prog 90 _ w7 (StrPost (.int .i64 0) w7) from icheck_any ds 400 HH.out.2.2.2.2 d.2.2 d.2.1 true w7 _ _ _ HH.out.2.2.2.1 (by omega) HF7.out.dsAt HF7.out.bd HF7.out.ty).mono ?_
        rintro e w8 ⟨rfl, hb8⟩
        have HF8 := Lib.hid (HF7.out.more hb8)
        clear hb8 l0 d0 d1 d2 d3 d4 d5 d6
        have l0 := HF8.out.box.cell 0
        simp only [List.getElem?_toArray, List.getElem?_cons_zero] at l0
        obtain ⟨⟨d0, d1, d2, d3, d4, d5, d6⟩, -⟩ := HF8.out.dec.seven
        have HRD := Lib.hid ((HCS.out.2.1.below HF8.out.low).more HF8.out.low.size)
        go_wp2_with fail
        have HCL := Lib.hid (show ∀ w' : World, Below w8.heap.size w8 w' → Calls Tryz.prog 87 #[.slice DA ds.length dcap] w' (OwnPost 50 7 ds.length w8.heap.size cs w') from
          fun w' hb => (dclone_raw ds.length cs w' DA dcap ((HRD.out.below hb).more hb.size) HCS.out.1.one (by have := HLEN.out; omega)).mono fun e w'' h => by obtain ⟨V, h1, h2, h3⟩ := h; exact ⟨V, h1, own_mono h2 hb.size, h3⟩)
        have HDC := Lib.hid (dcell_one d (.slice SA d.2.1.al.length scap) (.slice SB d.2.2.al.length scb) rfl rfl)
        have HMX := Lib.hid (show ds.length + 1 ≤ maxLen ∧ (ds.length + 1) * 96 ≤ 140737488355328 from by have := HLEN.out; exact ⟨by unfold maxLen; omega, by omega⟩)
        obtain ⟨i0, hi0, hz0, hz1, hz2⟩ := info_parts Tryz.infoDecl
        have HK8 := Lib.hid (And.intro l0 (And.intro d0 (And.intro d1 (And.intro d2 (And.intro d3 (And.intro d4 (And.intro d5 (d6))))))))
        have HK8P := Lib.hid (show ∀ W : World, Below w8.heap.size w8 W → W.cell? ⟨w.heap.size, 0, none⟩ = some (.slice DA ds.length dcap) ∧ W.cell? ⟨w.heap.size + 1, 0, none⟩ = some (.string ⟨d.1.toArray⟩) ∧ W.cell? ⟨w.heap.size + 1, 1, none⟩ = some (.int .i64 d.2.1.k) ∧ W.cell? ⟨w.heap.size + 1, 2, none⟩ = some (.int .i64 d.2.1.n) ∧ W.cell? ⟨w.heap.size + 1, 3, none⟩ = some (.slice SA d.2.1.al.length scap) ∧ W.cell? ⟨w.heap.size + 1, 4, none⟩ = some (.int .i64 d.2.2.k) ∧ W.cell? ⟨w.heap.size + 1, 5, none⟩ = some (.int .i64 d.2.2.n) ∧ W.cell? ⟨w.heap.size + 1, 6, none⟩ = some (.slice SB d.2.2.al.length scb) from fun W hb => And.intro (cell_keep hb HK8.out.1) (And.intro (cell_keep hb HK8.out.2.1) (And.intro (cell_keep hb HK8.out.2.2.1) (And.intro (cell_keep hb HK8.out.2.2.2.1) (And.intro (cell_keep hb HK8.out.2.2.2.2.1) (And.intro (cell_keep hb HK8.out.2.2.2.2.2.1) (And.intro (cell_keep hb HK8.out.2.2.2.2.2.2.1) (cell_keep hb HK8.out.2.2.2.2.2.2.2))))))))
        have HSET := Lib.hid (show ∀ (W : World) (a b : Value), W.cell? ⟨w.heap.size, 0, none⟩ = some (.slice DA ds.length dcap) ∧ W.cell? ⟨w.heap.size + 1, 0, none⟩ = some (.string ⟨d.1.toArray⟩) ∧ W.cell? ⟨w.heap.size + 1, 1, none⟩ = some (.int .i64 d.2.1.k) ∧ W.cell? ⟨w.heap.size + 1, 2, none⟩ = some (.int .i64 d.2.1.n) ∧ W.cell? ⟨w.heap.size + 1, 3, none⟩ = some (.slice SA d.2.1.al.length scap) ∧ W.cell? ⟨w.heap.size + 1, 4, none⟩ = some (.int .i64 d.2.2.k) ∧ W.cell? ⟨w.heap.size + 1, 5, none⟩ = some (.int .i64 d.2.2.n) ∧ W.cell? ⟨w.heap.size + 1, 6, none⟩ = some (.slice SB d.2.2.al.length scb) → ((W.setCell ⟨w.heap.size + 1 + 1, 0, none⟩ a).setCell ⟨w.heap.size + 1 + 1, 1, none⟩ b).cell? ⟨w.heap.size, 0, none⟩ = some (.slice DA ds.length dcap) ∧ ((W.setCell ⟨w.heap.size + 1 + 1, 0, none⟩ a).setCell ⟨w.heap.size + 1 + 1, 1, none⟩ b).cell? ⟨w.heap.size + 1, 0, none⟩ = some (.string ⟨d.1.toArray⟩) ∧ ((W.setCell ⟨w.heap.size + 1 + 1, 0, none⟩ a).setCell ⟨w.heap.size + 1 + 1, 1, none⟩ b).cell? ⟨w.heap.size + 1, 1, none⟩ = some (.int .i64 d.2.1.k) ∧ ((W.setCell ⟨w.heap.size + 1 + 1, 0, none⟩ a).setCell ⟨w.heap.size + 1 + 1, 1, none⟩ b).cell? ⟨w.heap.size + 1, 2, none⟩ = some (.int .i64 d.2.1.n) ∧ ((W.setCell ⟨w.heap.size + 1 + 1, 0, none⟩ a).setCell ⟨w.heap.size + 1 + 1, 1, none⟩ b).cell? ⟨w.heap.size + 1, 3, none⟩ = some (.slice SA d.2.1.al.length scap) ∧ ((W.setCell ⟨w.heap.size + 1 + 1, 0, none⟩ a).setCell ⟨w.heap.size + 1 + 1, 1, none⟩ b).cell? ⟨w.heap.size + 1, 4, none⟩ = some (.int .i64 d.2.2.k) ∧ ((W.setCell ⟨w.heap.size + 1 + 1, 0, none⟩ a).setCell ⟨w.heap.size + 1 + 1, 1, none⟩ b).cell? ⟨w.heap.size + 1, 5, none⟩ = some (.int .i64 d.2.2.n) ∧ ((W.setCell ⟨w.heap.size + 1 + 1, 0, none⟩ a).setCell ⟨w.heap.size + 1 + 1, 1, none⟩ b).cell? ⟨w.heap.size + 1, 6, none⟩ = some (.slice SB d.2.2.al.length scb) from fun W a b ⟨h0, h1, h2, h3, h4, h5, h6, h7⟩ => ⟨(cell_set2 (by first | (simp; done) | (simp; omega))).trans h0, (cell_set2 (by first | (simp; done) | (simp; omega))).trans h1, (cell_set2 (by first | (simp; done) | (simp; omega))).trans h2, (cell_set2 (by first | (simp; done) | (simp; omega))).trans h3, (cell_set2 (by first | (simp; done) | (simp; omega))).trans h4, (cell_set2 (by first | (simp; done) | (simp; omega))).trans h5, (cell_set2 (by first | (simp; done) | (simp; omega))).trans h6, (cell_set2 (by first | (simp; done) | (simp; omega))).trans h7⟩)
        go_region_held3 (fun w' => w'.cell? ⟨w.heap.size, 0, none⟩ = some (.slice DA ds.length dcap) ∧ w'.cell? ⟨w.heap.size + 1, 0, none⟩ = some (.string ⟨d.1.toArray⟩) ∧ w'.cell? ⟨w.heap.size + 1, 1, none⟩ = some (.int .i64 d.2.1.k) ∧ w'.cell? ⟨w.heap.size + 1, 2, none⟩ = some (.int .i64 d.2.1.n) ∧ w'.cell? ⟨w.heap.size + 1, 3, none⟩ = some (.slice SA d.2.1.al.length scap) ∧ w'.cell? ⟨w.heap.size + 1, 4, none⟩ = some (.int .i64 d.2.2.k) ∧ w'.cell? ⟨w.heap.size + 1, 5, none⟩ = some (.int .i64 d.2.2.n) ∧ w'.cell? ⟨w.heap.size + 1, 6, none⟩ = some (.slice SB d.2.2.al.length scb)) (first | (with_reducible refine HSET.out _ _ _ (HK8P.out _ HB10.out)) | (with_reducible refine HK8P.out _ ?_; ((repeat (first | with_reducible exact Below.refl _ _ | with_reducible refine below_alloc' ?_ _ | with_reducible refine below_step ?_ HL1.out | with_reducible refine below_step ?_ HL2.out | with_reducible refine below_step ?_ HL3.out | with_reducible refine below_step ?_ HL4.out | with_reducible refine below_step ?_ HL5.out | with_reducible refine below_drew ?_))); done) | go_keep)
          (first
            | ((with_reducible refine (HCL.out _ (by (repeat (first | with_reducible exact Below.refl _ _ | with_reducible refine below_alloc' ?_ _ | with_reducible refine below_step ?_ HL1.out | with_reducible refine below_step ?_ HL2.out | with_reducible refine below_step ?_ HL3.out | with_reducible refine below_step ?_ HL4.out | with_reducible refine below_step ?_ HL5.out | with_reducible refine below_drew ?_)))).mono ?_); rintro e9 w9 ⟨V9, rfl, hown9, hb9⟩; (obtain ⟨A9, cap9, hV9⟩ := ownF hown9); subst hV9; (have HL1 := Lib.hid hb9); (have hbw : Below w8.heap.size w8 w9 := by (repeat (first | with_reducible exact Below.refl _ _ | with_reducible refine below_alloc' ?_ _ | with_reducible refine below_step ?_ HL1.out | with_reducible refine below_step ?_ HL2.out | with_reducible refine below_step ?_ HL3.out | with_reducible refine below_step ?_ HL4.out | with_reducible refine below_step ?_ HL5.out | with_reducible refine below_drew ?_))); (have HO9 := Lib.hid hown9); (have zHK80_0 := cell_keep hbw HK8.out.1); (have zHK80_1 := cell_keep hbw HK8.out.2.1); (have zHK80_2 := cell_keep hbw HK8.out.2.2.1); (have zHK80_3 := cell_keep hbw HK8.out.2.2.2.1); (have zHK80_4 := cell_keep hbw HK8.out.2.2.2.2.1); (have zHK80_5 := cell_keep hbw HK8.out.2.2.2.2.2.1); (have zHK80_6 := cell_keep hbw HK8.out.2.2.2.2.2.2.1); (have zHK80_7 := cell_keep hbw HK8.out.2.2.2.2.2.2.2); clear hown9 hb9 hbw)
            | ((refine step_append_any _ rfl (.tmp 89) (.tmp 91) 23 rfl w8.heap.size 50 i0 _ 7 96 Tryz.underlying23 hi0 hz0 hz1 hz2 rfl (by decide) (.slice A9 ds.length cap9) ds.length cs rfl (own_keep HO9.out (by (repeat (first | with_reducible exact Below.refl _ _ | with_reducible refine below_alloc' ?_ _ | with_reducible refine below_step ?_ HL1.out | with_reducible refine below_step ?_ HL2.out | with_reducible refine below_step ?_ HL3.out | with_reducible refine below_step ?_ HL4.out | with_reducible refine below_step ?_ HL5.out | with_reducible refine below_drew ?_)))) _ _ 1 _ (dcell d (.slice SA d.2.1.al.length scap) (.slice SB d.2.2.al.length scb)) rfl (by first | exact reads_row (Blk.new _ _ _) | exact reads_row ((Blk.new w8 50 #[.string ⟨d.1.toArray⟩, .int .i64 d.2.1.k, .int .i64 d.2.1.n, .slice SA d.2.1.al.length scap, .int .i64 d.2.2.k, .int .i64 d.2.2.n, .slice SB d.2.2.al.length scb]).more (by (repeat (first | with_reducible exact Below.refl _ _ | with_reducible refine below_alloc' ?_ _ | with_reducible refine below_step ?_ HL1.out | with_reducible refine below_step ?_ HL2.out | with_reducible refine below_step ?_ HL3.out | with_reducible refine below_step ?_ HL4.out | with_reducible refine below_step ?_ HL5.out | with_reducible refine below_drew ?_)))) | exact reads_row ((Blk.new w8.drew 50 #[.string ⟨d.1.toArray⟩, .int .i64 d.2.1.k, .int .i64 d.2.1.n, .slice SA d.2.1.al.length scap, .int .i64 d.2.2.k, .int .i64 d.2.2.n, .slice SB d.2.2.al.length scb]).more (by (repeat (first | with_reducible exact Below.refl _ _ | with_reducible refine below_alloc' ?_ _ | with_reducible refine below_step ?_ HL1.out | with_reducible refine below_step ?_ HL2.out | with_reducible refine below_step ?_ HL3.out | with_reducible refine below_step ?_ HL4.out | with_reducible refine below_step ?_ HL5.out | with_reducible refine below_drew ?_))))) HDC.out HMX.out.1 HMX.out.2 (below_size (by (repeat (first | with_reducible exact Below.refl _ _ | with_reducible refine below_alloc' ?_ _ | with_reducible refine below_step ?_ HL1.out | with_reducible refine below_step ?_ HL2.out | with_reducible refine below_step ?_ HL3.out | with_reducible refine below_step ?_ HL4.out | with_reducible refine below_step ?_ HL5.out | with_reducible refine below_drew ?_)))) ?_); intro V10 w10 hown10 hgr10 _; (obtain ⟨A10, cap10, hV10⟩ := ownF hown10); subst hV10; (have hbw : Below w8.heap.size w8 w10 := below_grown (by (repeat (first | with_reducible exact Below.refl _ _ | with_reducible refine below_alloc' ?_ _ | with_reducible refine below_step ?_ HL1.out | with_reducible refine below_step ?_ HL2.out | with_reducible refine below_step ?_ HL3.out | with_reducible refine below_step ?_ HL4.out | with_reducible refine below_step ?_ HL5.out | with_reducible refine below_drew ?_))) hgr10 (fun k hk => (HO9.out.lt k hk).1)); (have HB10 := Lib.hid hbw); (have HO10 := Lib.hid hown10); (obtain ⟨⟨v0, v1⟩, vf0, vf1⟩ := (HF8.out.ver.more hbw).two); (have zHK81_0 := cell_keep hbw HK8.out.1); (have zHK81_1 := cell_keep hbw HK8.out.2.1); (have zHK81_2 := cell_keep hbw HK8.out.2.2.1); (have zHK81_3 := cell_keep hbw HK8.out.2.2.2.1); (have zHK81_4 := cell_keep hbw HK8.out.2.2.2.2.1); (have zHK81_5 := cell_keep hbw HK8.out.2.2.2.2.2.1); (have zHK81_6 := cell_keep hbw HK8.out.2.2.2.2.2.2.1); (have zHK81_7 := cell_keep hbw HK8.out.2.2.2.2.2.2.2); clear hown10 hgr10 hbw)
            | fail)
        all_goals go_wp2_with fail
        all_goals (
          have hbf := ((below_step HF8.out.low HB10.out).setCell (p := ⟨w.heap.size + 1 + 1, 0, none⟩) (by show w.heap.size ≤ w.heap.size + 1 + 1; omega) (.int .i64 0)).setCell (p := ⟨w.heap.size + 1 + 1, 1, none⟩) (by show w.heap.size ≤ w.heap.size + 1 + 1; omega) (.int .i64 0)
          have hlt : w.heap.size + 1 + 1 < w8.heap.size := HF8.out.ver.lt
          have hown := own_set (own_set HO10.out (p := ⟨w.heap.size + 1 + 1, 0, none⟩) hlt (.int .i64 0)) (p := ⟨w.heap.size + 1 + 1, 1, none⟩) hlt (.int .i64 0)
          refine bodyPost_ret (v := .tuple #[.slice A10 (ds.length + 1) cap10, .agg #[.int .i64 0, .int .i64 0]]) (by simp [results, Tryz.results52, go_sem, v0, v1]) rfl ⟨_, rfl, own_mono hown HF8.out.low.size, hbf⟩)

theorem add_any (ds : List ND) (hI : InferC ds 400) (d : ND) (q : Bool) (hd : addable ds d = true) (hn : d.1.length ≤ 1000000) (hq : checkTop' (ds.map Prod.snd) 400 d.2.2 d.2.1 = some q) (w : World) (D s s' : Value) (hD : DeclsAt w ds D) (hs : argsIn w w.heap.size d.2.1 s) (hs' : argsIn w w.heap.size d.2.2 s') :
    Calls Tryz.prog 52 #[D, .agg #[.string ⟨d.1.toArray⟩, .int .i64 d.2.1.k, .int .i64 d.2.1.n, s, .int .i64 d.2.2.k, .int .i64 d.2.2.n, s']] w (AddPost ds d q w) := by
  obtain ⟨DA, dcap, rfl⟩ := hD.form
  obtain ⟨-, -, -, cs, hcs, hrd⟩ := hD.reads
  refine (add_raw ds hI d q hd hn hq w DA dcap cs s s' hD hcs hrd hs hs').mono ?_
  rintro e w' ⟨V, rfl, hown, hb⟩
  refine ⟨V, rfl, ?_, hb⟩
  cases q with
  | false => exact DeclsAt.of_own (ds := ds) hown (hcs.keep hb)
  | true => exact DeclsAt.of_own (ds := ds ++ [d]) (by simpa using hown) ((hcs.snoc hs hs').keep hb)
end Go.Proofs.YtjboibbgigkhkaaGreatDoor

