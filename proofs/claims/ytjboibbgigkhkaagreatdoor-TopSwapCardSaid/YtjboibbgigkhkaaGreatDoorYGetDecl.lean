import Derived.Test.YtjboibbgigkhkaaGreatDoorYGL
import Derived.Test.YtjboibbgigkhkaaGreatDoorYWDecl
namespace Go.Proofs.YtjboibbgigkhkaaGreatDoor
open Go.RowKit
set_option maxRecDepth 100000

theorem Blk.seven {w : World} {g : Nat} {t : TypeId} {a b c d e f h : Value} (H : Blk w g t #[a, b, c, d, e, f, h]) :
    (w.cell? ⟨g, 0, none⟩ = some a ∧ w.cell? ⟨g, 1, none⟩ = some b ∧ w.cell? ⟨g, 2, none⟩ = some c ∧ w.cell? ⟨g, 3, none⟩ = some d ∧ w.cell? ⟨g, 4, none⟩ = some e ∧ w.cell? ⟨g, 5, none⟩ = some f ∧ w.cell? ⟨g, 6, none⟩ = some h) ∧
    w.frozen? ⟨g, 0, none⟩ = false ∧ w.frozen? ⟨g, 1, none⟩ = false ∧ w.frozen? ⟨g, 2, none⟩ = false ∧ w.frozen? ⟨g, 3, none⟩ = false ∧ w.frozen? ⟨g, 4, none⟩ = false ∧ w.frozen? ⟨g, 5, none⟩ = false ∧ w.frozen? ⟨g, 6, none⟩ = false :=
  ⟨⟨H.cell 0, H.cell 1, H.cell 2, H.cell 3, H.cell 4, H.cell 5, H.cell 6⟩, H.frozen 0, H.frozen 1, H.frozen 2, H.frozen 3, H.frozen 4, H.frozen 5, H.frozen 6⟩

/-- what wire.GetDecl reads -/
def getD (b : List UInt8) : Except Int D := match b with
  | [] => .error 8
  | n :: r => if r.length < n.toNat then .error 8 else match getT 24 (r.drop n.toNat) with
    | .error c => .error c
    | .ok (t, r1) => match getT 24 r1 with
      | .error c => .error c
      | .ok (u, r2) => if r2 = [] then .ok ⟨r.take n.toNat, t, u⟩ else .error 2

def noDecl (c : Int) : Value := .tuple #[.agg #[.string ⟨#[]⟩, .int .i64 0, .int .i64 0, .slice none 0 0, .int .i64 0, .int .i64 0, .slice none 0 0], .int .i64 c]

def GetDPost (r : Except Int D) (w : World) (e : Ending) (w' : World) : Prop := match r with
  | .error c => c ≠ 0 ∧ e = .returned (noDecl c) ∧ Below w.heap.size w w'
  | .ok d => ∃ v, e = .returned (.tuple #[v, .int .i64 0]) ∧ DV w' w'.heap.size d v ∧ Below w.heap.size w w'

def cellsAt (w : World) (b off : Nat) (l : List UInt8) : Prop := ∀ j c, l[j]? = some c → w.cell? ⟨b, off + j, none⟩ = some (.int .u8 (c.toNat : Nat))

theorem cellsAt.keep {w w' : World} {b off B : Nat} {l : List UInt8} (h : cellsAt w b off l) (hB : b < B) (hb : Below B w w') : cellsAt w' b off l :=
  fun j c hj => (hb.cell (p := ⟨b, _, none⟩) hB).trans (h j c hj)

theorem cellsAt.take {w : World} {b off m : Nat} {l : List UInt8} (h : cellsAt w b off l) : cellsAt w b off (l.take m) := fun j c hj => h j c (by
  rw [List.getElem?_take] at hj
  split at hj
  · exact hj
  · cases hj)

theorem cellsAt.drop {w : World} {b off m : Nat} {l : List UInt8} (h : cellsAt w b off l) : cellsAt w b (off + m) (l.drop m) := fun j c hj => by
  rw [List.getElem?_drop] at hj
  rw [Nat.add_assoc]
  exact h _ c hj

theorem cellsAt.bytes {w : World} {b off o B n cap : Nat} {l : List UInt8} (h : cellsAt w b off l) (hB : b < B) (ho : o = off) (hn : n = l.length) (hc : n ≤ cap) (hm : cap ≤ maxLen) : bytesIn w B l (.slice (some ⟨b, o, none⟩) n cap) := by
  subst ho hn
  refine ⟨_, cap, rfl, hc, hm, by simp [u8c], fun _ => ⟨_, rfl, hB, fun j u hj => ?_⟩⟩
  rw [u8c_get] at hj
  cases hl : l[j]? with
  | none => rw [hl] at hj; cases hj
  | some c =>
    rw [hl] at hj
    simp only [Option.map_some, Option.some.injEq] at hj
    subst hj
    rw [Go.WideShapes.add_plain]
    exact h j c hl

theorem bytesIn_empty (w : World) (B : Nat) (A : Option Addr) (n cap : Nat) (hn : n = 0) (hm : cap ≤ maxLen) : bytesIn w B [] (.slice A n cap) := by
  subst hn
  exact ⟨A, cap, rfl, Nat.zero_le _, hm, rfl, fun h => absurd h (Nat.lt_irrefl 0)⟩

theorem conv_any (w : World) (b o off n cap : Nat) (l : List UInt8) (h : cellsAt w b off l) (hn : n = l.length) (ho : l ≠ [] → o = off) :
    (convert 84 9 (.slice (some ⟨b, o, none⟩) n cap)).run Tryz.prog w = .ok (.string ⟨l.toArray⟩) w := by
  subst hn
  refine run_convert_bytes_back (P := Tryz.prog) w 84 9 5 ⟨b, o, none⟩ cap l (by rfl) (by rfl) (by rfl) (fun j hj => ?_)
  rw [ho (by intro e; subst e; simp at hj), Go.WideShapes.add_plain]
  exact h j _ (List.getElem?_eq_getElem hj)

set_option maxHeartbeats 1000000 in
theorem getd_any (l : List UInt8) (w : World) (v : Value) (hv : bytesIn w w.heap.size l v) (hl : l.length ≤ 140737488355328) :
    Calls Tryz.prog 81 #[v] w (GetDPost (getD l) w) := by
  cases l with
  | nil =>
    obtain ⟨A, cap, rfl, h1, h2, h3⟩ := hv
    have hR : getD [] = .error 8 := rfl
    rw [hR]
    clear hR h3
    go_enter Tryz.func81, Tryz.ntmps81
    go_wp2_with fail
    refine bodyPost_ret (v := noDecl 8) (by simp [results, Tryz.results81, go_sem, noDecl]) rfl ⟨by omega, rfl, ?_⟩
    exact (Below.refl w.heap.size w).alloc (Nat.le_refl _) _
  | cons n r =>
    obtain ⟨A, cap, rfl, h1, h2, h3⟩ := hv
    generalize hR : getD (n :: r) = R
    rw [getD] at hR
    have hn : n.toNat < 256 := n.toNat_lt
    have HV := Lib.hid h3
    obtain ⟨⟨b, off, spot⟩, e, hb, hc⟩ := h3.2 (by simp)
    have hsp : spot = none := by simpa [Addr.add] using World.cell?_spot (hc 0 _ (by rw [u8c_get]; rfl))
    subst hsp
    subst e
    have hc0 : w.cell? ⟨b, off, none⟩ = some (.int .u8 (n.toNat : Nat)) := by simpa [Addr.add] using hc 0 _ (by rw [u8c_get]; rfl)
    have hcells : cellsAt w b (off + 1) r := fun j c hj => by
      have := hc (j + 1) (.int .u8 (c.toNat : Nat)) (by rw [u8c_get, List.getElem?_cons_succ, hj]; rfl)
      rw [Go.WideShapes.add_plain] at this
      rw [show off + 1 + j = off + (j + 1) by omega]
      exact this
    clear hc h3
    unfold maxLen at h2
    simp only [List.length_cons] at h1 hl
    have hrl : r.length + 1 ≤ cap := h1
    by_cases hlt : r.length < n.toNat
    · rw [if_pos hlt] at hR
      subst hR
      go_enter Tryz.func81, Tryz.ntmps81
      go_wp2_with fail
      refine bodyPost_ret (v := noDecl 8) (by simp [results, Tryz.results81, go_sem, noDecl]) rfl ⟨by omega, rfl, ?_⟩
      exact (Below.refl w.heap.size w).alloc (Nat.le_refl _) _
    · rw [if_neg hlt] at hR
      have hge : n.toNat ≤ r.length := by omega
      have HC := Lib.hid hcells
      have hba := (Below.refl w.heap.size w).alloc (Nat.le_refl _) (.cells #[.string ⟨#[]⟩, .int .i64 0, .int .i64 0, .slice none 0 0, .int .i64 0, .int .i64 0, .slice none 0 0] 50)
      have hcW := hcells.keep hb hba
      by_cases heq : r.length = n.toNat
      · have hd : r.drop n.toNat = [] := List.drop_eq_nil_of_le (by omega)
        rw [hd] at hR
        have hR' : R = .error 8 := by rw [← hR, getT]
        subst hR'
        clear hR hd
        have hcv1 := conv_any _ b (off + 1) (off + 1) n.toNat (cap - 1) r hcW (by omega) (fun _ => rfl)
        have hcv2 : cap = 1 → _ := fun hc1 => conv_any _ b off (off + 1) n.toNat 0 r hcW (by omega) (fun h => by cases r with | nil => exact absurd rfl h | cons x xs => simp at hrl; omega)
        have HB := Lib.hid hba
        have hcW4 := Lib.hid hcW
        clear hcW hcells hba
        by_cases hc1 : cap = 1
        · have hcv3 := hcv2 hc1
          clear hcv2
          go_enter Tryz.func81, Tryz.ntmps81
          go_wp2_with fail
          have hg : getT 24 [] = .error 8 := by rw [getT]
          have hn0 : n.toNat + 1 - (1 + n.toNat) = 0 := by omega
          refine (get1_any [] _ _ (bytesIn_empty _ _ _ _ _ hn0 (by unfold maxLen; omega)) (by simp)).mono ?_
          rintro e w1 hpost
          rw [hg] at hpost
          obtain ⟨rfl, hbe⟩ := hpost
          have hb1 := (((Below.refl w.heap.size w).alloc (Nat.le_refl _) (.cells #[.string ⟨#[]⟩, .int .i64 0, .int .i64 0, .slice none 0 0, .int .i64 0, .int .i64 0, .slice none 0 0] 50)).alloc (by simp) _).trans (hbe.mono (by simp; omega))
          have hBk := (((Blk.new w 50 #[.string ⟨#[]⟩, .int .i64 0, .int .i64 0, .slice none 0 0, .int .i64 0, .int .i64 0, .slice none 0 0]).alloc _).below hbe (by simp; omega)).alloc (.cells #[.int .i64 0, .int .i64 0, .slice none 0 0] 30)
          obtain ⟨⟨c0, c1, c2, c3, c4, c5, c6⟩, f0, f1, f2, f3, f4, f5, f6⟩ := hBk.seven
          have hb2 := hb1.alloc (by have := hb1.size; omega) (.cells #[.int .i64 0, .int .i64 0, .slice none 0 0] 30)
          have HB2 := Lib.hid hb2
          clear hb1 hBk hb2 hbe
          try unfold noTerm
          go_wp2_with fail
          refine bodyPost_ret (v := noDecl 8) (by simp [results, Tryz.results81, go_sem, noDecl, c0, c1, c2, c3, c4, c5, c6]) rfl ⟨by omega, rfl, ?_⟩
          exact ((((((HB2.out.setCell (Nat.le_refl _) _).setCell (Nat.le_refl _) _).setCell (Nat.le_refl _) _).setCell (Nat.le_refl _) _).setCell (Nat.le_refl _) _).setCell (Nat.le_refl _) _).setCell (Nat.le_refl _) _
        · clear hcv2
          have hcv4 := conv_any _ b (off + 1) (off + 1) n.toNat n.toNat r hcW4.out (by omega) (fun _ => rfl)
          by_cases hc2 : cap = 1 + n.toNat
          · go_enter Tryz.func81, Tryz.ntmps81
            go_wp2_with fail
            have hg : getT 24 [] = .error 8 := by rw [getT]
            have hn0 : n.toNat + 1 - (1 + n.toNat) = 0 := by omega
            refine (get1_any [] _ _ (bytesIn_empty _ _ _ _ _ hn0 (by unfold maxLen; omega)) (by simp)).mono ?_
            rintro e w1 hpost
            rw [hg] at hpost
            obtain ⟨rfl, hbe⟩ := hpost
            have hb1 := (((Below.refl w.heap.size w).alloc (Nat.le_refl _) (.cells #[.string ⟨#[]⟩, .int .i64 0, .int .i64 0, .slice none 0 0, .int .i64 0, .int .i64 0, .slice none 0 0] 50)).alloc (by simp) _).trans (hbe.mono (by simp; omega))
            have hBk := (((Blk.new w 50 #[.string ⟨#[]⟩, .int .i64 0, .int .i64 0, .slice none 0 0, .int .i64 0, .int .i64 0, .slice none 0 0]).alloc _).below hbe (by simp; omega)).alloc (.cells #[.int .i64 0, .int .i64 0, .slice none 0 0] 30)
            obtain ⟨⟨c0, c1, c2, c3, c4, c5, c6⟩, f0, f1, f2, f3, f4, f5, f6⟩ := hBk.seven
            have hb2 := hb1.alloc (by have := hb1.size; omega) (.cells #[.int .i64 0, .int .i64 0, .slice none 0 0] 30)
            have HB2 := Lib.hid hb2
            clear hb1 hBk hb2 hbe
            try unfold noTerm
            go_wp2_with fail
            refine bodyPost_ret (v := noDecl 8) (by simp [results, Tryz.results81, go_sem, noDecl, c0, c1, c2, c3, c4, c5, c6]) rfl ⟨by omega, rfl, ?_⟩
            exact ((((((HB2.out.setCell (Nat.le_refl _) _).setCell (Nat.le_refl _) _).setCell (Nat.le_refl _) _).setCell (Nat.le_refl _) _).setCell (Nat.le_refl _) _).setCell (Nat.le_refl _) _).setCell (Nat.le_refl _) _
          · go_enter Tryz.func81, Tryz.ntmps81
            go_wp2_with fail
            have hg : getT 24 [] = .error 8 := by rw [getT]
            have hn0 : n.toNat + 1 - (1 + n.toNat) = 0 := by omega
            refine (get1_any [] _ _ (bytesIn_empty _ _ _ _ _ hn0 (by unfold maxLen; omega)) (by simp)).mono ?_
            rintro e w1 hpost
            rw [hg] at hpost
            obtain ⟨rfl, hbe⟩ := hpost
            have hb1 := (((Below.refl w.heap.size w).alloc (Nat.le_refl _) (.cells #[.string ⟨#[]⟩, .int .i64 0, .int .i64 0, .slice none 0 0, .int .i64 0, .int .i64 0, .slice none 0 0] 50)).alloc (by simp) _).trans (hbe.mono (by simp; omega))
            have hBk := (((Blk.new w 50 #[.string ⟨#[]⟩, .int .i64 0, .int .i64 0, .slice none 0 0, .int .i64 0, .int .i64 0, .slice none 0 0]).alloc _).below hbe (by simp; omega)).alloc (.cells #[.int .i64 0, .int .i64 0, .slice none 0 0] 30)
            obtain ⟨⟨c0, c1, c2, c3, c4, c5, c6⟩, f0, f1, f2, f3, f4, f5, f6⟩ := hBk.seven
            have hb2 := hb1.alloc (by have := hb1.size; omega) (.cells #[.int .i64 0, .int .i64 0, .slice none 0 0] 30)
            have HB2 := Lib.hid hb2
            clear hb1 hBk hb2 hbe
            try unfold noTerm
            go_wp2_with fail
            refine bodyPost_ret (v := noDecl 8) (by simp [results, Tryz.results81, go_sem, noDecl, c0, c1, c2, c3, c4, c5, c6]) rfl ⟨by omega, rfl, ?_⟩
            exact ((((((HB2.out.setCell (Nat.le_refl _) _).setCell (Nat.le_refl _) _).setCell (Nat.le_refl _) _).setCell (Nat.le_refl _) _).setCell (Nat.le_refl _) _).setCell (Nat.le_refl _) _).setCell (Nat.le_refl _) _
      · have HR := Lib.hid hR
        clear hR
        have hcv := conv_any _ b (off + 1) (off + 1) n.toNat (cap - 1) (r.take n.toNat) hcW.take (by simp; omega) (fun _ => rfl)
        have HB := Lib.hid hba
        have hne1 : ¬ cap = 1 := by omega
        have hne2 : ¬ cap = 1 + n.toNat := by omega
        clear hcW hcells hba
        go_enter Tryz.func81, Tryz.ntmps81
        go_wp2_with fail

        have hcW2 := HC.out.keep hb (HB.out.trans (((Below.refl _ _).alloc (Nat.le_refl _) (.cells #[.string ⟨(r.take n.toNat).toArray⟩, .int .i64 0, .int .i64 0, .slice none 0 0, .int .i64 0, .int .i64 0, .slice none 0 0] 50)).mono (by simp)))
        have hget := get1_any (r.drop n.toNat) _ _ (hcW2.drop.bytes (o := off + (1 + n.toNat)) (n := r.length + 1 - (1 + n.toNat)) (cap := cap - (1 + n.toNat)) (by simp; omega) (by omega) (by simp; omega) (by omega) (by unfold maxLen; omega)) (by simp; omega)
        refine hget.mono ?_
        clear hget
        rintro e w1 hpost
        have herr := getT_err 24 (r.drop n.toNat)
        have hlen := bytes_get 24 (r.drop n.toNat)
        have HR2 := HR.out
        clear HR
        revert HR2 hpost herr hlen
        cases getT 24 (r.drop n.toNat) with
        | error c =>
          intro hpost herr hlen HR2
          clear hlen
          have hRe : R = .error c := HR2.symm
          subst hRe
          clear HR2 hcW2
          obtain ⟨rfl, hbe⟩ := hpost
          have hcz : c ≠ 0 := herr c rfl
          clear herr
          have hcb : (c != 0) = true := by simpa using hcz
          have hb1 := (((Below.refl w.heap.size w).alloc (Nat.le_refl _) (.cells #[.string ⟨#[]⟩, .int .i64 0, .int .i64 0, .slice none 0 0, .int .i64 0, .int .i64 0, .slice none 0 0] 50)).alloc (by simp) _).trans (hbe.mono (by simp; omega))
          have hBk := (((Blk.new w 50 #[.string ⟨#[]⟩, .int .i64 0, .int .i64 0, .slice none 0 0, .int .i64 0, .int .i64 0, .slice none 0 0]).alloc _).below hbe (by simp; omega)).alloc (.cells #[.int .i64 0, .int .i64 0, .slice none 0 0] 30)
          obtain ⟨⟨c0, c1, c2, c3, c4, c5, c6⟩, f0, f1, f2, f3, f4, f5, f6⟩ := hBk.seven
          have hb2 := hb1.alloc (by have := hb1.size; omega) (.cells #[.int .i64 0, .int .i64 0, .slice none 0 0] 30)
          have HB2 := Lib.hid hb2
          clear hb1 hBk hb2 hbe
          try unfold noTerm
          go_wp2_with fail
          refine bodyPost_ret (v := noDecl c) (by simp [results, Tryz.results81, go_sem, noDecl, c0, c1, c2, c3, c4, c5, c6]) rfl ⟨by omega, rfl, ?_⟩
          exact ((((((HB2.out.setCell (Nat.le_refl _) _).setCell (Nat.le_refl _) _).setCell (Nat.le_refl _) _).setCell (Nat.le_refl _) _).setCell (Nat.le_refl _) _).setCell (Nat.le_refl _) _).setCell (Nat.le_refl _) _
        | ok tr =>
          intro hpost herr hlen HR2
          clear herr
          obtain ⟨t, r1⟩ := tr
          have hl1 : r1.length ≤ 140737488355328 := by have h := congrArg List.length (hlen t r1 rfl); rw [List.length_append, List.length_drop] at h; omega
          clear hlen hcW2
          obtain ⟨s, v1, rfl, ht, hr, hbe⟩ := hpost
          have HR3 := Lib.hid (show (match getT 24 r1 with
              | .error c => .error c
              | .ok (u, r2) => if r2 = [] then .ok ⟨r.take n.toNat, t, u⟩ else .error 2) = R from HR2)
          clear HR2
          obtain ⟨A, cp, rfl, -⟩ := argsInS_iff.1 ht
          have hb1 := (((Below.refl w.heap.size w).alloc (Nat.le_refl _) (.cells #[.string ⟨#[]⟩, .int .i64 0, .int .i64 0, .slice none 0 0, .int .i64 0, .int .i64 0, .slice none 0 0] 50)).alloc (by simp) _).trans (hbe.mono (by simp; omega))
          have hBr := ((Blk.new w 50 #[.string ⟨#[]⟩, .int .i64 0, .int .i64 0, .slice none 0 0, .int .i64 0, .int .i64 0, .slice none 0 0]).alloc _).below hbe (by simp; omega)
          have hBd := (Blk.new (w.alloc _) 50 #[.string ⟨(r.take n.toNat).toArray⟩, .int .i64 0, .int .i64 0, .slice none 0 0, .int .i64 0, .int .i64 0, .slice none 0 0]).below hbe (by simp)
          have hsz1 := hbe.size
          simp at hsz1 hBd
          have HT := Lib.hid (ht.keep (S' := fun b => w.heap.size + 2 ≤ b ∧ b < w1.heap.size) (fun b h => ⟨by have h1 := h.1; simp at h1; omega, h.2⟩) (fun _ _ => rfl))
          have hrB := hr.toB (B := w1.heap.size) (fun b h => h.2)
          clear ht hr hbe
          have hBelow1 := Lib.hid hb1
          have hget := get1_any r1 (w1.alloc (.cells #[.int .i64 t.k, .int .i64 t.n, .slice A t.al.length cp] 30)) v1 (hrB.keep (by simp) ((Below.refl _ _).alloc (Nat.le_refl _) _)) hl1
          have HBr := Lib.hid hBr
          have HBd := Lib.hid hBd
          have HG := Lib.hid hget
          clear hget hrB hBr hBd hb1
          go_wp2_with fail
          refine (HG.out).mono ?_
          clear HG
          rintro e w3 hpost
          have herr := getT_err 24 r1
          have HR4 := HR3.out
          clear HR3
          revert HR4 hpost herr
          cases getT 24 r1 with
          | error c =>
            intro hpost herr HR4
            have hRe : R = .error c := HR4.symm
            subst hRe
            clear HR4
            obtain ⟨rfl, hbe⟩ := hpost
            have hcz : c ≠ 0 := herr c rfl
            clear herr
            have hcb : (c != 0) = true := by simpa using hcz
            have hb3 := (hBelow1.out.alloc (by omega) (.cells #[.int .i64 t.k, .int .i64 t.n, .slice A t.al.length cp] 30)).trans (hbe.mono (by simp; omega))
            have hsz3 := hbe.size
            simp at hsz3
            have hBk := ((HBr.out.alloc (.cells #[.int .i64 t.k, .int .i64 t.n, .slice A t.al.length cp] 30)).below hbe (by simp; omega)).alloc (.cells #[.int .i64 0, .int .i64 0, .slice none 0 0] 30)
            obtain ⟨⟨c0, c1, c2, c3, c4, c5, c6⟩, f0, f1, f2, f3, f4, f5, f6⟩ := hBk.seven
            have HB2 := Lib.hid (hb3.alloc (by omega) (.cells #[.int .i64 0, .int .i64 0, .slice none 0 0] 30))
            clear hb3 hBk hbe
            try unfold noTerm
            go_wp2_with fail
            refine bodyPost_ret (v := noDecl c) (by simp [results, Tryz.results81, go_sem, noDecl, c0, c1, c2, c3, c4, c5, c6]) rfl ⟨by omega, rfl, ?_⟩
            exact ((((((HB2.out.setCell (Nat.le_refl _) _).setCell (Nat.le_refl _) _).setCell (Nat.le_refl _) _).setCell (Nat.le_refl _) _).setCell (Nat.le_refl _) _).setCell (Nat.le_refl _) _).setCell (Nat.le_refl _) _
          | ok ur =>
            intro hpost herr HR4
            clear herr
            obtain ⟨u, r2⟩ := ur
            obtain ⟨s2, v2, rfl, hu, hr2, hbe⟩ := hpost
            obtain ⟨A2, cp2, rfl, -⟩ := argsInS_iff.1 hu
            obtain ⟨A3, cp3, rfl, -⟩ := hr2
            by_cases hr2e : r2 = []
            · subst hr2e
              have hRe : R = .ok ⟨r.take n.toNat, t, u⟩ := HR4.symm
              subst hRe
              clear HR4
              simp only [List.length_nil]
              have hsz3 := hbe.size
              simp at hsz3
              have hb3 := (hBelow1.out.alloc (by omega) (.cells #[.int .i64 t.k, .int .i64 t.n, .slice A t.al.length cp] 30)).trans (hbe.mono (by simp; omega))
              have hbt := ((Below.refl w1.heap.size w1).alloc (Nat.le_refl _) (.cells #[.int .i64 t.k, .int .i64 t.n, .slice A t.al.length cp] 30)).trans (hbe.mono (by simp))
              have HT3 := Lib.hid (HT.out.keep (S' := fun b => w.heap.size + 2 ≤ b ∧ b < w3.heap.size) (fun b h => ⟨h.1, by omega⟩) (fun p hp => hbt.cell hp.2))
              have HU3 := Lib.hid (hu.keep (S' := fun b => w.heap.size + 2 ≤ b ∧ b < w3.heap.size) (fun b h => ⟨by have h1 := h.1; simp at h1; omega, h.2⟩) (fun _ _ => rfl))
              have hBr3 := ((HBr.out.alloc (.cells #[.int .i64 t.k, .int .i64 t.n, .slice A t.al.length cp] 30)).below hbe (by simp; omega)).alloc (.cells #[.int .i64 u.k, .int .i64 u.n, .slice A2 u.al.length cp2] 30)
              have hBd3 := ((HBd.out.alloc (.cells #[.int .i64 t.k, .int .i64 t.n, .slice A t.al.length cp] 30)).below hbe (by simp; omega)).alloc (.cells #[.int .i64 u.k, .int .i64 u.n, .slice A2 u.al.length cp2] 30)
              have hBt3 := ((Blk.new w1 30 #[.int .i64 t.k, .int .i64 t.n, .slice A t.al.length cp]).below hbe (by simp)).alloc (.cells #[.int .i64 u.k, .int .i64 u.n, .slice A2 u.al.length cp2] 30)
              obtain ⟨⟨c0, c1, c2, c3, c4, c5, c6⟩, f0, f1, f2, f3, f4, f5, f6⟩ := hBr3.seven
              obtain ⟨⟨d0, d1, d2, d3, d4, d5, d6⟩, g0, g1, g2, g3, g4, g5, g6⟩ := hBd3.seven
              obtain ⟨⟨t0, t1, t2⟩, -, -, -⟩ := hBt3.three
              have HB4 := Lib.hid (hb3.alloc (by omega) (.cells #[.int .i64 u.k, .int .i64 u.n, .slice A2 u.al.length cp2] 30))
              obtain ⟨⟨u0, u1, u2⟩, -, -, -⟩ := (Blk.new w3 30 #[.int .i64 u.k, .int .i64 u.n, .slice A2 u.al.length cp2]).three
              clear hu hbe hb3 hbt hBr3 hBd3 hBt3 HBr HBd HT hBelow1
              go_wp2_with fail
              have hk4 : ∀ p : Addr, p.block < w3.heap.size → (w3.alloc (.cells #[.int .i64 u.k, .int .i64 u.n, .slice A2 u.al.length cp2] 30)).cell? p = w3.cell? p := fun p hp => (((Below.refl w3.heap.size w3).alloc (Nat.le_refl _) _).cell hp)
              have hs4 : (w3.alloc (.cells #[.int .i64 u.k, .int .i64 u.n, .slice A2 u.al.length cp2] 30)).heap.size = w3.heap.size + 1 := by simp
              generalize w3.alloc (.cells #[.int .i64 u.k, .int .i64 u.n, .slice A2 u.al.length cp2] 30) = w4 at *
              have HK4 := Lib.hid hk4
              clear hk4
              go_region
              go_wp2_with fail
              have hsz5 := HB4.out.size
              refine bodyPost_ret (v := .tuple #[.agg #[.string ⟨(r.take n.toNat).toArray⟩, .int .i64 t.k, .int .i64 t.n, .slice A t.al.length cp, .int .i64 u.k, .int .i64 u.n, .slice A2 u.al.length cp2], .int .i64 0]) (by simp [results, Tryz.results81, go_sem, c0, c1, c2, c3, c4, c5, c6]) rfl ⟨_, rfl, ⟨_, _, rfl, HT3.out.keep (fun b h => ?_) (fun p hp => ?_), HU3.out.keep (fun b h => ?_) (fun p hp => ?_)⟩, ?_⟩
              · have h2 := h.2
                simp [World.setCell, World.drew]
                omega
              · rw [← HK4.out p hp.2]
                have e0 : ∀ (W : World) (v : Value) (o : Nat), (W.setCell ⟨w.heap.size, o, none⟩ v).cell? p = W.cell? p := fun W v o => World.cell?_of_block (Below.heap_setCell _ _ _ _ (by have := hp.1; show p.block ≠ w.heap.size; omega))
                have e1 : ∀ (W : World) (v : Value) (o : Nat), (W.setCell ⟨w.heap.size + 1, o, none⟩ v).cell? p = W.cell? p := fun W v o => World.cell?_of_block (Below.heap_setCell _ _ _ _ (by have := hp.1; show p.block ≠ w.heap.size + 1; omega))
                have e2 : ∀ (W : World), (W.drew).cell? p = W.cell? p := fun W => rfl
                rw [e2]
                simp only [e0, e1]
              · have h2 := h.2
                simp [World.setCell, World.drew]
                omega
              · rw [← HK4.out p hp.2]
                have e0 : ∀ (W : World) (v : Value) (o : Nat), (W.setCell ⟨w.heap.size, o, none⟩ v).cell? p = W.cell? p := fun W v o => World.cell?_of_block (Below.heap_setCell _ _ _ _ (by have := hp.1; show p.block ≠ w.heap.size; omega))
                have e1 : ∀ (W : World) (v : Value) (o : Nat), (W.setCell ⟨w.heap.size + 1, o, none⟩ v).cell? p = W.cell? p := fun W v o => World.cell?_of_block (Below.heap_setCell _ _ _ _ (by have := hp.1; show p.block ≠ w.heap.size + 1; omega))
                have e2 : ∀ (W : World), (W.drew).cell? p = W.cell? p := fun W => rfl
                rw [e2]
                simp only [e0, e1]
              · have H := HB4.out
                refine Below.drew ?_
                iterate 13 refine Below.setCell ?_ (by first | exact Nat.le_refl _ | exact Nat.le_succ _) _
                exact H
            · have hRe : R = .error 2 := by rw [← HR4]; exact if_neg hr2e
              subst hRe
              clear HR4
              have hpos : 0 < r2.length := List.length_pos_iff.2 hr2e
              have hb3 := (hBelow1.out.alloc (by omega) (.cells #[.int .i64 t.k, .int .i64 t.n, .slice A t.al.length cp] 30)).trans (hbe.mono (by simp; omega))
              have hsz3 := hbe.size
              simp at hsz3
              have hBk := ((HBr.out.alloc (.cells #[.int .i64 t.k, .int .i64 t.n, .slice A t.al.length cp] 30)).below hbe (by simp; omega)).alloc (.cells #[.int .i64 u.k, .int .i64 u.n, .slice A2 u.al.length cp2] 30)
              obtain ⟨⟨c0, c1, c2, c3, c4, c5, c6⟩, f0, f1, f2, f3, f4, f5, f6⟩ := hBk.seven
              have HB2 := Lib.hid (hb3.alloc (by omega) (.cells #[.int .i64 u.k, .int .i64 u.n, .slice A2 u.al.length cp2] 30))
              clear hb3 hBk hbe
              try unfold noTerm
              go_wp2_with fail
              refine bodyPost_ret (v := noDecl 2) (by simp [results, Tryz.results81, go_sem, noDecl, c0, c1, c2, c3, c4, c5, c6]) rfl ⟨by omega, rfl, ?_⟩
              exact ((((((HB2.out.setCell (Nat.le_refl _) _).setCell (Nat.le_refl _) _).setCell (Nat.le_refl _) _).setCell (Nat.le_refl _) _).setCell (Nat.le_refl _) _).setCell (Nat.le_refl _) _).setCell (Nat.le_refl _) _
end Go.Proofs.YtjboibbgigkhkaaGreatDoor

