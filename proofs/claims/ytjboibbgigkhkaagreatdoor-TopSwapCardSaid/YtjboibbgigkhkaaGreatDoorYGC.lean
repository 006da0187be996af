/- package eval: Env.At, Part, Clo.With, Apply. -/
import Derived.Test.YtjboibbgigkhkaaGreatDoorYGB
namespace Go.Proofs.YtjboibbgigkhkaaGreatDoor
open Go.RowKit
set_option maxRecDepth 100000

theorem at_any (l : List Val) (n : Nat) (v : Val) (hn : n < 1000) (hv : l[n]? = some v) (w : World) (ev : Value) (he : EnvAt w l ev) :
    Calls Tryz.prog 56 #[ev, .int .i64 n] w (VPost v w) := by
  obtain ⟨a, rfl⟩ := he.form
  go_enter Tryz.func56, Tryz.ntmps56
  go_wp2_with fail
  go_loopw [0, 1] (fun ev iv wr => ∃ (m : Nat) (l : List Val), m < 1000 ∧ iv = .int .i64 m ∧ EnvAt w l ev ∧ Hid (l[m]? = some v) ∧ wr = w) (fun _ iv _ => (intOf iv).toNat)
  case atStart => exact ⟨n, l, hn, rfl, he, Lib.hid hv, rfl⟩
  case round =>
    obtain ⟨m, l, hm, rfl, he, hv, rfl⟩ := hrel
    cases l with
    | nil => simp at hv; exact absurd hv.out (by simp)
    | cons x r =>
      obtain ⟨b, p, q, rfl, c0, c1, hx, hr⟩ := he.uncons
      cases m with
      | zero =>
        have hv := hv.out
        simp only [List.getElem?_cons_zero, Option.some.injEq] at hv
        subst hv
        go_wp2_with fail
        go_ret
        exact ⟨p, rfl, hx, Below.refl _ _⟩
      | succ m =>
        have HV := Lib.hid (show r[m]? = some v from by have := hv.out; simpa using this)
        have hm0 : (0 : Int) < ((m + 1 : Nat) : Int) := by omega
        clear hv
        go_wp2_with fail
        go_roundw
        case rel => exact ⟨m, r, by omega, by go_num, hr, HV, by first | rfl | trivial⟩
        case measure => simp [intOf]

theorem part_any (kind : Int) (hk : kind = 8 ∨ kind = 9) (x v : Val) (hv : partP kind x = some v) (w : World) (p : Value) (hx : ValAt w x p) :
    Calls Tryz.prog 58 #[.int .i64 kind, p] w (VPost v w) := by
  have HX := Lib.hid hx
  obtain ⟨b, A, m, B, l, rfl, ⟨c0, c1, c2, c3⟩, h3, -⟩ := hx.open_
  unfold partP at hv
  by_cases h7 : x.k = 7
  · rw [if_pos h7] at hv
    have h7b : (x.k == 7) = true := by simpa using h7
    have hn : x.args ≠ [] := by intro e; rw [e] at hv; simp at hv
    obtain ⟨ab, ao, rfl, h⟩ := h3 hn
    have hlen := (List.getElem?_eq_some_iff.1 hv).1
    obtain ⟨q, cq, hq⟩ := h _ _ hv
    clear h3 h h7 hx
    rcases hk with rfl | rfl
    · have hl : (1 : Int) < (x.args.length : Int) := by have : (1 + 8 - 8 : Int).toNat = 1 := rfl; omega
      have cq1 : w.cell? ⟨ab, ao + 1, none⟩ = some q := cq
      clear hv hlen cq
      go_enter Tryz.func58, Tryz.ntmps58
      go_wp2_with fail
      go_ret
      exact ⟨q, rfl, hq, Below.refl _ _⟩
    · have hl : (2 : Int) < (x.args.length : Int) := by have : (1 + 9 - 8 : Int).toNat = 2 := rfl; omega
      have cq1 : w.cell? ⟨ab, ao + 2, none⟩ = some q := cq
      clear hv hlen cq
      go_enter Tryz.func58, Tryz.ntmps58
      go_wp2_with fail
      go_ret
      exact ⟨q, rfl, hq, Below.refl _ _⟩
  · rw [if_neg h7] at hv
    cases hv
    have h7b : (x.k == 7) = false := by simpa using h7
    clear h3 h7 hk
    go_enter Tryz.func58, Tryz.ntmps58
    go_wp2_with fail
    go_ret
    exact ⟨_, rfl, val_one kind 0 HX.out, ((Below.refl _ _).alloc (Nat.le_refl _) _).alloc (by simp) _⟩

/-- what Value answers, so deep -/
def ValueC (ds : List ND) (f : Nat) : Prop := ∀ (t : T) (e : List Val) (v : Val) (w : World) (D s ev : Value), evalP (ds.map Prod.snd) f (.value t e) = some v → DeclsAt w ds D → argsIn w w.heap.size t s → EnvAt w e ev →
  Calls Tryz.prog 29 #[D, .agg #[.int .i64 t.k, .int .i64 t.n, s], ev] w (VPost v w)

/-- a slice of values -/
def ValsAt (w : World) (l : List Val) (A : Option Addr) : Prop := l ≠ [] → ∃ ab ao, A = some ⟨ab, ao, none⟩ ∧ ∀ (j : Nat) (x : Val), l[j]? = some x → ∃ q, w.cell? ⟨ab, ao + j, none⟩ = some q ∧ ValAt w x q
theorem ValsAt.keep {w w' : World} {l : List Val} {A : Option Addr} (h : ValsAt w l A) (hb : Below w.heap.size w w') : ValsAt w' l A := fun hn => by
  obtain ⟨ab, ao, e, h⟩ := h hn
  exact ⟨ab, ao, e, fun j x hx => by obtain ⟨q, a, b⟩ := h j x hx; exact ⟨q, cell_keep hb a, b.keep hb⟩⟩
theorem ValsAt.one {w : World} {x : Val} {p : Value} {t : TypeId} (h : ValAt w x p) : ValsAt (w.alloc (.cells #[p] t)) [x] (some ⟨w.heap.size, 0, none⟩) := fun _ =>
  args_row (Blk.new w t #[p]) fun j y hy => by
    match j, hy with
    | 0, hy => cases hy; exact ⟨p, rfl, h.keep ((Below.refl _ _).alloc (Nat.le_refl _) _)⟩
    | j + 1, hy => simp at hy
theorem ValsAt.two {w : World} {x y : Val} {p q : Value} {t : TypeId} (h : ValAt w x p) (h2 : ValAt w y q) : ValsAt (w.alloc (.cells #[p, q] t)) [x, y] (some ⟨w.heap.size, 0, none⟩) := fun _ =>
  args_row (Blk.new w t #[p, q]) fun j z hz => by
    match j, hz with
    | 0, hz => cases hz; exact ⟨p, rfl, h.keep ((Below.refl _ _).alloc (Nat.le_refl _) _)⟩
    | 1, hz => cases hz; exact ⟨q, rfl, h2.keep ((Below.refl _ _).alloc (Nat.le_refl _) _)⟩
    | j + 2, hz => simp at hz

theorem with_any (ds : List ND) (f : Nat) (hV : ValueC ds f) (c : Clo) (l : List Val) (v : Val) (hv : withP (ds.map Prod.snd) f c l = some v) (w : World) (D s e : Value) (A : Option Addr) (m : Nat) (hl : l.length ≤ 100)
    (hD : DeclsAt w ds D) (hc : CloAt w c s e) (hA : ValsAt w l A) :
    Calls Tryz.prog 60 #[.agg #[.int .i64 c.1.k, .int .i64 c.1.n, s, e], D, .slice A l.length m] w (VPost v w) := by
  obtain ⟨ea, rfl⟩ := hc.2.form
  obtain ⟨DA, dcap, rfl, -⟩ := id hD
  obtain ⟨SA, scap, rfl, -⟩ := argsIn_iff.1 hc.1
  have hb0 := (Below.refl w.heap.size w).alloc (Nat.le_refl _) (.cells #[.int .i64 c.1.k, .int .i64 c.1.n, .slice SA c.1.al.length scap, .pointer ea] 100)
  have HBX := Lib.hid (Blk.new w 100 #[.int .i64 c.1.k, .int .i64 c.1.n, .slice SA c.1.al.length scap, .pointer ea])
  have HE0 := Lib.hid (hc.2.keep hb0)
  have HP := Lib.hid (And.intro hD (And.intro hc.1 hA))
  have HB0 := Lib.hid hb0
  have HV := Lib.hid (And.intro hV hv)
  clear hD hc hA hb0 hV hv
  go_enter Tryz.func60, Tryz.ntmps60
  go_wp2_with fail
  generalize w.alloc (.cells #[.int .i64 c.1.k, .int .i64 c.1.n, .slice SA c.1.al.length scap, .pointer ea] 100) = w1 at *
  go_loopw [7, 14] (fun ev iv wr => ∃ j : Nat, j ≤ l.length ∧ iv = .int .i64 j ∧ EnvAt wr ((l.take j).reverse ++ c.2) ev ∧ Below w1.heap.size w1 wr) (fun _ iv _ => l.length - (intOf iv).toNat)
  case atStart => exact ⟨0, Nat.zero_le _, rfl, by simpa using HE0.out, Below.refl _ _⟩
  case round =>
    obtain ⟨j, hj, rfl, hev, hb⟩ := hrel
    obtain ⟨a7, rfl⟩ := hev.form
    have hbw := HB0.out.trans (hb.mono HB0.out.size)
    by_cases hlt : j < l.length
    · obtain ⟨x, hx⟩ := length_getElem hlt
      obtain ⟨ab, ao, rfl, hA⟩ := HP.out.2.2.keep hbw (by intro e; rw [e] at hlt; simp at hlt)
      obtain ⟨q, cq, hq⟩ := hA j x hx
      obtain ⟨qb, rfl⟩ := hq.form
      have HX := Lib.hid hx
      have HQ := Lib.hid hq
      have HEV := Lib.hid hev
      clear hx hA hq hev
      go_wp2_with fail
      go_roundw
      case rel =>
        have hba := (Below.refl wr.heap.size wr).alloc (Nat.le_refl _) (.cells #[.pointer (some ⟨qb, 0, none⟩), .pointer a7] 143)
        refine ⟨j + 1, by omega, by go_num, ?_, hb.alloc hb.size _⟩
        have e1 : (l.take (j + 1)).reverse ++ c.2 = x :: ((l.take j).reverse ++ c.2) := by
          rw [List.take_add_one, HX.out]; simp
        rw [e1]
        have hB := Blk.new wr 143 #[.pointer (some ⟨qb, 0, none⟩), .pointer a7]
        exact EnvAt.cons (hB.cell 0) (hB.cell 1) (HQ.out.keep hba) (HEV.out.keep hba)
      case measure => simp [intOf]; omega
    · obtain rfl : j = l.length := by omega
      rw [List.take_length] at hev
      have hBX := Blk.below HBX.out hb HBX.out.lt
      have k0 := hBX.cell 0
      have k1 := hBX.cell 1
      have k2 := hBX.cell 2
      have hcall := HV.out.1 c.1 (l.reverse ++ c.2) v wr (.slice DA ds.length dcap) (.slice SA c.1.al.length scap) _ HV.out.2 (HP.out.1.keep hbw) (HP.out.2.1.keep hbw.size hbw) hev
      have HCALL := Lib.hid hcall
      have HBW := Lib.hid hbw
      clear hBX hcall hev hbw
      go_wp2_with fail
      refine HCALL.out.mono ?_
      rintro e w2 ⟨p, rfl, hp, hb2⟩
      go_wp2_with fail
      go_ret
      exact ⟨p, rfl, hp, HBW.out.trans (hb2.mono HBW.out.size)⟩
end Go.Proofs.YtjboibbgigkhkaaGreatDoor

/- package eval: Apply, rec. -/
namespace Go.Proofs.YtjboibbgigkhkaaGreatDoor
open Go.RowKit
set_option maxRecDepth 100000

def ApplyC (ds : List ND) (f : Nat) : Prop := ∀ (g a v : Val) (w : World) (D p q : Value), evalP (ds.map Prod.snd) f (.apply g a) = some v → DeclsAt w ds D → ValAt w g p → ValAt w a q →
  Calls Tryz.prog 57 #[D, p, q] w (VPost v w)

theorem apply_step (ds : List ND) (f : Nat) (hV : ValueC ds f) : ApplyC ds (f + 1) := by
  intro g a v w D p q hv hD hg ha
  have HG := Lib.hid hg
  have HA := Lib.hid ha
  have HD := Lib.hid hD
  obtain ⟨DA, dcap, rfl, -⟩ := id hD
  obtain ⟨b, A, m, B, l, rfl, ⟨c0, c1, c2, c3⟩, -, h4⟩ := hg.open_
  obtain ⟨qb, rfl⟩ := ha.form
  rw [evalP] at hv
  by_cases h : g.k = 4
  · rw [if_pos h] at hv
    have hb4 : (g.k == 4) = true := by simpa using h
    have hn : g.bs ≠ [] := by intro e; rw [e] at hv; simp at hv
    obtain ⟨bb, bo, rfl, hcl⟩ := h4 hn
    cases hc : g.bs[0]? with
    | none => rw [hc] at hv; cases hv
    | some c =>
      rw [hc] at hv
      simp only [Option.bind_some] at hv
      obtain ⟨s, e, ⟨k0, k1, k2, k3⟩, hca⟩ := hcl 0 c hc
      have hlen : (0 : Int) < (g.bs.length : Int) := by have := (List.getElem?_eq_some_iff.1 hc).1; omega
      have k0' : w.cell? ⟨bb, bo, none⟩ = some (.int .i64 c.1.k) := by simpa using k0
      have k1' : w.cell? ⟨bb, bo + 1, none⟩ = some (.int .i64 c.1.n) := by simpa using k1
      have k2' : w.cell? ⟨bb, bo + 2, none⟩ = some s := by simpa using k2
      have k3' : w.cell? ⟨bb, bo + 3, none⟩ = some e := by simpa using k3
      obtain ⟨ea, rfl⟩ := hca.2.form
      obtain ⟨SA, scap, rfl, -⟩ := argsIn_iff.1 hca.1
      have hb1 := (Below.refl w.heap.size w).alloc (Nat.le_refl _) (.cells #[.pointer (some ⟨qb, 0, none⟩)] 63)
      have HCALL := Lib.hid (with_any ds f hV c [a] v hv _ _ _ _ (some ⟨w.heap.size, 0, none⟩) 1 (by simp) (hD.keep hb1) (hca.keep hb1) (ValsAt.one (t := 63) ha))
      have HB1 := Lib.hid hb1
      clear k0 k1 k2 k3 hcl h4 hv hc hn h hca hb1 hD hg ha
      go_enter Tryz.func57, Tryz.ntmps57
      go_wp2_with fail
      refine HCALL.out.mono ?_
      rintro e w2 ⟨p, rfl, hp, hb2⟩
      go_wp2_with fail
      go_ret
      exact ⟨p, rfl, hp, HB1.out.trans (hb2.mono HB1.out.size)⟩
  · rw [if_neg h] at hv
    cases hv
    have hb4 : (g.k == 4) = false := by simpa using h
    clear h4 h hD hg ha
    go_enter Tryz.func57, Tryz.ntmps57
    go_wp2_with fail
    go_ret
    exact ⟨_, rfl, val_two 5 0 HG.out HA.out, ((Below.refl _ _).alloc (Nat.le_refl _) _).alloc (by simp) _⟩

def RecC (ds : List ND) (f : Nat) : Prop := ∀ (c s : Clo) (z n v : Val) (w : World) (D cs ce ss se zp np : Value), evalP (ds.map Prod.snd) f (.recq c s z n) = some v → DeclsAt w ds D → CloAt w c cs ce → CloAt w s ss se → ValAt w z zp → ValAt w n np →
  Calls Tryz.prog 59 #[D, .agg #[.int .i64 c.1.k, .int .i64 c.1.n, cs, ce], .agg #[.int .i64 s.1.k, .int .i64 s.1.n, ss, se], zp, np] w (VPost v w)

/-- the two closures in their boxes, and the number's argument -/
def RF (ds : List ND) (c s : Clo) (z m : Val) (D cs ce ss se zp mp : Value) (w : World) (w1 : World) : Prop :=
  (DeclsAt w1 ds D ∧ CloAt w1 c cs ce ∧ CloAt w1 s ss se ∧ ValAt w1 z zp ∧ ValAt w1 m mp) ∧ Blk w1 w.heap.size 100 #[.int .i64 c.1.k, .int .i64 c.1.n, cs, ce] ∧ Blk w1 (w.heap.size + 1) 100 #[.int .i64 s.1.k, .int .i64 s.1.n, ss, se] ∧ Below w.heap.size w w1
theorem RF.more {ds : List ND} {c s : Clo} {z m : Val} {D cs ce ss se zp mp : Value} {w w1 w2 : World} (h : RF ds c s z m D cs ce ss se zp mp w w1) (hb : Below w1.heap.size w1 w2) : RF ds c s z m D cs ce ss se zp mp w w2 :=
  ⟨⟨h.1.1.keep hb, h.1.2.1.keep hb, h.1.2.2.1.keep hb, h.1.2.2.2.1.keep hb, h.1.2.2.2.2.keep hb⟩, h.2.1.below hb h.2.1.lt, h.2.2.1.below hb h.2.2.1.lt, h.2.2.2.trans (hb.mono h.2.2.2.size)⟩
theorem Blk.four {w : World} {g : Nat} {t : TypeId} {a b c d : Value} (h : Blk w g t #[a, b, c, d]) : w.cell? ⟨g, 0, none⟩ = some a ∧ w.cell? ⟨g, 1, none⟩ = some b ∧ w.cell? ⟨g, 2, none⟩ = some c ∧ w.cell? ⟨g, 3, none⟩ = some d := ⟨h.cell 0, h.cell 1, h.cell 2, h.cell 3⟩
theorem rf_new {ds : List ND} {c s : Clo} {z m : Val} {D cs ce ss se zp mp : Value} {w : World} (hD : DeclsAt w ds D) (hc : CloAt w c cs ce) (hs : CloAt w s ss se) (hz : ValAt w z zp) (hm : ValAt w m mp) :
    RF ds c s z m D cs ce ss se zp mp w ((w.alloc (.cells #[.int .i64 c.1.k, .int .i64 c.1.n, cs, ce] 100)).alloc (.cells #[.int .i64 s.1.k, .int .i64 s.1.n, ss, se] 100)) := by
  have hb1 := ((Below.refl w.heap.size w).alloc (Nat.le_refl _) (.cells #[.int .i64 c.1.k, .int .i64 c.1.n, cs, ce] 100)).alloc (by simp) (.cells #[.int .i64 s.1.k, .int .i64 s.1.n, ss, se] 100)
  have h2 := Blk.new (w.alloc (.cells #[.int .i64 c.1.k, .int .i64 c.1.n, cs, ce] 100)) 100 #[.int .i64 s.1.k, .int .i64 s.1.n, ss, se]
  rw [show (w.alloc (.cells #[.int .i64 c.1.k, .int .i64 c.1.n, cs, ce] 100)).heap.size = w.heap.size + 1 by simp] at h2
  exact ⟨⟨hD.keep hb1, hc.keep hb1, hs.keep hb1, hz.keep hb1, hm.keep hb1⟩, (Blk.new w _ _).alloc _, h2, hb1⟩

theorem RF.rec {ds : List ND} {f : Nat} {c s : Clo} {z m r : Val} {D cs ce ss se zp mp : Value} {w w1 : World} (h : RF ds c s z m D cs ce ss se zp mp w w1) (hR : RecC ds f) (hr : evalP (ds.map Prod.snd) f (.recq c s z m) = some r) :
    Calls Tryz.prog 59 #[D, .agg #[.int .i64 c.1.k, .int .i64 c.1.n, cs, ce], .agg #[.int .i64 s.1.k, .int .i64 s.1.n, ss, se], zp, mp] w1.drew (VPost r w1.drew) := by
  have h := h.more (Below.refl _ _).drew
  exact hR c s z m r w1.drew D cs ce ss se zp mp hr h.1.1 h.1.2.1 h.1.2.2.1 h.1.2.2.2.1 h.1.2.2.2.2
theorem RF.with {ds : List ND} {f : Nat} {c s : Clo} {z m r v : Val} {D cs ce ss se zp mp rp : Value} {w w1 : World} (h : RF ds c s z m D cs ce ss se zp mp w w1) (hV : ValueC ds f) (hv : evalP (ds.map Prod.snd) f (.value s.1 (r :: m :: s.2)) = some v) (hr : ValAt w1 r rp) :
    Calls Tryz.prog 60 #[.agg #[.int .i64 s.1.k, .int .i64 s.1.n, ss, se], D, .slice (some ⟨w1.heap.size, 0, none⟩) 2 2] (w1.alloc (.cells #[mp, rp] 63)) (VPost v (w1.alloc (.cells #[mp, rp] 63))) := by
  have hb := (Below.refl w1.heap.size w1).alloc (Nat.le_refl _) (.cells #[mp, rp] 63)
  exact with_any ds f hV s [m, r] v hv _ D ss se (some ⟨w1.heap.size, 0, none⟩) 2 (by simp) (h.1.1.keep hb) (h.1.2.2.1.keep hb) (ValsAt.two (t := 63) h.1.2.2.2.2 hr)

/-- what nothing more is known of -/
theorem val_rec {w1 : World} {z n : Val} {c s : Clo} {zp np cs ce ss se : Value} (hz : ValAt w1 z zp) (hn : ValAt w1 n np) (hc : CloAt w1 c cs ce) (hs : CloAt w1 s ss se) :
    ValAt (((w1.alloc (.cells #[zp, np] 63)).alloc (.cells #[.int .i64 c.1.k, .int .i64 c.1.n, cs, ce, .int .i64 s.1.k, .int .i64 s.1.n, ss, se] 100)).alloc (.cells #[.int .i64 17, .int .i64 0, .slice (some ⟨w1.heap.size, 0, none⟩) 2 2, .slice (some ⟨w1.heap.size + 1, 0, none⟩) 2 2] 96))
      (.mk 17 0 [z, n] [c, s]) (.pointer (some ⟨w1.heap.size + 1 + 1, 0, none⟩)) ∧
    Below w1.heap.size w1 (((w1.alloc (.cells #[zp, np] 63)).alloc (.cells #[.int .i64 c.1.k, .int .i64 c.1.n, cs, ce, .int .i64 s.1.k, .int .i64 s.1.n, ss, se] 100)).alloc (.cells #[.int .i64 17, .int .i64 0, .slice (some ⟨w1.heap.size, 0, none⟩) 2 2, .slice (some ⟨w1.heap.size + 1, 0, none⟩) 2 2] 96)) := by
  have hb := (((Below.refl w1.heap.size w1).alloc (Nat.le_refl _) (.cells #[zp, np] 63)).alloc (by simp) (.cells #[.int .i64 c.1.k, .int .i64 c.1.n, cs, ce, .int .i64 s.1.k, .int .i64 s.1.n, ss, se] 100)).alloc (by simp; omega) (.cells #[.int .i64 17, .int .i64 0, .slice (some ⟨w1.heap.size, 0, none⟩) 2 2, .slice (some ⟨w1.heap.size + 1, 0, none⟩) 2 2] 96)
  have e1 : (w1.alloc (.cells #[zp, np] 63)).heap.size = w1.heap.size + 1 := by simp
  have e2 : ((w1.alloc (.cells #[zp, np] 63)).alloc (.cells #[.int .i64 c.1.k, .int .i64 c.1.n, cs, ce, .int .i64 s.1.k, .int .i64 s.1.n, ss, se] 100)).heap.size = w1.heap.size + 1 + 1 := by simp
  have hA := ((Blk.new w1 63 #[zp, np]).alloc (.cells #[.int .i64 c.1.k, .int .i64 c.1.n, cs, ce, .int .i64 s.1.k, .int .i64 s.1.n, ss, se] 100)).alloc (.cells #[.int .i64 17, .int .i64 0, .slice (some ⟨w1.heap.size, 0, none⟩) 2 2, .slice (some ⟨w1.heap.size + 1, 0, none⟩) 2 2] 96)
  have hC := (Blk.new (w1.alloc (.cells #[zp, np] 63)) 100 #[.int .i64 c.1.k, .int .i64 c.1.n, cs, ce, .int .i64 s.1.k, .int .i64 s.1.n, ss, se]).alloc (.cells #[.int .i64 17, .int .i64 0, .slice (some ⟨w1.heap.size, 0, none⟩) 2 2, .slice (some ⟨w1.heap.size + 1, 0, none⟩) 2 2] 96)
  have hB := Blk.new ((w1.alloc (.cells #[zp, np] 63)).alloc (.cells #[.int .i64 c.1.k, .int .i64 c.1.n, cs, ce, .int .i64 s.1.k, .int .i64 s.1.n, ss, se] 100)) 96 #[.int .i64 17, .int .i64 0, .slice (some ⟨w1.heap.size, 0, none⟩) 2 2, .slice (some ⟨w1.heap.size + 1, 0, none⟩) 2 2]
  rw [e1] at hC
  rw [e2] at hB
  refine ⟨ValAt.box (v := .mk 17 0 [z, n] [c, s]) hB (fun _ => args_row hA fun j y hy => ?_) (fun _ => clo_row hC fun j y hy => ?_), hb⟩
  · match j, hy with
    | 0, hy => cases hy; exact ⟨zp, rfl, hz.keep hb⟩
    | 1, hy => cases hy; exact ⟨np, rfl, hn.keep hb⟩
    | j + 2, hy => simp [Val.args] at hy
  · match j, hy with
    | 0, hy => cases hy; exact ⟨cs, ce, ⟨rfl, rfl, rfl, rfl⟩, hc.keep hb⟩
    | 1, hy => cases hy; exact ⟨ss, se, ⟨rfl, rfl, rfl, rfl⟩, hs.keep hb⟩
    | j + 2, hy => simp [Val.bs] at hy

set_option maxHeartbeats 800000 in
theorem rec_step (ds : List ND) (f : Nat) (hV : ValueC ds f) (hR : RecC ds f) : RecC ds (f + 1) := by
  intro c s z n v w D cs ce ss se zp np hv hD hc hs hz hn
  have HN := Lib.hid hn
  obtain ⟨DA, dcap, rfl, -⟩ := id hD
  obtain ⟨zb, rfl⟩ := hz.form
  obtain ⟨cea, rfl⟩ := hc.2.form
  obtain ⟨sea, rfl⟩ := hs.2.form
  obtain ⟨CA, ccap, rfl, -⟩ := argsIn_iff.1 hc.1
  obtain ⟨SA, scap, rfl, -⟩ := argsIn_iff.1 hs.1
  have HF := Lib.hid (rf_new hD hc hs hz hz)
  have HD := Lib.hid hD
  obtain ⟨b, A, mm, B, l, rfl, ⟨n0, n1, n2, n3⟩, h3, -⟩ := hn.open_
  rw [evalP] at hv
  by_cases h15 : n.k = 15
  · rw [if_pos h15] at hv
    cases hv
    have hb15 : (n.k == 15) = true := by simpa using h15
    have m0 := cell_keep HF.out.2.2.2 n0
    clear h15 h3 hD hc hs hz hn
    go_enter Tryz.func59, Tryz.ntmps59
    go_wp2_with fail
    go_ret
    have hb2 := HF.out.2.2.2
    exact ⟨_, rfl, HF.out.1.2.2.2.1, hb2⟩
  · rw [if_neg h15] at hv
    have hb15 : (n.k == 15) = false := by simpa using h15
    by_cases h16 : n.k = 16
    · rw [if_pos h16] at hv
      have hb16 : (n.k == 16) = true := by simpa using h16
      cases hm : n.args[0]? with
      | none => rw [hm] at hv; cases hv
      | some m =>
        rw [hm] at hv
        simp only [Option.bind_some] at hv
        cases hr : evalP (ds.map Prod.snd) f (.recq c s z m) with
        | none => rw [hr] at hv; cases hv
        | some r =>
          rw [hr] at hv
          simp only [Option.bind_some] at hv
          obtain ⟨ab, ao, rfl, hargs⟩ := h3 (by intro e; rw [e] at hm; simp at hm)
          obtain ⟨q, cq, hq⟩ := hargs 0 m hm
          obtain ⟨qb, rfl⟩ := hq.form
          have cq' : w.cell? ⟨ab, ao, none⟩ = some (.pointer (some ⟨qb, 0, none⟩)) := by simpa using cq
          have hlen2 : 0 < n.args.length := (List.getElem?_eq_some_iff.1 hm).1
          have hf := rf_new hD hc hs hz hq
          have HF2 := Lib.hid hf
          have HV := Lib.hid (And.intro hV (And.intro hR (And.intro hv hr)))
          have hbw := hf.2.2.2
          have m2 := cell_keep hbw n2
          have m4 := cell_keep hbw cq'
          have m0 := cell_keep hbw n0
          clear h15 h16 h3 hD hc hs hz hn hargs hq cq cq' hm hv hr hV hR hf hbw n0 n1 n2 n3 HF
          go_enter Tryz.func59, Tryz.ntmps59
          go_wp2_with fail
          generalize (w.alloc (.cells #[.int .i64 c.1.k, .int .i64 c.1.n, .slice CA c.1.al.length ccap, .pointer cea] 100)).alloc (.cells #[.int .i64 s.1.k, .int .i64 s.1.n, .slice SA s.1.al.length scap, .pointer sea] 100) = w1 at *
          obtain ⟨a0, a1, a2, a3⟩ := HF2.out.2.1.four
          obtain ⟨a4, a5, a6, a7⟩ := HF2.out.2.2.1.four
          have HM := Lib.hid (And.intro m2 m4)
          have HREC := Lib.hid (RF.rec HF2.out HV.out.2.1 HV.out.2.2.2)
          go_region_held3 (fun w' => w'.cell? ⟨w.heap.size, 0, none⟩ = some (.int .i64 c.1.k) ∧ w'.cell? ⟨w.heap.size, 1, none⟩ = some (.int .i64 c.1.n) ∧ w'.cell? ⟨w.heap.size, 2, none⟩ = some (.slice CA c.1.al.length ccap) ∧ w'.cell? ⟨w.heap.size, 3, none⟩ = some (.pointer cea) ∧
              w'.cell? ⟨w.heap.size + 1, 0, none⟩ = some (.int .i64 s.1.k) ∧ w'.cell? ⟨w.heap.size + 1, 1, none⟩ = some (.int .i64 s.1.n) ∧ w'.cell? ⟨w.heap.size + 1, 2, none⟩ = some (.slice SA s.1.al.length scap) ∧ w'.cell? ⟨w.heap.size + 1, 3, none⟩ = some (.pointer sea) ∧
              w'.cell? ⟨b, 2, none⟩ = some (.slice (some ⟨ab, ao, none⟩) n.args.length mm) ∧ w'.cell? ⟨ab, ao, none⟩ = some (.pointer (some ⟨qb, 0, none⟩))) (go_keep)
            (first
              | ((with_reducible refine HREC.out.mono ?_); rintro e w5 ⟨rp, rfl, hrp, hb5⟩; (obtain ⟨rb, rfl⟩ := hrp.form); (have hb5' : Below w1.heap.size w1 w5 := (Below.refl w1.heap.size w1).drew.trans hb5); (have HF5 := Lib.hid (HF2.out.more hb5')); (have HRP := Lib.hid hrp); (obtain ⟨d0, d1, d2, d3⟩ := HF5.out.2.1.four); (obtain ⟨d4, d5, d6, d7⟩ := HF5.out.2.2.1.four); (have d8 := cell_keep hb5' HM.out.1); (have d9 := cell_keep hb5' HM.out.2); (have HM5 := Lib.hid (And.intro d8 d9)); clear hb5 hb5' hrp)
              | ((with_reducible refine (RF.with HF5.out HV.out.1 HV.out.2.2.1 HRP.out).mono ?_); rintro e w6 ⟨vp, rfl, hvp, hb6⟩; (have hb7 := ((Below.refl w5.heap.size w5).alloc (Nat.le_refl _) (.cells #[.pointer (some ⟨qb, 0, none⟩), .pointer (some ⟨rb, 0, none⟩)] 63)).trans (hb6.mono (by simp))); (have HF6 := Lib.hid (HF5.out.more hb7)); (have HVP := Lib.hid hvp); (obtain ⟨e0, e1, e2, e3⟩ := HF6.out.2.1.four); (obtain ⟨e4, e5, e6, e7⟩ := HF6.out.2.2.1.four); (have e8 := cell_keep hb7 HM5.out.1); (have e9 := cell_keep hb7 HM5.out.2); clear hb6 hb7 hvp)
              | fail)
          go_wp2_with fail
          go_ret
          exact ⟨_, rfl, HVP.out, HF6.out.2.2.2⟩
    · rw [if_neg h16] at hv
      cases hv
      have hb16 : (n.k == 16) = false := by simpa using h16
      have m0 := cell_keep HF.out.2.2.2 n0
      obtain ⟨a0, a1, a2, a3⟩ := HF.out.2.1.four
      obtain ⟨a4, a5, a6, a7⟩ := HF.out.2.2.1.four
      clear h15 h16 h3 hD hc hs hz hn
      go_enter Tryz.func59, Tryz.ntmps59
      go_wp2_with fail
      go_ret
      have hsz : ((w.alloc (.cells #[.int .i64 c.1.k, .int .i64 c.1.n, .slice CA c.1.al.length ccap, .pointer cea] 100)).alloc (.cells #[.int .i64 s.1.k, .int .i64 s.1.n, .slice SA s.1.al.length scap, .pointer sea] 100)).heap.size = w.heap.size + 1 + 1 := by simp
      have h := val_rec HF.out.1.2.2.2.1 (HN.out.keep HF.out.2.2.2) HF.out.1.2.1 HF.out.1.2.2.1
      rw [hsz] at h
      exact ⟨_, rfl, h.1, HF.out.2.2.2.trans (h.2.mono (by omega))⟩
end Go.Proofs.YtjboibbgigkhkaaGreatDoor

/- package eval: Value's two closures. -/
namespace Go.Proofs.YtjboibbgigkhkaaGreatDoor
open Go.RowKit
set_option maxRecDepth 100000

/-- the three boxes that Value's closures read -/
def VF (ds : List ND) (t : T) (e : List Val) (D s ev : Value) (g : Nat) (w : World) (w1 : World) : Prop :=
  (DeclsAt w1 ds D ∧ argsIn w1 w1.heap.size t s ∧ EnvAt w1 e ev) ∧ Blk w1 g 23 #[D] ∧ Blk w1 (g + 1) 30 #[.int .i64 t.k, .int .i64 t.n, s] ∧ Blk w1 (g + 2) 97 #[ev] ∧ Below w.heap.size w w1
theorem VF.more {ds : List ND} {t : T} {e : List Val} {D s ev : Value} {g : Nat} {w w1 w2 : World} (h : VF ds t e D s ev g w w1) (hb : Below w1.heap.size w1 w2) : VF ds t e D s ev g w w2 :=
  ⟨⟨h.1.1.keep hb, h.1.2.1.keep hb.size hb, h.1.2.2.keep hb⟩, h.2.1.below hb h.2.1.lt, h.2.2.1.below hb h.2.2.1.lt, h.2.2.2.1.below hb h.2.2.2.1.lt, h.2.2.2.2.trans (hb.mono h.2.2.2.2.size)⟩
theorem vf_new {ds : List ND} {t : T} {e : List Val} {D s ev : Value} {w : World} (hD : DeclsAt w ds D) (hs : argsIn w w.heap.size t s) (he : EnvAt w e ev) :
    VF ds t e D s ev w.heap.size w (((w.alloc (.cells #[D] 23)).alloc (.cells #[.int .i64 t.k, .int .i64 t.n, s] 30)).alloc (.cells #[ev] 97)) := by
  have e1 : (w.alloc (.cells #[D] 23)).heap.size = w.heap.size + 1 := by simp
  have e2 : ((w.alloc (.cells #[D] 23)).alloc (.cells #[.int .i64 t.k, .int .i64 t.n, s] 30)).heap.size = w.heap.size + 2 := by simp
  have hb := (((Below.refl w.heap.size w).alloc (Nat.le_refl _) (.cells #[D] 23)).alloc (by omega) (.cells #[.int .i64 t.k, .int .i64 t.n, s] 30)).alloc (by omega) (.cells #[ev] 97)
  have h2 := (Blk.new (w.alloc (.cells #[D] 23)) 30 #[.int .i64 t.k, .int .i64 t.n, s]).alloc (.cells #[ev] 97)
  have h3 := Blk.new ((w.alloc (.cells #[D] 23)).alloc (.cells #[.int .i64 t.k, .int .i64 t.n, s] 30)) 97 #[ev]
  rw [e1] at h2
  rw [e2] at h3
  exact ⟨⟨hD.keep hb, hs.keep hb.size hb, he.keep hb⟩, ((Blk.new w _ _).alloc _).alloc _, h2, h3, hb⟩

theorem vf_arg {w : World} {t a : T} {A : Option Addr} {cap : Nat} {i : Nat} (hs : argsIn w w.heap.size t (.slice A t.al.length cap)) (ha : t.al[i]? = some a) : ∃ ab ao S m, A = some ⟨ab, ao, none⟩ ∧ i < t.al.length ∧
    w.cell? ⟨ab, ao + i * 3, none⟩ = some (.int .i64 a.k) ∧ w.cell? ⟨ab, ao + i * 3 + 1, none⟩ = some (.int .i64 a.n) ∧ w.cell? ⟨ab, ao + i * 3 + 2, none⟩ = some (.slice S a.al.length m) ∧ argsIn w w.heap.size a (.slice S a.al.length m) := by
  obtain ⟨A', cap', e, -, -, h⟩ := argsIn_iff.1 hs
  cases e
  have hl := (List.getElem?_eq_some_iff.1 ha).1
  obtain ⟨ab, ao, rfl, -, hc⟩ := h (by intro e; rw [e] at hl; simp at hl)
  obtain ⟨S, m, c1, c2, c3, c4⟩ := hc.at_ ha
  exact ⟨ab, ao, S, m, rfl, hl, c1, c2, c3, c4⟩

theorem clos1_any (ds : List ND) (f : Nat) (hV : ValueC ds f) (t a : T) (e : List Val) (v : Val) (D ev : Value) (A : Option Addr) (cap g i : Nat) (w w1 : World) (hF : VF ds t e D (.slice A t.al.length cap) ev g w w1) (ha : t.al[i]? = some a) (_hi : i ≤ 1000000)
    (hv : evalP (ds.map Prod.snd) f (.value a e) = some v) :
    Calls Tryz.prog 54 #[.int .i64 i, .pointer (some ⟨g, 0, none⟩), .pointer (some ⟨g + 1, 0, none⟩), .pointer (some ⟨g + 2, 0, none⟩)] w1 (VPost v w1) := by
  obtain ⟨ab, ao, S, m, rfl, hl, c1, c2, c3, c4⟩ := vf_arg hF.1.2.1 ha
  obtain ⟨DA, dcap, rfl, -⟩ := id hF.1.1
  obtain ⟨ea, rfl⟩ := hF.1.2.2.form
  have hd := (Below.refl w1.heap.size w1).drew
  have HCALL := Lib.hid (hV a e v w1.drew _ _ _ hv (hF.1.1.keep hd) (c4.keep hd.size hd) (hF.1.2.2.keep hd))
  have k0 := hF.2.1.cell 0
  have k2 := hF.2.2.1.cell 2
  have k3 := hF.2.2.2.1.cell 0
  simp only [List.getElem?_toArray, List.getElem?_cons_zero, List.getElem?_cons_succ] at k0 k2 k3
  clear hV hF hv c4 hd ha
  go_enter Tryz.func54, Tryz.ntmps54
  go_wp2_with fail
  refine still_tail 7 (by kernel_rfl) (by kernel_rfl) ?_
  simp only [List.take_succ_cons, List.take_zero, List.drop_succ_cons, List.drop_zero]
  repeat still_step
  try refine wpStill_nil ?_
  go_wp2_with fail
  refine HCALL.out.mono ?_
  rintro e w2 ⟨p, rfl, hp, hb2⟩
  go_wp2_with fail
  go_ret
  exact ⟨p, rfl, hp, (Below.refl w1.heap.size w1).drew.trans hb2⟩

/-- behind a call that answers a closure -/
def CPost (c : Clo) (w : World) (e : Ending) (w' : World) : Prop := ∃ s ev, e = .returned (.agg #[.int .i64 c.1.k, .int .i64 c.1.n, s, ev]) ∧ CloAt w' c s ev ∧ Below w.heap.size w w'
theorem clos2_any (ds : List ND) (t a : T) (e : List Val) (D ev : Value) (A : Option Addr) (cap g i : Nat) (w w1 : World) (hF : VF ds t e D (.slice A t.al.length cap) ev g w w1) (ha : t.al[i]? = some a) (_hi : i ≤ 1000000) :
    Calls Tryz.prog 55 #[.int .i64 i, .pointer (some ⟨g + 1, 0, none⟩), .pointer (some ⟨g + 2, 0, none⟩)] w1 (CPost (a, e) w1) := by
  obtain ⟨ab, ao, S, m, rfl, hl, c1, c2, c3, c4⟩ := vf_arg hF.1.2.1 ha
  obtain ⟨ea, rfl⟩ := hF.1.2.2.form
  have k2 := hF.2.2.1.cell 2
  have k3 := hF.2.2.2.1.cell 0
  simp only [List.getElem?_toArray, List.getElem?_cons_zero, List.getElem?_cons_succ] at k2 k3
  have HE := Lib.hid (And.intro c4 hF.1.2.2)
  have hlt2 := hF.2.2.1.lt
  have hlt3 := hF.2.2.2.1.lt
  have hlt4 := World.block_lt_of_cell? _ _ c1
  have hn1 : ab ≠ w1.heap.size := by have : ab < w1.heap.size := hlt4; omega
  have hn2 : g + 1 ≠ w1.heap.size := by omega
  have hn3 : g + 2 ≠ w1.heap.size := by omega
  clear hF c4 ha
  go_enter Tryz.func55, Tryz.ntmps55
  go_wp2_with fail
  go_region
  go_wp2_with fail
  have hb := ((Below.refl w1.heap.size w1).alloc (Nat.le_refl _) (.cells #[.int .i64 a.k, .int .i64 a.n, .slice S a.al.length m, .pointer ea] 100)).drew
  refine bodyPost_ret (v := .agg #[.int .i64 a.k, .int .i64 a.n, .slice S a.al.length m, .pointer ea]) (by simp [results, Tryz.results55, go_sem]) rfl ⟨_, _, rfl, ⟨HE.out.1.keep hb.size hb, HE.out.2.keep hb⟩, hb⟩

theorem VF.dcell {ds : List ND} {t : T} {e : List Val} {D s ev : Value} {g : Nat} {w w1 : World} (h : VF ds t e D s ev g w w1) : w1.cell? ⟨g, 0, none⟩ = some D := h.2.1.cell 0
theorem VF.tcell {ds : List ND} {t : T} {e : List Val} {D s ev : Value} {g : Nat} {w w1 : World} (h : VF ds t e D s ev g w w1) : w1.cell? ⟨g + 1, 0, none⟩ = some (.int .i64 t.k) ∧ w1.cell? ⟨g + 1, 1, none⟩ = some (.int .i64 t.n) ∧ w1.cell? ⟨g + 1, 2, none⟩ = some s := h.2.2.1.tri.1
theorem VF.v {ds : List ND} {f : Nat} {k n : Int} {al : List T} {a : T} {e : List Val} {v : Val} {D ev : Value} {A : Option Addr} {cap g : Nat} {w w1 : World} (h : VF ds (.mk k n al) e D (.slice A al.length cap) ev g w w1) (hV : ValueC ds f) (i : Nat) (hi : i ≤ 1000000) (ha : al[i]? = some a)
    (hv : evalP (ds.map Prod.snd) f (.value a e) = some v) {ii : Int} (hii : ii = (i : Int)) :
    Calls Tryz.prog 54 #[.int .i64 ii, .pointer (some ⟨g, 0, none⟩), .pointer (some ⟨g + 1, 0, none⟩), .pointer (some ⟨g + 1 + 1, 0, none⟩)] w1 (VPost v w1) := by
  subst hii
  exact clos1_any ds f hV (.mk k n al) a e v D ev A cap g i w w1 h ha hi hv
theorem VF.c {ds : List ND} {k n : Int} {al : List T} {a : T} {e : List Val} {D ev : Value} {A : Option Addr} {cap g : Nat} {w w1 : World} (h : VF ds (.mk k n al) e D (.slice A al.length cap) ev g w w1) (i : Nat) (hi : i ≤ 1000000) (ha : al[i]? = some a) {ii : Int} (hii : ii = (i : Int)) :
    Calls Tryz.prog 55 #[.int .i64 ii, .pointer (some ⟨g + 1, 0, none⟩), .pointer (some ⟨g + 1 + 1, 0, none⟩)] w1 (CPost (a, e) w1) := by
  subst hii
  exact clos2_any ds (.mk k n al) a e D ev A cap g i w w1 h ha hi
theorem drew_trans {w1 w2 : World} (h : Below w1.drew.heap.size w1.drew w2) : Below w1.heap.size w1 w2 := (Below.refl w1.heap.size w1).drew.trans h
end Go.Proofs.YtjboibbgigkhkaaGreatDoor

/- package eval: Value. -/
namespace Go.Proofs.YtjboibbgigkhkaaGreatDoor
open Go.RowKit
set_option maxRecDepth 100000

theorem kind_ne {k c : Int} (h : k ≠ c) : (k == c) = false := by simpa using h

theorem value_var (ds : List ND) (n : Int) (al : List T) (e : List Val) (v : Val) (w : World) (DA A ea : Option Addr) (dcap cap : Nat) (h0 : 0 ≤ n) (h1 : n < 1000) (hv : e[n.toNat]? = some v) (hD : DeclsAt w ds (.slice DA ds.length dcap)) (hs : argsIn w w.heap.size (.mk 1 n al) (.slice A al.length cap)) (he : EnvAt w e (.pointer ea)) :
    Calls Tryz.prog 29 #[.slice DA ds.length dcap, .agg #[.int .i64 1, .int .i64 n, .slice A al.length cap], .pointer ea] w (VPost v w) := by
  obtain ⟨m, rfl⟩ : ∃ m : Nat, n = m := ⟨n.toNat, by omega⟩
  have hF := vf_new hD hs he
  simp only [T.k, T.n] at hF
  have HCALL := Lib.hid (at_any e m v (by omega) (by simpa using hv) _ _ hF.1.2.2)
  have HB := Lib.hid hF.2.2.2.2
  clear hF hD hs he hv
  go_enter Tryz.func29, Tryz.ntmps29
  go_wp2_with fail
  refine HCALL.out.mono ?_
  rintro e w2 ⟨p, rfl, hp, hb2⟩
  go_wp2_with fail
  go_ret
  exact ⟨p, rfl, hp, HB.out.trans (hb2.mono HB.out.size)⟩

theorem value_def (ds : List ND) (f : Nat) (hV : ValueC ds f) (n : Int) (al : List T) (e : List Val) (v : Val) (d : ND) (w : World) (DA A ea : Option Addr) (dcap cap : Nat) (h0 : 0 ≤ n) (hd : ds[n.toNat]? = some d) (hv : evalP (ds.map Prod.snd) f (.value d.2.2 []) = some v) (hD : DeclsAt w ds (.slice DA ds.length dcap)) (hs : argsIn w w.heap.size (.mk 18 n al) (.slice A al.length cap)) (he : EnvAt w e (.pointer ea)) :
    Calls Tryz.prog 29 #[.slice DA ds.length dcap, .agg #[.int .i64 18, .int .i64 n, .slice A al.length cap], .pointer ea] w (VPost v w) := by
  obtain ⟨m, rfl⟩ : ∃ m : Nat, n = m := ⟨n.toNat, by omega⟩
  rw [Int.toNat_natCast] at hd
  have hml := (List.getElem?_eq_some_iff.1 hd).1
  have hml2 : (m : Int) < (ds.length : Int) := by omega
  have HP := Lib.hid (And.intro hD (And.intro hs he))
  have HV := Lib.hid (And.intro hV (And.intro hv hd))
  clear hD hs he hv hd hV
  go_enter Tryz.func29, Tryz.ntmps29
  go_wp2_with fail
  have hF := vf_new HP.out.1 HP.out.2.1 HP.out.2.2
  simp only [T.k, T.n] at hF
  generalize ((w.alloc (.cells #[.slice DA ds.length dcap] 23)).alloc (.cells #[.int .i64 18, .int .i64 (m : Int), .slice A al.length cap] 30)).alloc (.cells #[.pointer ea] 97) = w1 at *
  obtain ⟨A', cap', hAe, hca, hcm, hda⟩ := hF.1.1
  cases hAe
  obtain ⟨db, doff, rfl, hdc⟩ := hda (by intro e; rw [e] at hml; simp at hml)
  obtain ⟨s1, s2, -, -, ⟨c4, c5, c6⟩, -, hargs⟩ := hdc m d HV.out.2.2
  obtain ⟨SA, scap, rfl, -⟩ := argsIn_iff.1 hargs
  have hdr := (Below.refl w1.heap.size w1).drew
  have HCALL := Lib.hid (HV.out.1 d.2.2 [] v _ _ _ _ HV.out.2.1 (hF.1.1.keep hdr) (hargs.keep hdr.size hdr) (EnvAt.nil _))
  have HB := Lib.hid hF.2.2.2.2
  have k0 := hF.2.1.cell 0
  have k1 := hF.2.2.1.cell 1
  simp only [List.getElem?_toArray, List.getElem?_cons_zero, List.getElem?_cons_succ, T.k, T.n] at k0 k1
  clear hF hda hdc hargs hdr
  refine still_tail 7 (by kernel_rfl) (by kernel_rfl) ?_
  simp only [List.take_succ_cons, List.take_zero, List.drop_succ_cons, List.drop_zero]
  repeat still_step
  try refine wpStill_nil ?_
  go_wp2_with fail
  refine HCALL.out.mono ?_
  rintro e w2 ⟨p, rfl, hp, hb2⟩
  go_wp2_with fail
  go_ret
  exact ⟨p, rfl, hp, HB.out.trans (((Below.refl _ _).drew.trans hb2).mono HB.out.size)⟩

set_option maxHeartbeats 800000 in
theorem value_app (ds : List ND) (f : Nat) (hV : ValueC ds f) (hA : ApplyC ds f) (n : Int) (al : List T) (a b : T) (e : List Val) (x y v : Val) (w : World) (DA A ea : Option Addr) (dcap cap : Nat) (ha : al[0]? = some a) (hb : al[1]? = some b)
    (hx : evalP (ds.map Prod.snd) f (.value a e) = some x) (hy : evalP (ds.map Prod.snd) f (.value b e) = some y) (hv : evalP (ds.map Prod.snd) f (.apply x y) = some v)
    (hD : DeclsAt w ds (.slice DA ds.length dcap)) (hs : argsIn w w.heap.size (.mk 5 n al) (.slice A al.length cap)) (he : EnvAt w e (.pointer ea)) :
    Calls Tryz.prog 29 #[.slice DA ds.length dcap, .agg #[.int .i64 5, .int .i64 n, .slice A al.length cap], .pointer ea] w (VPost v w) := by
  have HP := Lib.hid (And.intro hD (And.intro hs he))
  have HV := Lib.hid (And.intro (And.intro hV hA) (And.intro (And.intro ha hb) (And.intro hx (And.intro hy hv))))
  clear hD hs he hV hA ha hb hx hy hv
  go_enter Tryz.func29, Tryz.ntmps29
  go_wp2_with fail
  have hF := vf_new HP.out.1 HP.out.2.1 HP.out.2.2
  simp only [T.k, T.n] at hF
  generalize ((w.alloc (.cells #[.slice DA ds.length dcap] 23)).alloc (.cells #[.int .i64 5, .int .i64 n, .slice A al.length cap] 30)).alloc (.cells #[.pointer ea] 97) = w1 at *
  have HF1 := Lib.hid hF
  have k0 := hF.dcell
  have HC0 := Lib.hid ((hF.more (Below.refl _ _).drew).v HV.out.1.1 0 (by decide) HV.out.2.1.1 HV.out.2.2.1 (ii := 0) rfl)
  clear hF
  go_region_held3 (fun w' => w'.cell? ⟨w.heap.size, 0, none⟩ = some (.slice DA ds.length dcap)) (go_keep)
    (first
      | ((with_reducible refine HC0.out.mono ?_); rintro e2 w2 ⟨xp, rfl, hx, hb2⟩; (obtain ⟨xb, rfl⟩ := hx.form); (have HF2 := Lib.hid (HF1.out.more (drew_trans hb2))); (have HX := Lib.hid hx); (have q0 := HF2.out.dcell); (have HC1 := Lib.hid (HF2.out.v HV.out.1.1 1 (by decide) HV.out.2.1.2 HV.out.2.2.2.1 (ii := 1) rfl)); clear hx hb2)
      | ((with_reducible refine HC1.out.mono ?_); rintro e3 w3 ⟨yp, rfl, hy, hb3⟩; (obtain ⟨yb, rfl⟩ := hy.form); (have HF3 := Lib.hid (HF2.out.more hb3)); (have q1 := HF3.out.dcell); (have HC2 := Lib.hid (HV.out.1.2 x y v w3 _ _ _ HV.out.2.2.2.2 HF3.out.1.1 (HX.out.keep hb3) hy)); clear hy hb3)
      | ((with_reducible refine HC2.out.mono ?_); rintro e4 w4 ⟨p, rfl, hp, hb4⟩; (have HF4 := Lib.hid (HF3.out.more hb4)); (have q2 := HF4.out.dcell); (have HPP := Lib.hid hp); clear hp hb4)
      | fail)
  go_wp2_with fail
  go_ret
  exact ⟨_, rfl, HPP.out, HF4.out.2.2.2.2⟩

set_option maxHeartbeats 800000 in
theorem value_part (ds : List ND) (f : Nat) (hV : ValueC ds f) (k n : Int) (hk : k = 8 ∨ k = 9) (al : List T) (a : T) (e : List Val) (x v : Val) (w : World) (DA A ea : Option Addr) (dcap cap : Nat) (ha : al[0]? = some a)
    (hx : evalP (ds.map Prod.snd) f (.value a e) = some x) (hv : partP k x = some v)
    (hD : DeclsAt w ds (.slice DA ds.length dcap)) (hs : argsIn w w.heap.size (.mk k n al) (.slice A al.length cap)) (he : EnvAt w e (.pointer ea)) :
    Calls Tryz.prog 29 #[.slice DA ds.length dcap, .agg #[.int .i64 k, .int .i64 n, .slice A al.length cap], .pointer ea] w (VPost v w) := by
  have HP := Lib.hid (And.intro hD (And.intro hs he))
  have HV := Lib.hid (And.intro hV (And.intro ha (And.intro hx hv)))
  have HKK := Lib.hid hk
  have h1 : (k == 1) = false := kind_ne (by omega)
  have h2 : (k == 18) = false := kind_ne (by omega)
  have h3 : (k == 5) = false := kind_ne (by omega)
  clear hD hs he hV ha hx hv
  rcases hk with h8 | h9
  all_goals
    first
      | have hk8 : (k == 8) = true := by simp [h8]
      | (have hk8 : (k == 8) = false := by simp [h9]
         have hk9 : (k == 9) = true := by simp [h9])
    try clear h8
    try clear h9
    go_enter Tryz.func29, Tryz.ntmps29
    go_wp2_with fail
    have hF := vf_new HP.out.1 HP.out.2.1 HP.out.2.2
    simp only [T.k, T.n] at hF
    generalize ((w.alloc (.cells #[.slice DA ds.length dcap] 23)).alloc (.cells #[.int .i64 k, .int .i64 n, .slice A al.length cap] 30)).alloc (.cells #[.pointer ea] 97) = w1 at *
    have HF1 := Lib.hid hF
    obtain ⟨k0, -⟩ := hF.tcell
    simp only [T.k] at k0
    have HC0 := Lib.hid ((hF.more (Below.refl _ _).drew).v HV.out.1 0 (by decide) HV.out.2.1 HV.out.2.2.1 (ii := 0) rfl)
    clear hF
    go_region_held3 (fun w' => w'.cell? ⟨w.heap.size + 1, 0, none⟩ = some (.int .i64 k)) (go_keep)
      (first
        | ((with_reducible refine HC0.out.mono ?_); rintro e2 w2 ⟨xp, rfl, hx, hb2⟩; (obtain ⟨xb, rfl⟩ := hx.form); (have HF2 := Lib.hid (HF1.out.more (drew_trans hb2))); (obtain ⟨q0, -⟩ := HF2.out.tcell); (simp only [T.k] at q0); (have HC1 := Lib.hid (part_any k HKK.out x v HV.out.2.2.2 w2 _ hx)); clear hx hb2)
        | ((with_reducible refine HC1.out.mono ?_); rintro e4 w4 ⟨p, rfl, hp, hb4⟩; (have HF4 := Lib.hid (HF2.out.more hb4)); (obtain ⟨q1, -⟩ := HF4.out.tcell); (simp only [T.k] at q1); (have HPP := Lib.hid hp); clear hp hb4)
        | fail)
    go_wp2_with fail
    go_ret
    exact ⟨_, rfl, HPP.out, HF4.out.2.2.2.2⟩

set_option maxHeartbeats 1600000 in
theorem value_rec (ds : List ND) (f : Nat) (hV : ValueC ds f) (hR : RecC ds f) (n : Int) (al : List T) (c z s m : T) (e : List Val) (x y v : Val) (w : World) (DA A ea : Option Addr) (dcap cap : Nat) (hc : al[0]? = some c) (hz : al[1]? = some z) (hs3 : al[2]? = some s) (hm : al[3]? = some m)
    (hx : evalP (ds.map Prod.snd) f (.value z e) = some x) (hy : evalP (ds.map Prod.snd) f (.value m e) = some y) (hv : evalP (ds.map Prod.snd) f (.recq (c, e) (s, e) x y) = some v)
    (hD : DeclsAt w ds (.slice DA ds.length dcap)) (hs : argsIn w w.heap.size (.mk 17 n al) (.slice A al.length cap)) (he : EnvAt w e (.pointer ea)) :
    Calls Tryz.prog 29 #[.slice DA ds.length dcap, .agg #[.int .i64 17, .int .i64 n, .slice A al.length cap], .pointer ea] w (VPost v w) := by
  have HP := Lib.hid (And.intro hD (And.intro hs he))
  have HV := Lib.hid (And.intro (And.intro hV hR) (And.intro (And.intro (And.intro hc hz) (And.intro hs3 hm)) (And.intro hx (And.intro hy hv))))
  clear hD hs he hV hR hc hz hs3 hm hx hy hv
  go_enter Tryz.func29, Tryz.ntmps29
  go_wp2_with fail
  have hF := vf_new HP.out.1 HP.out.2.1 HP.out.2.2
  simp only [T.k, T.n] at hF
  generalize ((w.alloc (.cells #[.slice DA ds.length dcap] 23)).alloc (.cells #[.int .i64 17, .int .i64 n, .slice A al.length cap] 30)).alloc (.cells #[.pointer ea] 97) = w1 at *
  have HF1 := Lib.hid hF
  have k0 := hF.dcell
  have HC0 := Lib.hid ((hF.more (Below.refl _ _).drew).c 0 (by decide) HV.out.2.1.1.1 (ii := 0) rfl)
  clear hF
  go_region_held3 (fun w' => w'.cell? ⟨w.heap.size, 0, none⟩ = some (.slice DA ds.length dcap)) (go_keep)
    (first
      | ((with_reducible refine HC0.out.mono ?_); rintro e2 w2 ⟨s2, v2, rfl, hx, hb2⟩; (obtain ⟨a2, rfl⟩ := hx.2.form); (obtain ⟨A2, cap2, rfl, -⟩ := argsIn_iff.1 hx.1); (have HF2 := Lib.hid (HF1.out.more (drew_trans hb2))); (have q0 := HF2.out.dcell); (have HX2 := Lib.hid hx); (have HC1 := Lib.hid (HF2.out.c 2 (by decide) HV.out.2.1.2.1 (ii := 2) rfl)); clear hx hb2)
      | ((with_reducible refine HC1.out.mono ?_); rintro e3 w3 ⟨s3, v3, rfl, hx, hb3⟩; (obtain ⟨a3, rfl⟩ := hx.2.form); (obtain ⟨A3, cap3, rfl, -⟩ := argsIn_iff.1 hx.1); (have HF3 := Lib.hid (HF2.out.more hb3)); (have q1 := HF3.out.dcell); (have HX3 := Lib.hid (And.intro (HX2.out.keep hb3) hx)); (have HC2 := Lib.hid (HF3.out.v HV.out.1.1 1 (by decide) HV.out.2.1.1.2 HV.out.2.2.1 (ii := 1) rfl)); clear hx hb3)
      | ((with_reducible refine HC2.out.mono ?_); rintro e4 w4 ⟨xp, rfl, hx, hb4⟩; (obtain ⟨xb, rfl⟩ := hx.form); (have HF4 := Lib.hid (HF3.out.more hb4)); (have q2 := HF4.out.dcell); (have HX4 := Lib.hid (And.intro (And.intro (HX3.out.1.keep hb4) (HX3.out.2.keep hb4)) hx)); (have HC3 := Lib.hid (HF4.out.v HV.out.1.1 3 (by decide) HV.out.2.1.2.2 HV.out.2.2.2.1 (ii := 3) rfl)); clear hx hb4)
      | ((with_reducible refine HC3.out.mono ?_); rintro e5 w5 ⟨yp, rfl, hy, hb5⟩; (obtain ⟨yb, rfl⟩ := hy.form); (have HF5 := Lib.hid (HF4.out.more hb5)); (have q3 := HF5.out.dcell); (have HC4 := Lib.hid (HV.out.1.2 (c, e) (s, e) x y v w5 _ _ _ _ _ _ _ HV.out.2.2.2.2 HF5.out.1.1 (HX4.out.1.1.keep hb5) (HX4.out.1.2.keep hb5) (HX4.out.2.keep hb5) hy)); clear hy hb5)
      | ((with_reducible refine HC4.out.mono ?_); rintro e6 w6 ⟨p, rfl, hp, hb6⟩; (have HF6 := Lib.hid (HF5.out.more hb6)); (have q4 := HF6.out.dcell); (have HPP := Lib.hid hp); clear hp hb6)
      | fail)
  go_wp2_with fail
  go_ret
  exact ⟨_, rfl, HPP.out, HF6.out.2.2.2.2⟩
end Go.Proofs.YtjboibbgigkhkaaGreatDoor

/- package eval: Value at what binds, and all the rest. -/
namespace Go.Proofs.YtjboibbgigkhkaaGreatDoor
open Go.RowKit
set_option maxRecDepth 100000

/-- values in a row -/
def RowV (w : World) (xs : List Val) (ps : Array Value) : Prop := ∀ (j : Nat) (x : Val), xs[j]? = some x → ∃ q, ps[j]? = some q ∧ ValAt w x q
theorem RowV.keep {w w' : World} {xs : List Val} {ps : Array Value} (h : RowV w xs ps) (hb : Below w.heap.size w w') : RowV w' xs ps := fun j x hx => by obtain ⟨q, a, b⟩ := h j x hx; exact ⟨q, a, b.keep hb⟩
theorem RowV.one {w : World} {x : Val} {p : Value} (h : ValAt w x p) : RowV w [x] #[p] := fun j y hy => by
  match j, hy with
  | 0, hy => cases hy; exact ⟨p, rfl, h⟩
  | j + 1, hy => simp at hy
theorem RowV.three {w : World} {x y z : Val} {p q r : Value} (h1 : ValAt w x p) (h2 : ValAt w y q) (h3 : ValAt w z r) : RowV w [x, y, z] #[p, q, r] := fun j u hu => by
  match j, hu with
  | 0, hu => cases hu; exact ⟨p, rfl, h1⟩
  | 1, hu => cases hu; exact ⟨q, rfl, h2⟩
  | 2, hu => cases hu; exact ⟨r, rfl, h3⟩
  | j + 3, hu => simp at hu

theorem val_bind {wf : World} {k : Int} {xs : List Val} {ps : Array Value} {m : Nat} {c : Clo} {s ev : Value} {ga gb gx : Nat} {ta tb tx : TypeId} (hm : xs.length = m) (hA : Blk wf ga ta ps) (hB : Blk wf gb tb #[.int .i64 c.1.k, .int .i64 c.1.n, s, ev])
    (hX : Blk wf gx tx #[.int .i64 k, .int .i64 0, .slice (some ⟨ga, 0, none⟩) m m, .slice (some ⟨gb, 0, none⟩) 1 1]) (hv : RowV wf xs ps) (hc : CloAt wf c s ev) : ValAt wf (.mk k 0 xs [c]) (.pointer (some ⟨gx, 0, none⟩)) := by
  subst hm
  refine ValAt.box (v := .mk k 0 xs [c]) hX (fun _ => args_row hA hv) (fun _ => clo_row hB fun j y hy => ?_)
  match j, hy with
  | 0, hy => cases hy; exact ⟨s, ev, ⟨rfl, rfl, rfl, rfl⟩, hc⟩
  | j + 1, hy => simp [Val.bs] at hy

section
variable {w3 : World} {k : Int} {xs : List Val} {ps : Array Value} {m : Nat} {c : Clo} {s ev : Value} {ga : Nat} {ta tb tx : TypeId}
theorem fin_A (hm : xs.length = m) (hA : Blk w3 ga ta ps) (hv : RowV w3 xs ps) (hc : CloAt w3 c s ev) :
    ValAt ((w3.alloc (.cells #[.int .i64 c.1.k, .int .i64 c.1.n, s, ev] tb)).alloc (.cells #[.int .i64 k, .int .i64 0, .slice (some ⟨ga, 0, none⟩) m m, .slice (some ⟨w3.heap.size, 0, none⟩) 1 1] tx)) (.mk k 0 xs [c]) (.pointer (some ⟨w3.heap.size + 1, 0, none⟩)) ∧
    Below w3.heap.size w3 ((w3.alloc (.cells #[.int .i64 c.1.k, .int .i64 c.1.n, s, ev] tb)).alloc (.cells #[.int .i64 k, .int .i64 0, .slice (some ⟨ga, 0, none⟩) m m, .slice (some ⟨w3.heap.size, 0, none⟩) 1 1] tx)) := by
  have e1 : (w3.alloc (.cells #[.int .i64 c.1.k, .int .i64 c.1.n, s, ev] tb)).heap.size = w3.heap.size + 1 := by simp
  have hb := ((Below.refl w3.heap.size w3).alloc (Nat.le_refl _) (.cells #[.int .i64 c.1.k, .int .i64 c.1.n, s, ev] tb)).alloc (by omega) (.cells #[.int .i64 k, .int .i64 0, .slice (some ⟨ga, 0, none⟩) m m, .slice (some ⟨w3.heap.size, 0, none⟩) 1 1] tx)
  have hX := Blk.new (w3.alloc (.cells #[.int .i64 c.1.k, .int .i64 c.1.n, s, ev] tb)) tx #[.int .i64 k, .int .i64 0, .slice (some ⟨ga, 0, none⟩) m m, .slice (some ⟨w3.heap.size, 0, none⟩) 1 1]
  rw [e1] at hX
  exact ⟨val_bind hm (hA.below hb hA.lt) ((Blk.new w3 tb _).alloc _) hX (hv.keep hb) (hc.keep hb), hb⟩
theorem fin_B1 (hm : xs.length = m) (hv : RowV w3 xs ps) (hc : CloAt w3 c s ev) :
    ValAt (((w3.alloc (.cells ps ta)).alloc (.cells #[.int .i64 c.1.k, .int .i64 c.1.n, s, ev] tb)).alloc (.cells #[.int .i64 k, .int .i64 0, .slice (some ⟨w3.heap.size, 0, none⟩) m m, .slice (some ⟨w3.heap.size + 1, 0, none⟩) 1 1] tx)) (.mk k 0 xs [c]) (.pointer (some ⟨w3.heap.size + 1 + 1, 0, none⟩)) ∧
    Below w3.heap.size w3 (((w3.alloc (.cells ps ta)).alloc (.cells #[.int .i64 c.1.k, .int .i64 c.1.n, s, ev] tb)).alloc (.cells #[.int .i64 k, .int .i64 0, .slice (some ⟨w3.heap.size, 0, none⟩) m m, .slice (some ⟨w3.heap.size + 1, 0, none⟩) 1 1] tx)) := by
  have e0 : (w3.alloc (.cells ps ta)).heap.size = w3.heap.size + 1 := by simp
  have hb0 := (Below.refl w3.heap.size w3).alloc (Nat.le_refl _) (.cells ps ta)
  have h := fin_A (w3 := w3.alloc (.cells ps ta)) (k := k) (tb := tb) (tx := tx) hm (Blk.new w3 ta ps) (hv.keep hb0) (hc.keep hb0)
  rw [e0] at h
  exact ⟨h.1, hb0.trans (h.2.mono (by omega))⟩
theorem fin_B2 (hm : xs.length = m) (hv : RowV w3 xs ps) (hc : CloAt w3 c s ev) :
    ValAt (((w3.alloc (.cells #[.int .i64 c.1.k, .int .i64 c.1.n, s, ev] tb)).alloc (.cells ps ta)).alloc (.cells #[.int .i64 k, .int .i64 0, .slice (some ⟨w3.heap.size + 1, 0, none⟩) m m, .slice (some ⟨w3.heap.size, 0, none⟩) 1 1] tx)) (.mk k 0 xs [c]) (.pointer (some ⟨w3.heap.size + 1 + 1, 0, none⟩)) ∧
    Below w3.heap.size w3 (((w3.alloc (.cells #[.int .i64 c.1.k, .int .i64 c.1.n, s, ev] tb)).alloc (.cells ps ta)).alloc (.cells #[.int .i64 k, .int .i64 0, .slice (some ⟨w3.heap.size + 1, 0, none⟩) m m, .slice (some ⟨w3.heap.size, 0, none⟩) 1 1] tx)) := by
  have e0 : (w3.alloc (.cells #[.int .i64 c.1.k, .int .i64 c.1.n, s, ev] tb)).heap.size = w3.heap.size + 1 := by simp
  have e1 : ((w3.alloc (.cells #[.int .i64 c.1.k, .int .i64 c.1.n, s, ev] tb)).alloc (.cells ps ta)).heap.size = w3.heap.size + 1 + 1 := by simp
  have hb := (((Below.refl w3.heap.size w3).alloc (Nat.le_refl _) (.cells #[.int .i64 c.1.k, .int .i64 c.1.n, s, ev] tb)).alloc (by omega) (.cells ps ta)).alloc (by omega) (.cells #[.int .i64 k, .int .i64 0, .slice (some ⟨w3.heap.size + 1, 0, none⟩) m m, .slice (some ⟨w3.heap.size, 0, none⟩) 1 1] tx)
  have hA := (Blk.new (w3.alloc (.cells #[.int .i64 c.1.k, .int .i64 c.1.n, s, ev] tb)) ta ps).alloc (.cells #[.int .i64 k, .int .i64 0, .slice (some ⟨w3.heap.size + 1, 0, none⟩) m m, .slice (some ⟨w3.heap.size, 0, none⟩) 1 1] tx)
  have hX := Blk.new ((w3.alloc (.cells #[.int .i64 c.1.k, .int .i64 c.1.n, s, ev] tb)).alloc (.cells ps ta)) tx #[.int .i64 k, .int .i64 0, .slice (some ⟨w3.heap.size + 1, 0, none⟩) m m, .slice (some ⟨w3.heap.size, 0, none⟩) 1 1]
  rw [e0] at hA
  rw [e1] at hX
  exact ⟨val_bind hm hA (((Blk.new w3 tb _).alloc _).alloc _) hX (hv.keep hb) (hc.keep hb), hb⟩
end

set_option maxHeartbeats 1600000 in
theorem value_bind (ds : List ND) (f : Nat) (hV : ValueC ds f) (k n : Int) (hk : k = 3 ∨ k = 4 ∨ k = 6) (al : List T) (a b : T) (e : List Val) (x : Val) (w : World) (DA A ea : Option Addr) (dcap cap : Nat) (ha : al[0]? = some a) (hb : al[1]? = some b)
    (hx : evalP (ds.map Prod.snd) f (.value a e) = some x)
    (hD : DeclsAt w ds (.slice DA ds.length dcap)) (hs : argsIn w w.heap.size (.mk k n al) (.slice A al.length cap)) (he : EnvAt w e (.pointer ea)) :
    Calls Tryz.prog 29 #[.slice DA ds.length dcap, .agg #[.int .i64 k, .int .i64 n, .slice A al.length cap], .pointer ea] w (VPost (.mk k 0 [x] [(b, e)]) w) := by
  have HP := Lib.hid (And.intro hD (And.intro hs he))
  have HV := Lib.hid (And.intro hV (And.intro (And.intro ha hb) hx))
  have h1 : (k == 1) = false := kind_ne (by omega)
  have h2 : (k == 18) = false := kind_ne (by omega)
  have h3 : (k == 5) = false := kind_ne (by omega)
  have h4 : (k == 8) = false := kind_ne (by omega)
  have h5 : (k == 9) = false := kind_ne (by omega)
  have h6 : (k == 17) = false := kind_ne (by omega)
  clear hD hs he hV ha hb hx
  rcases hk with h7 | h7 | h7
  all_goals
    first
      | have h8 : (k == 3) = true := by simp [h7]; done
      | (have h8 : (k == 3) = false := by simp [h7]; done
         first
           | have h9 : (k == 4) = true := by simp [h7]; done
           | (have h9 : (k == 4) = false := by simp [h7]; done
              have h10 : (k == 6) = true := by simp [h7]; done))
    clear h7
    go_enter Tryz.func29, Tryz.ntmps29
    go_wp2_with fail
    have hF := vf_new HP.out.1 HP.out.2.1 HP.out.2.2
    simp only [T.k, T.n] at hF
    generalize ((w.alloc (.cells #[.slice DA ds.length dcap] 23)).alloc (.cells #[.int .i64 k, .int .i64 n, .slice A al.length cap] 30)).alloc (.cells #[.pointer ea] 97) = w1 at *
    have HF1 := Lib.hid hF
    obtain ⟨k0, -⟩ := hF.tcell
    simp only [T.k] at k0
    have HC0 := Lib.hid ((hF.more (Below.refl _ _).drew).v HV.out.1 0 (by decide) HV.out.2.1.1 HV.out.2.2 (ii := 0) rfl)
    clear hF
    go_region_held3 (fun w' => w'.cell? ⟨w.heap.size + 1, 0, none⟩ = some (.int .i64 k)) (go_keep)
      (first
        | ((with_reducible refine HC0.out.mono ?_); rintro e2 w2 ⟨xp, rfl, hx, hb2⟩; (obtain ⟨xb, rfl⟩ := hx.form); (have hF2 := HF1.out.more (drew_trans hb2)); (have hba := (Below.refl w2.heap.size w2).alloc (Nat.le_refl _) (.cells #[.pointer (some ⟨xb, 0, none⟩)] 63)); (have HF2 := Lib.hid (And.intro hF2 (hF2.more hba))); (have HX := Lib.hid (And.intro hx (hx.keep hba))); (obtain ⟨q0, -⟩ := hF2.tcell); (simp only [T.k] at q0); (have HCB := Lib.hid (HF2.out.1.c 1 (by decide) HV.out.2.1.2 (ii := 1) rfl)); (have HCA := Lib.hid (HF2.out.2.c 1 (by decide) HV.out.2.1.2 (ii := 1) rfl)); clear hx hb2 hF2 hba)
        | ((with_reducible refine HCA.out.mono ?_); rintro e3 w3 ⟨s3, v3, rfl, hc, hb3⟩; (obtain ⟨a3, rfl⟩ := hc.2.form); (obtain ⟨A3, cap3, rfl, -⟩ := argsIn_iff.1 hc.1); (have HF3 := Lib.hid (HF2.out.2.more hb3)); (obtain ⟨q1, -⟩ := HF3.out.tcell); (simp only [T.k] at q1); (have HEA := Lib.hid (And.intro ((Blk.new w2 63 #[.pointer (some ⟨xb, 0, none⟩)]).below hb3 (by simp)) (And.intro (RowV.one (HX.out.2.keep hb3)) hc))); clear hc hb3)
        | ((with_reducible refine HCB.out.mono ?_); rintro e3 w3 ⟨s3, v3, rfl, hc, hb3⟩; (obtain ⟨a3, rfl⟩ := hc.2.form); (obtain ⟨A3, cap3, rfl, -⟩ := argsIn_iff.1 hc.1); (have HF3 := Lib.hid (HF2.out.1.more hb3)); (obtain ⟨q1, -⟩ := HF3.out.tcell); (simp only [T.k] at q1); (have HEB := Lib.hid (And.intro (RowV.one (HX.out.1.keep hb3)) hc)); clear hc hb3)
        | fail)
    all_goals go_wp2_with fail
    all_goals go_ret
    all_goals try (have hf := fin_A (k := k) (m := 1) (xs := [x]) (c := (b, e)) (tb := 100) (tx := 96) rfl HEA.out.1 HEA.out.2.1 HEA.out.2.2; exact ⟨_, rfl, hf.1, HF3.out.2.2.2.2.trans (hf.2.mono HF3.out.2.2.2.2.size)⟩)
    all_goals try (have hf := fin_B1 (k := k) (m := 1) (xs := [x]) (c := (b, e)) (ta := 63) (tb := 100) (tx := 96) rfl HEB.out.1 HEB.out.2; exact ⟨_, rfl, hf.1, HF3.out.2.2.2.2.trans (hf.2.mono HF3.out.2.2.2.2.size)⟩)
    all_goals (have hf := fin_B2 (k := k) (m := 1) (xs := [x]) (c := (b, e)) (ta := 63) (tb := 100) (tx := 96) rfl HEB.out.1 HEB.out.2; exact ⟨_, rfl, hf.1, HF3.out.2.2.2.2.trans (hf.2.mono HF3.out.2.2.2.2.size)⟩)
end Go.Proofs.YtjboibbgigkhkaaGreatDoor

/- package eval: Value at a pair. -/
namespace Go.Proofs.YtjboibbgigkhkaaGreatDoor
open Go.RowKit
set_option maxRecDepth 100000

set_option maxHeartbeats 1600000 in
theorem value_pair (ds : List ND) (f : Nat) (hV : ValueC ds f) (n : Int) (al : List T) (a b c d : T) (e : List Val) (x y z : Val) (w : World) (DA A ea : Option Addr) (dcap cap : Nat) (ha : al[0]? = some a) (hb : al[1]? = some b) (hc : al[2]? = some c) (hd : al[3]? = some d)
    (hx : evalP (ds.map Prod.snd) f (.value a e) = some x) (hy : evalP (ds.map Prod.snd) f (.value c e) = some y) (hz : evalP (ds.map Prod.snd) f (.value d e) = some z)
    (hD : DeclsAt w ds (.slice DA ds.length dcap)) (hs : argsIn w w.heap.size (.mk 7 n al) (.slice A al.length cap)) (he : EnvAt w e (.pointer ea)) :
    Calls Tryz.prog 29 #[.slice DA ds.length dcap, .agg #[.int .i64 7, .int .i64 n, .slice A al.length cap], .pointer ea] w (VPost (.mk 7 0 [x, y, z] [(b, e)]) w) := by
  have HP := Lib.hid (And.intro hD (And.intro hs he))
  have HV := Lib.hid (And.intro hV (And.intro (And.intro (And.intro ha hb) (And.intro hc hd)) (And.intro hx (And.intro hy hz))))
  clear hD hs he hV ha hb hc hd hx hy hz
  go_enter Tryz.func29, Tryz.ntmps29
  go_wp2_with fail
  have hF := vf_new HP.out.1 HP.out.2.1 HP.out.2.2
  simp only [T.k, T.n] at hF
  generalize ((w.alloc (.cells #[.slice DA ds.length dcap] 23)).alloc (.cells #[.int .i64 7, .int .i64 n, .slice A al.length cap] 30)).alloc (.cells #[.pointer ea] 97) = w1 at *
  have HF1 := Lib.hid hF
  obtain ⟨k0, -⟩ := hF.tcell
  simp only [T.k] at k0
  have HC0 := Lib.hid ((hF.more (Below.refl _ _).drew).v HV.out.1 0 (by decide) HV.out.2.1.1.1 HV.out.2.2.1 (ii := 0) rfl)
  clear hF
  go_region_held3 (fun w' => w'.cell? ⟨w.heap.size + 1, 0, none⟩ = some (.int .i64 7)) (go_keep)
    (first
      | ((with_reducible refine HC0.out.mono ?_); rintro e2 w2 ⟨xp, rfl, hx, hb2⟩; (obtain ⟨xb, rfl⟩ := hx.form); (have HF2 := Lib.hid (HF1.out.more (drew_trans hb2))); (have HX := Lib.hid hx); (obtain ⟨q0, -⟩ := HF2.out.tcell); (simp only [T.k] at q0); (have HC1 := Lib.hid (HF2.out.v HV.out.1 2 (by decide) HV.out.2.1.2.1 HV.out.2.2.2.1 (ii := 2) rfl)); clear hx hb2)
      | ((with_reducible refine HC1.out.mono ?_); rintro e3 w3 ⟨yp, rfl, hy, hb3⟩; (obtain ⟨yb, rfl⟩ := hy.form); (have HF3 := Lib.hid (HF2.out.more hb3)); (have HX3 := Lib.hid (And.intro (HX.out.keep hb3) hy)); (obtain ⟨q1, -⟩ := HF3.out.tcell); (simp only [T.k] at q1); (have HC2 := Lib.hid (HF3.out.v HV.out.1 3 (by decide) HV.out.2.1.2.2 HV.out.2.2.2.2 (ii := 3) rfl)); clear hy hb3)
      | ((with_reducible refine HC2.out.mono ?_); rintro e4 w4 ⟨zp, rfl, hz, hb4⟩; (obtain ⟨zb, rfl⟩ := hz.form); (have hF4 := HF3.out.more hb4); (have hba := (Below.refl w4.heap.size w4).alloc (Nat.le_refl _) (.cells #[.pointer (some ⟨xb, 0, none⟩), .pointer (some ⟨yb, 0, none⟩), .pointer (some ⟨zb, 0, none⟩)] 63)); (have HF4 := Lib.hid (And.intro hF4 (hF4.more hba))); (have hx4 := RowV.three (HX3.out.1.keep hb4) (HX3.out.2.keep hb4) hz); (have HX4 := Lib.hid (And.intro hx4 (hx4.keep hba))); (obtain ⟨q2, -⟩ := hF4.tcell); (simp only [T.k] at q2); (have HCB := Lib.hid (HF4.out.1.c 1 (by decide) HV.out.2.1.1.2 (ii := 1) rfl)); (have HCA := Lib.hid (HF4.out.2.c 1 (by decide) HV.out.2.1.1.2 (ii := 1) rfl)); clear hz hb4 hF4 hx4 hba)
      | ((with_reducible refine HCA.out.mono ?_); rintro e5 w5 ⟨s3, v3, rfl, hc, hb5⟩; (obtain ⟨a3, rfl⟩ := hc.2.form); (obtain ⟨A3, cap3, rfl, -⟩ := argsIn_iff.1 hc.1); (have HF5 := Lib.hid (HF4.out.2.more hb5)); (obtain ⟨q3, -⟩ := HF5.out.tcell); (simp only [T.k] at q3); (have HEA := Lib.hid (And.intro ((Blk.new w4 63 #[.pointer (some ⟨xb, 0, none⟩), .pointer (some ⟨yb, 0, none⟩), .pointer (some ⟨zb, 0, none⟩)]).below hb5 (by simp)) (And.intro (HX4.out.2.keep hb5) hc))); clear hc hb5)
      | ((with_reducible refine HCB.out.mono ?_); rintro e5 w5 ⟨s3, v3, rfl, hc, hb5⟩; (obtain ⟨a3, rfl⟩ := hc.2.form); (obtain ⟨A3, cap3, rfl, -⟩ := argsIn_iff.1 hc.1); (have HF5 := Lib.hid (HF4.out.1.more hb5)); (obtain ⟨q3, -⟩ := HF5.out.tcell); (simp only [T.k] at q3); (have HEB := Lib.hid (And.intro (HX4.out.1.keep hb5) hc)); clear hc hb5)
      | fail)
  all_goals go_wp2_with fail
  all_goals go_ret
  all_goals try (have hf := fin_A (k := 7) (m := 3) (xs := [x, y, z]) (c := (b, e)) (tb := 100) (tx := 96) rfl HEA.out.1 HEA.out.2.1 HEA.out.2.2; exact ⟨_, rfl, hf.1, HF5.out.2.2.2.2.trans (hf.2.mono HF5.out.2.2.2.2.size)⟩)
  all_goals try (have hf := fin_B1 (k := 7) (m := 3) (xs := [x, y, z]) (c := (b, e)) (ta := 63) (tb := 100) (tx := 96) rfl HEB.out.1 HEB.out.2; exact ⟨_, rfl, hf.1, HF5.out.2.2.2.2.trans (hf.2.mono HF5.out.2.2.2.2.size)⟩)
  all_goals (have hf := fin_B2 (k := 7) (m := 3) (xs := [x, y, z]) (c := (b, e)) (ta := 63) (tb := 100) (tx := 96) rfl HEB.out.1 HEB.out.2; exact ⟨_, rfl, hf.1, HF5.out.2.2.2.2.trans (hf.2.mono HF5.out.2.2.2.2.size)⟩)
end Go.Proofs.YtjboibbgigkhkaaGreatDoor

