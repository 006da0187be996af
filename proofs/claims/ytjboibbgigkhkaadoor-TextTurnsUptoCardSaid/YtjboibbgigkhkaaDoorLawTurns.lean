/- sklaw3.TextTurns answers true. -/
import Derived.Test.YtjboibbgigkhkaaDoorPAlive
import Derived.Test.YtjboibbgigkhkaaDoorBound
import Derived.Test.YtjboibbgigkhkaaDoorWrong
import Derived.Test.YtjboibbgigkhkaaDoorRName
import Derived.Test.YtjboibbgigkhkaaDoorMapB
import Derived.Maps.OwnOps
namespace Go.Proofs.YtjboibbgigkhkaaDoor
set_option maxRecDepth 100000
open Go.RowKit Go.Maps Go.WideMaps

theorem canon_dig (n : Int) (h0 : 0 ≤ n) (h1 : n < 4) : canon (dig n) = some n := by
  have : n = 0 ∨ n = 1 ∨ n = 2 ∨ n = 3 := by omega
  rcases this with rfl | rfl | rfl | rfl <;> decide +kernel

/-- what came in, as it lies; R: a block apart -/
def TFr (w : World) (t : T) (A : Option Addr) (cap : Nat) (bound decls : List Str) (bv dv : Value) (R : Nat) (w1 : World) : Prop :=
  Boxed w.heap.size t A cap w1 ∧ Strs w1 R bound bv ∧ Strs w1 R decls dv ∧ Vars w1 ∧ Below w.heap.size w w1 ∧ w.heap.size < R ∧ 8 ≤ w.heap.size
section
variable {w w1 w2 : World} {t : T} {A : Option Addr} {cap R : Nat} {bound decls : List Str} {bv dv : Value}
theorem TFr.but (h : TFr w t A cap bound decls bv dv R w1) (hb : But R w1.heap.size w1 w2) : TFr w t A cap bound decls bv dv R w2 := by
  obtain ⟨⟨k1, k2, k3⟩, h2, h3, h4, h5, h6, h7⟩ := h
  refine ⟨⟨k1.but hb k3 (by omega), ?_, Nat.lt_of_lt_of_le k3 hb.size⟩, h2.but hb, h3.but hb, h4.but hb (by omega) (by have := h5.size; omega), h5.trans (hb.below h5.size (by omega)), h6, h7⟩
  exact k2.keep (Nat.le_refl _) (hb.below (Nat.le_of_lt k3) (by omega))
theorem TFr.more (h : TFr w t A cap bound decls bv dv R w1) (hb : Below w1.heap.size w1 w2) : TFr w t A cap bound decls bv dv R w2 := h.but (but_of hb)
theorem TFr.bnd (h : TFr w t A cap bound decls bv dv R w1) : Strs w1 w1.heap.size bound bv := h.2.1.any (Nat.le_refl _)
theorem TFr.dcl (h : TFr w t A cap bound decls bv dv R w1) : Strs w1 w1.heap.size decls dv := h.2.2.1.any (Nat.le_refl _)
end

theorem grown_but {w w' : World} {R : Nat} (h : w.grownBy w' (some R)) : But R w.heap.size w w' := ⟨h.os, h.tape, h.output, h.size, fun k hk hx => h.block k hk (fun e => hx (by injection e))⟩
theorem below_grown {w w' : World} (h : Below w.heap.size w w') : w.grownBy w' none := ⟨h.os, h.tape, h.output, h.size, fun k hk _ => h.block k hk⟩

/-- names, unlike, none of which begins with x -/
def Fine (l : List Str) : Prop := (∀ x ∈ l, isName x = true) ∧ (∀ x ∈ l, x.head? ≠ some 120) ∧ l.Nodup
theorem fine_more {l : List Str} {x : Str} (h : Fine l) (h1 : isName x = true) (h2 : x.head? ≠ some 120) (h3 : x ∉ l) : Fine (l ++ [x]) := by
  refine ⟨fun y hy => ?_, fun y hy => ?_, ?_⟩
  · rcases List.mem_append.1 hy with hy | hy
    · exact h.1 y hy
    · rw [List.mem_singleton.1 hy]; exact h1
  · rcases List.mem_append.1 hy with hy | hy
    · exact h.2.1 y hy
    · rw [List.mem_singleton.1 hy]; exact h2
  · rw [List.nodup_append]
    exact ⟨h.2.2, by simp, fun a ha b hb => by rw [List.mem_singleton.1 hb]; intro e; exact h3 (e ▸ ha)⟩

theorem lawMap : Keyed Tryd.prog 9 := string_keyed Tryd.underlying9
theorem zeroB (w : World) : (zeroValue 4).run Tryd.prog w = .ok (.bool false) w := by kernel_rfl

set_option maxHeartbeats 3200000 in
theorem lawturns_any (s : Str) (t : T) (bound decls : List Str) (w : World) (ts bv dv : Value) (hV : Vars w) (ht : argsIn w w.heap.size t ts) (hb : Strs w w.heap.size bound bv) (hd : Strs w w.heap.size decls dv) (hs : s.length ≤ 100000000)
    (hbl : bound.length ≤ 100000000) (hdl : decls.length ≤ 100000000) (hbs : ∀ x ∈ bound ++ decls, x.length ≤ 100000000) :
    Calls Tryd.prog 5 #[.string ⟨s.toArray⟩, .agg #[.int .i64 t.k, .int .i64 t.n, ts], bv, dv] w (BoolPost true w) := by
  obtain ⟨A, cap, rfl, -⟩ := argsIn_iff.1 ht
  obtain ⟨BA, bcap, rfl, -⟩ := id hb
  obtain ⟨DA, dcap, rfl, -⟩ := id hd
  obtain ⟨i0, hi0, hz0, hz1, hz2⟩ := info_parts Tryd.infoStr
  have hb0 := (Below.refl w.heap.size w).alloc (Nat.le_refl _) (.cells #[.int .i64 t.k, .int .i64 t.n, .slice A t.al.length cap] 24)
  have HB0 := Lib.hid hb0
  have HX0 := Lib.hid (Boxed.new ht)
  have HV := Lib.hid hV
  have HB := Lib.hid (And.intro hb hd)
  have HBS := Lib.hid hbs
  clear ht hb hd hV hb0 hbs
  have hmm := @run_makeMap Tryd.prog
  go_enter Tryd.func5, Tryd.ntmps5
  go_wp2_with fail
  refine (palive_any _ (HV.out.below HB0.out)).mono ?_
  rintro e w1 ⟨rfl, hb1⟩
  have hbb := HB0.out.trans (hb1.mono HB0.out.size)
  have HF1 := Lib.hid (show TFr w t A cap bound decls (.slice BA bound.length bcap) (.slice DA decls.length dcap) w1.heap.size w1 from
    ⟨HX0.out.more hb1, HB.out.1.keep' hbb, HB.out.2.keep' hbb, HV.out.below hbb, hbb, by have := hb1.size; simp at this; omega, HV.out.1⟩)
  clear hbb hb1 HX0 HB HV HB0
  have hwm := (Below.refl w1.heap.size w1).alloc (Nat.le_refl _) (.map #[] 0)
  have HM2 := Lib.hid (World.ownsMap_made w1 Tryd.prog 9 (plainElem (H := Unit) Tryd.prog 4))
  have HF2 := Lib.hid (HF1.out.more hwm)
  clear hwm
  have hs2 : (w1.alloc (.map #[] 0)).heap.size = w1.heap.size + 1 := by simp
  have hm1 : 0 + bound.length ≤ maxLen := by unfold maxLen; omega
  have hm2 : (0 + bound.length) * 16 ≤ 140737488355328 := by omega
  have HRD := Lib.hid (HF2.out.bnd.reads.alloc (Nat.le_refl _) (.cells #[] 9))
  have HOW := Lib.hid (own_empty (w1.alloc (.map #[] 0)) (w1.heap.size + 1) (by simp) 9)
  go_wp2_with (first | (at_builtin; go_loud (refine wpList_append_any _ rfl (.tmp 22) (.tmp 23) 36 rfl (w1.heap.size + 1) 9 i0 (.string ⟨#[]⟩) 1 16 Tryd.underlying36 hi0 hz0 hz1 hz2 rfl (by decide) _ 0 [] rfl (hs2 ▸ HOW.out) (w1.alloc (.map #[] 0)).heap.size BA bound.length bcap (strc bound) rfl HRD.out (strc_one _) hm1 hm2 (by simp) ?_)))
  intro V1 wa hown1 hgr1 hloc1
  have hba1 := ((Below.refl (w1.alloc (.map #[] 0)).heap.size (w1.alloc (.map #[] 0))).alloc (Nat.le_refl _) (.cells #[] 9)).grown hgr1 (by simp) (by intro k hk; simp [Value.ownBlock] at hk; simp; omega)
  have HBA1 := Lib.hid hba1
  have HF3 := Lib.hid (HF2.out.more hba1)
  have hown1 : wa.ownsRow (w1.heap.size + 1) 9 1 V1 bound.length (strc bound) := by simpa using hown1
  obtain ⟨A1, cap1, rfl⟩ := own_form hown1
  have HO1 := Lib.hid hown1
  have hsa : w1.heap.size + 1 ≤ wa.heap.size := by have := hba1.size; simp at this; omega
  have hl1 : bound.length + decls.length ≤ maxLen := by unfold maxLen; omega
  have hl2 : (bound.length + decls.length) * 16 ≤ 140737488355328 := by omega
  have HRD2 := Lib.hid HF3.out.dcl.reads
  clear hown1 hgr1 hloc1 hba1 HRD HOW hm1 hm2
  go_wp2_with (first | (at_builtin; go_loud (refine wpList_append_any _ rfl (.tmp 24) (.tmp 25) 36 rfl (w1.heap.size + 1) 9 i0 (.string ⟨#[]⟩) 1 16 Tryd.underlying36 hi0 hz0 hz1 hz2 rfl (by decide) _ bound.length (strc bound) rfl HO1.out wa.heap.size DA decls.length dcap (strc decls) rfl HRD2.out (strc_one _) hl1 hl2 hsa ?_)))
  intro V2 wb hown2 hgr2 hloc2
  have hbb := HBA1.out.grown hgr2 (by rw [hs2]; exact hsa) (fun g hg => by rw [hs2]; exact (HO1.out.lt g hg).1)
  have hM4 := HM2.out.kept (below_grown hbb) (by simp)
  have hF4 := HF2.out.more hbb
  obtain ⟨L, hL⟩ : ∃ L, bound ++ decls = L := ⟨_, rfl⟩
  have hLl : bound.length + decls.length = L.length := by rw [← hL, List.length_append]
  have hLc : strc bound ++ strc decls = strc L := by rw [← hL]; simp [strc]
  rw [hLl, hLc] at hown2
  obtain ⟨A2, cap2, rfl⟩ := own_form hown2
  have hS4 := Strs.own (R := w1.heap.size) hown2 (by omega)
  have HLL := Lib.hid (And.intro hL hLl)
  have hbs := HBS.out
  rw [hL] at hbs
  have HBL := Lib.hid hbs
  have hLb : L.length ≤ 200000000 := by omega
  clear hbb hown2 hgr2 hloc2 HM2 HF2 HBA1 HF3 HO1 HRD2 hl1 hl2 hLc hL hLl HBS hbs hs2
  go_wp2_with fail
  go_loopw [28] (fun iv wr => ∃ (k : Nat) (D : DataW Unit), k ≤ L.length ∧ iv = .int .i64 k ∧ wr.ownsMap Tryd.prog 9 (plainElem Tryd.prog 4) w1.heap.size k D ∧ Had D (L.take k) ∧ Fine (L.take k) ∧ Strs wr w1.heap.size L (.slice A2 L.length cap2) ∧
    TFr w t A cap bound decls (.slice BA bound.length bcap) (.slice DA decls.length dcap) w1.heap.size wr) (fun iv _ => L.length - (intOf iv).toNat)
  case atStart => exact ⟨0, .map [], Nat.zero_le _, rfl, hM4, had_none, ⟨by simp, by simp, by simp⟩, hS4, hF4⟩
  case round =>
    obtain ⟨k, D, hk, rfl, hM, hD, hG, hS, hF⟩ := hrel
    clear hM4 hS4 hF4
    have HM := Lib.hid hM
    have HD := Lib.hid (And.intro hD hG)
    have HS := Lib.hid hS
    have HF := Lib.hid hF
    by_cases hlt : k < L.length
    · obtain ⟨bb, bo, rfl, cx, hbw⟩ := hS.at_ hlt
      obtain ⟨x, hx⟩ : ∃ x, L[k]? = some x := ⟨_, List.getElem?_eq_getElem hlt⟩
      rw [hx] at cx
      simp only [Option.getD_some] at cx
      have hxl := HBL.out x (List.mem_of_getElem? hx)
      have HX := Lib.hid hx
      clear hM hD hG hS hF hx
      go_wp2_with fail
      refine (rname_any x (by omega) wr).mono ?_
      rintro e w3 ⟨rfl, hb3⟩
      have HF3 := Lib.hid (HF.out.more hb3)
      have HM3 := Lib.hid (HM.out.kept (below_grown hb3) (by simp))
      have HS3 := Lib.hid (HS.out.but (but_of hb3))
      obtain ⟨nm, hnm⟩ : ∃ b, isName x = b := ⟨_, rfl⟩
      rw [hnm]
      have HNM := Lib.hid hnm
      clear hb3 HF HM HS cx
      cases nm with
      | false =>
        go_wp2_with fail
        refine bodyPost_ret (v := .bool true) (by simp [results, Tryd.results5, go_sem]) rfl ⟨rfl, HF3.out.2.2.2.2.1⟩
      | true =>
        obtain ⟨c, r, rfl⟩ : ∃ c r, x = c :: r := by
          cases x with
          | nil => exact absurd rfl (isName_iff hnm).1
          | cons c r => exact ⟨c, r, rfl⟩
        have hkb : 0 < (⟨(c :: r).toArray⟩ : ByteArray).size := by show 0 < (c :: r).length; simp
        have hl0 : (0 : Int) < ((c :: r).length : Int) := by simp
        clear hnm
        by_cases hc : c = 120
        · have hcb : (((((⟨(c :: r).toArray⟩ : ByteArray)[0]'hkb).toNat : Nat) : Int) == 120) = true := by subst hc; rfl
          clear hc
          go_wp2_with fail
          refine bodyPost_ret (v := .bool true) (by simp [results, Tryd.results5, go_sem]) rfl ⟨rfl, HF3.out.2.2.2.2.1⟩
        · have hcb : (((((⟨(c :: r).toArray⟩ : ByteArray)[0]'hkb).toNat : Nat) : Int) == 120) = false := by
            rw [beq_eq_false_iff_ne]
            intro e
            have e2 : ((c.toNat : Nat) : Int) = 120 := e
            exact hc (UInt8.toNat_inj.1 (by have h : (120 : UInt8).toNat = 120 := rfl; rw [h]; omega))
          have HC := Lib.hid hc
          have hkey : keyOf Tryd.prog 9 (.string ⟨(c :: r).toArray⟩) = some (.string (c :: r)) := by
            have h := keyOf_string_mk (P := Tryd.prog) Tryd.underlying9 (s := ⟨(c :: r).toArray⟩) (by show (c :: r).length ≤ maxLen; unfold maxLen; omega)
            simpa using h
          have HKEY := Lib.hid hkey
          have hat := HD.out.1.2 (c :: r)
          clear hc
          by_cases hin : c :: r ∈ L.take k
          · rw [decide_eq_true hin] at hat
            have hrun := own_look_bool HM3.out lawMap Tryd.underlying37 Tryd.underlying4 (zeroB _) hkey hat
            clear hat hkey hin
            go_wp2_with fail
            refine bodyPost_ret (v := .bool true) (by simp [results, Tryd.results5, go_sem]) rfl ⟨rfl, HF3.out.2.2.2.2.1⟩
          · rw [decide_eq_false hin] at hat
            have hrun := own_look_bool HM3.out lawMap Tryd.underlying37 Tryd.underlying4 (zeroB _) hkey hat
            have HIN := Lib.hid hin
            clear hat hkey hin
            have hkm : k < maxLen := by unfold maxLen; omega
            go_wp2_with (first | (at_mapUpdate; go_loud (refine wpList_mapUpdate_own _ rfl _ _ _ 37 rfl 9 4 lawMap Tryd.underlying37 _ w1.heap.size k D rfl HM3.out hkm _ _ _ rfl rfl HKEY.out _ [] (plainElem_bool Tryd.underlying4 true) ?_); intro w4 hown4 hgrow4))
            have hput := had_put HD.out.1 (c :: r)
            have htk : L.take (k + 1) = L.take k ++ [c :: r] := by rw [List.take_add_one, HX.out]; simp
            rw [← htk] at hput
            have hfine := fine_more HD.out.2 HNM.out (by simpa using HC.out) HIN.out
            rw [← htk] at hfine
            exact ⟨⟨k + 1, _, by omega, by go_num, hown4, hput, hfine, HS3.out.but (grown_but hgrow4), HF3.out.but (grown_but hgrow4)⟩, by simp [intOf]; omega⟩
    · obtain rfl : k = L.length := by omega
      rw [List.take_length] at hG
      have HG := Lib.hid hG
      clear hM hD hS hG hF HM HD HS
      by_cases h8 : 8 < bound.length
      · have h8' : (8 : Int) < (bound.length : Int) := by omega
        go_wp2_with fail
        refine bodyPost_ret (v := .bool true) (by simp [results, Tryd.results5, go_sem]) rfl ⟨rfl, HF.out.2.2.2.2.1⟩
      · have h8' : ¬ (8 : Int) < (bound.length : Int) := by omega
        have hgl := HG.out
        rw [← HLL.out.1] at hgl
        have HSC := Lib.hid (scope_of hgl.1 hgl.2.1 hgl.2.2)
        have HN8 := Lib.hid (And.intro (fun x hx => isName_short (hgl.1 x (List.mem_append_right _ hx)) : ∀ x ∈ decls, x.length ≤ 8) (fun x hx => isName_short (hgl.1 x (List.mem_append_left _ hx)) : ∀ x ∈ bound, x.length ≤ 8))
        clear hgl HG HBL
        go_upto_region 13 with fail
        go_cut [64] (fun v wc => ∃ q : Bool, v = .bool q ∧ (q = true → wrong t bound.length decls.length = 0 ∧ boundT t bound.length ≤ 8) ∧ TFr w t A cap bound decls (.slice BA bound.length bcap) (.slice DA decls.length dcap) w1.heap.size wc)
        case first =>
          obtain ⟨k0, k1, k2⟩ := HF.out.1.1.tri.1
          go_wp2_with fail
          refine (wrong_any t bound.length decls.length wr _ HF.out.1.arg (by omega) (by omega)).mono ?_
          rintro e w3 ⟨rfl, hb3⟩
          have HF3 := Lib.hid (HF.out.more hb3)
          obtain ⟨r, hr⟩ : ∃ r, wrong t bound.length decls.length = r := ⟨_, rfl⟩
          rw [hr]
          have HR := Lib.hid hr
          clear hb3 hr k0 k1 k2
          by_cases z : r = 0
          · have zb : (r == 0) = true := by simpa using z
            have Z := Lib.hid (HR.out.trans z)
            clear z
            obtain ⟨k0, k1, k2⟩ := HF3.out.1.1.tri.1
            go_wp2_with fail
            refine (rbound_any decls.length 24 t bound.length w3 _ HF3.out.1.arg (wrong_zero Z.out).1 (by omega) (by omega)).mono ?_
            rintro e w4 ⟨rfl, hb4⟩
            have HF4 := Lib.hid (HF3.out.more hb4)
            obtain ⟨q, hq⟩ : ∃ q, boundT t bound.length = q := ⟨_, rfl⟩
            rw [hq]
            have HQ := Lib.hid hq
            clear hb4 hq k0 k1 k2
            by_cases hle : q ≤ 8
            · go_wp2_with fail
              go_meet
              exact ⟨true, by simp [hle], fun _ => ⟨Z.out, by rw [HQ.out]; exact hle⟩, HF4.out⟩
            · go_wp2_with fail
              go_meet
              exact ⟨false, by simp [hle], fun h => (by cases h), HF4.out⟩
          · have zb : (r == 0) = false := by simpa using z
            clear z
            go_wp2_with fail
            go_meet
            exact ⟨false, rfl, fun h => (by cases h), HF3.out⟩
        case rest =>
          obtain ⟨q, rfl, hq, hF⟩ := hcut
          have HQ := Lib.hid hq
          have HF5 := Lib.hid hF
          clear hq hF
          go_upto_if 64 with fail
          go_cut [] (fun wd => TFr w t A cap bound decls (.slice BA bound.length bcap) (.slice DA decls.length dcap) w1.heap.size wd)
          case first =>
            cases q with
            | false =>
              go_wp2_with fail
              go_meet
              exact HF5.out
            | true =>
              obtain ⟨k0, k1, k2⟩ := HF5.out.1.1.tri.1
              obtain ⟨z1, z2⟩ := HQ.out rfl
              have hlk := (wrong_zero z1).1
              have hsz := (wrong_zero z1).2
              have hpl := (print_le HN8.out.1).1 t bound HN8.out.2
              obtain ⟨x, hx⟩ : ∃ x, printT decls t bound = x := ⟨_, rfl⟩
              rw [hx] at hpl
              have hxl : x.length ≤ 2000 := by omega
              have hpp := pprint_any decls (by omega) 24 t bound wc _ _ _ HF5.out.2.2.2.1 HF5.out.1.arg HF5.out.dcl HF5.out.bnd hlk (by omega) (by rw [hx]; omega)
              rw [hx] at hpp
              have hps : x.length ≤ 1500 → parse canon decls x bound = (t, 0) := fun h => hx ▸ parse_print canon_dig HSC.out hlk z2 (by rw [hx]; exact h)
              have HPP := Lib.hid hpp
              have HPS := Lib.hid hps
              clear z1 z2 hlk hsz hpl hpp hps hx
              go_wp2_with fail
              refine HPP.out.mono ?_
              rintro e w3 ⟨rfl, hb3⟩
              have HF6 := Lib.hid (HF5.out.more hb3)
              obtain ⟨⟨u, e0⟩, hu⟩ : ∃ r, parse canon decls x bound = r := ⟨_, rfl⟩
              have HU := Lib.hid hu
              clear hb3 HPP k0 k1 k2 hu
              go_wp2_with fail
              refine (pparse_any decls bound x w3 _ _ HF6.out.2.2.2.1 (by omega) HF6.out.dcl HF6.out.bnd (by omega) (by omega)).mono ?_
              rw [HU.out]
              rintro e w4 ⟨s4, rfl, hx4, hb4⟩
              dsimp only at hx4 ⊢
              obtain ⟨A4, cap4, rfl, -⟩ := argsInS_iff.1 hx4
              have HK4 := Lib.hid (Boxed.new (hx4.keep (S' := fun b => b < w4.heap.size) (fun b hb => hb.elim (fun h => h.elim) (fun h => h.2)) (fun _ _ => rfl)))
              have hbb := hb4.alloc hb4.size (.cells #[.int .i64 u.k, .int .i64 u.n, .slice A4 u.al.length cap4] 24)
              have HF7 := Lib.hid (HF6.out.more hbb)
              obtain ⟨k0, k1, k2⟩ := HF7.out.1.1.tri.1
              clear hx4 hb4 hbb
              by_cases h15 : x.length ≤ 1500
              · have hps := HPS.out h15
                rw [HU.out] at hps
                cases hps
                have h15' : (x.length : Int) ≤ 1500 := by omega
                go_wp2_with fail
                refine (same_any t t _ _ _ HF7.out.1.arg HK4.out.arg).mono ?_
                rw [same_refl]
                rintro e w5 ⟨rfl, hb5⟩
                have HF8 := Lib.hid (HF7.out.more hb5)
                clear hb5
                go_wp2_with fail
                go_meet
                exact HF8.out
              · have h15' : ¬ (x.length : Int) ≤ 1500 := by omega
                go_wp2_with fail
                go_meet
                exact HF7.out
          case rest =>
            have hF := hcut
            obtain ⟨⟨u, e0⟩, hu⟩ : ∃ r, parse canon decls s bound = r := ⟨_, rfl⟩
            have HU := Lib.hid hu
            have HF6 := Lib.hid hF
            clear hu hF hcut HQ HF5
            go_wp2_with fail
            refine (pparse_any decls bound s _ _ _ HF6.out.2.2.2.1 (by omega) HF6.out.dcl HF6.out.bnd (by omega) (by omega)).mono ?_
            rw [HU.out]
            rintro e w4 ⟨s4, rfl, hx4, hb4⟩
            dsimp only at hx4 ⊢
            obtain ⟨A4, cap4, rfl, -⟩ := argsInS_iff.1 hx4
            have HK4 := Lib.hid (Boxed.new (hx4.keep (S' := fun b => b < w4.heap.size) (fun b hb => hb.elim (fun h => h.elim) (fun h => h.2)) (fun _ _ => rfl)))
            have hbb := hb4.alloc hb4.size (.cells #[.int .i64 u.k, .int .i64 u.n, .slice A4 u.al.length cap4] 24)
            have HF7 := Lib.hid (HF6.out.more hbb)
            clear hx4 hb4 hbb
            by_cases he : e0 = 0
            · have heb : (e0 != 0) = false := by simpa using he
              subst he
              have hpr := parse_right (cn := canon) (decls := decls) (s := s) (b := bound) (by rw [HU.out])
              rw [HU.out] at hpr
              obtain ⟨-, hlk, hbt, hsz, hs15⟩ := hpr
              dsimp only at hlk hbt hsz
              have hwc := words_count s
              have hpl := (print_le HN8.out.1).1 u bound HN8.out.2
              obtain ⟨x, hx⟩ : ∃ x, printT decls u bound = x := ⟨_, rfl⟩
              rw [hx] at hpl
              have hxl : x.length ≤ 40000 := by omega
              have hps : x.length ≤ 1500 → parse canon decls x bound = (u, 0) := fun h => hx ▸ parse_print canon_dig HSC.out hlk hbt (by rw [hx]; exact h)
              have HPS := Lib.hid hps
              have HLK := Lib.hid (And.intro hlk hx)
              have hpp := pprint_any decls (by omega) 24 u bound _ _ _ _ HF7.out.2.2.2.1 HK4.out.arg HF7.out.dcl HF7.out.bnd hlk (by omega) (by rw [hx]; omega)
              rw [hx] at hpp
              have HPP := Lib.hid hpp
              clear hlk hbt hsz hs15 hwc hpl hps hpp hx
              go_wp2_with fail
              refine HPP.out.mono ?_
              rintro e w5 ⟨rfl, hb5⟩
              have HF8 := Lib.hid (HF7.out.more hb5)
              have HK5 := Lib.hid (HK4.out.more hb5)
              obtain ⟨⟨v, e1⟩, hv⟩ : ∃ r, parse canon decls x bound = r := ⟨_, rfl⟩
              have HVV := Lib.hid hv
              clear hb5 HPP hv
              go_wp2_with fail
              refine (pparse_any decls bound x w5 _ _ HF8.out.2.2.2.1 (by omega) HF8.out.dcl HF8.out.bnd (by omega) (by omega)).mono ?_
              rw [HVV.out]
              rintro e w6 ⟨s6, rfl, hx6, hb6⟩
              dsimp only at hx6 ⊢
              obtain ⟨A6, cap6, rfl, -⟩ := argsInS_iff.1 hx6
              have HK6 := Lib.hid (Boxed.new (hx6.keep (S' := fun b => b < w6.heap.size) (fun b hb => hb.elim (fun h => h.elim) (fun h => h.2)) (fun _ _ => rfl)))
              have hbb := hb6.alloc hb6.size (.cells #[.int .i64 v.k, .int .i64 v.n, .slice A6 v.al.length cap6] 24)
              have HF9 := Lib.hid (HF8.out.more hbb)
              have HK7 := Lib.hid (HK5.out.more hbb)
              obtain ⟨k0, k1, k2⟩ := HK7.out.1.tri.1
              clear hx6 hb6 hbb
              by_cases h15 : x.length ≤ 1500
              · have hps := HPS.out h15
                rw [HVV.out] at hps
                cases hps
                have h15' : ¬ (1500 : Int) < (x.length : Int) := by omega
                go_wp2_with fail
                refine (same_any u u _ _ _ HK7.out.arg HK6.out.arg).mono ?_
                rw [same_refl]
                rintro e w7 ⟨rfl, hb7⟩
                have HF10 := Lib.hid (HF9.out.more hb7)
                have HK8 := Lib.hid (HK6.out.more hb7)
                obtain ⟨l0, l1, l2⟩ := HK8.out.1.tri.1
                have hpp := pprint_any decls (by omega) 24 u bound _ _ _ _ HF10.out.2.2.2.1 HK8.out.arg HF10.out.dcl HF10.out.bnd HLK.out.1 (by omega) (by rw [HLK.out.2]; omega)
                rw [HLK.out.2] at hpp
                have HPP := Lib.hid hpp
                clear hb7 hpp
                go_wp2_with fail
                refine HPP.out.mono ?_
                rintro e w8 ⟨rfl, hb8⟩
                have HF11 := Lib.hid (HF10.out.more hb8)
                clear hb8
                go_wp2_with fail
                refine bodyPost_ret (v := .bool true) (by simp [results, Tryd.results5, go_sem]) rfl ⟨rfl, HF11.out.2.2.2.2.1⟩
              · have h15' : (1500 : Int) < (x.length : Int) := by omega
                go_wp2_with fail
                refine bodyPost_ret (v := .bool true) (by simp [results, Tryd.results5, go_sem]) rfl ⟨rfl, HF9.out.2.2.2.2.1⟩
            · have heb : (e0 != 0) = true := by simpa using he
              have hT := parse_wrong (cn := canon) (decls := decls) (s := s) (b := bound) (by rw [HU.out]; exact he)
              rw [HU.out] at hT
              dsimp only at hT
              subst hT
              clear he
              go_wp2_with fail
              refine bodyPost_ret (v := .bool true) (by simp [results, Tryd.results5, go_sem]; rfl) rfl ⟨rfl, HF7.out.2.2.2.2.1⟩
end Go.Proofs.YtjboibbgigkhkaaDoor
