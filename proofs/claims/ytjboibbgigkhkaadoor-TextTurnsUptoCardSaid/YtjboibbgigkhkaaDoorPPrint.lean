/- text.Print: a right term's text. -/
import Derived.Test.YtjboibbgigkhkaaDoorPPrintL
namespace Go.Proofs.YtjboibbgigkhkaaDoor
open Go.RowKit
set_option maxRecDepth 100000

set_option maxHeartbeats 1600000 in
theorem pprint_any (decls : List Str) (hdl : decls.length ≤ 1000000000000) : ∀ (f : Nat) (t : T) (bound : List Str) (w : World) (s bv D : Value), Vars w → argsIn w w.heap.size t s → Strs w w.heap.size decls D → Strs w w.heap.size bound bv →
    look decls.length t bound.length f = 0 → bound.length + 2 * f ≤ 1000000000 → (printT decls t bound).length ≤ 100000000000000 →
    Calls Tryd.prog 18 #[.agg #[.int .i64 t.k, .int .i64 t.n, s], bv, D] w (PrintPost (printT decls t bound) w) := by
  intro f
  induction f with
  | zero => intro t bound w s bv D _ _ _ _ hl; cases t; rw [look] at hl; cases hl
  | succ f ih =>
    intro t bound w s bv D hV hx hD hb hl hbl hpl
    obtain ⟨k, n, al⟩ := t
    obtain ⟨g, sh, e, hs, hal, h0, h1, hL⟩ := look_zero hl
    cases e
    obtain ⟨BA, bcap, rfl, -⟩ := id hb
    obtain ⟨DA, dcap, rfl, -⟩ := id hD
    obtain ⟨A, cap, rfl, -⟩ := argsIn_iff.1 hx
    have hb0 := (Below.refl w.heap.size w).alloc (Nat.le_refl _) (.cells #[.int .i64 k, .int .i64 n, .slice A al.length cap] 24)
    show Calls Tryd.prog _ #[.agg #[.int .i64 k, .int .i64 n, .slice A al.length cap], _, _] w _
    have hblk := Blk.new w 24 #[.int .i64 k, .int .i64 n, .slice A al.length cap]
    by_cases hn : al = []
    · subst hn
      have hsh : sh = [] := List.eq_nil_of_length_eq_zero hal.symm
      subst hsh
      have HPT := Lib.hid (show printT decls (.mk k n []) bound = leaf decls bound k n from by rw [printT]; rfl)
      have HB := Lib.hid (And.intro hV (And.intro hD hb))
      have HB0 := Lib.hid hb0
      clear ih hx hL hl hpl hb0 hV
      rcases leaf_kinds hs with rfl | rfl | rfl | h
      · have h1 : n < (bound.length : Int) := h1
        obtain ⟨m, rfl⟩ : ∃ m : Nat, n = m := ⟨n.toNat, by omega⟩
        have hi0 : 0 ≤ (bound.length : Int) - 1 - (m : Int) := by omega
        have hi1 : (bound.length : Int) - 1 - (m : Int) < (bound.length : Int) := by omega
        obtain ⟨bb, boff, rfl, hc, hbl2⟩ := hb.at_ (i := bound.length - 1 - m) (by omega)
        clear hD hb hs
        go_enter Tryd.func18, Tryd.ntmps18
        go_wp2_with fail
        go_ret
        rw [HPT.out]
        exact ⟨rfl, HB0.out⟩
      · have h1 : n < 4 := h1
        have HI := Lib.hid (itoa_any n (by omega) (by omega) (w.alloc (.cells #[.int .i64 2, .int .i64 n, .slice A ([] : List T).length cap] 24)) (HB.out.1.below HB0.out))
        have HR := Lib.hid (show leaf decls bound 2 n = 85 :: dig n from rfl)
        have HD := Lib.hid (itoa_dig h0 h1)
        have HU := Lib.hid (u_dig h0 h1)
        clear hD hb hs
        go_enter Tryd.func18, Tryd.ntmps18
        go_wp2_with fail
        refine HI.out.mono ?_
        rintro e w1 ⟨rfl, hb1⟩
        rw [HD.out]
        clear HI
        go_wp2_with fail
        go_ret
        rw [HPT.out, HR.out]
        exact ⟨by rw [HU.out]; rfl, HB0.out.trans (hb1.mono HB0.out.size)⟩
      · have h1 : n < (decls.length : Int) := h1
        obtain ⟨m, rfl⟩ : ∃ m : Nat, n = m := ⟨n.toNat, by omega⟩
        have hm1 : m < decls.length := by omega
        obtain ⟨bb, boff, rfl, hc, hbl2⟩ := hD.at_ (i := m) hm1
        have HR := Lib.hid (show leaf decls bound 18 (m : Int) = decls[m] from by
          show (decls[(m : Int).toNat]?).getD [] = _
          rw [Int.toNat_natCast, List.getElem?_eq_getElem hm1]
          rfl)
        clear hD hb hs
        go_enter Tryd.func18, Tryd.ntmps18
        go_wp2_with fail
        go_ret
        rw [HPT.out, HR.out]
        exact ⟨rfl, HB0.out⟩
      · have HR := Lib.hid (show leaf decls bound k n = word k.toNat from by
          unfold leaf
          rw [if_neg (by omega), if_neg (by omega), if_neg (by omega)])
        clear hD hb hs HB
        have hk1 : (k == 1) = false := by rw [beq_eq_false_iff_ne]; omega
        have hk2 : (k == 2) = false := by rw [beq_eq_false_iff_ne]; omega
        have hk18 : (k == 18) = false := by rw [beq_eq_false_iff_ne]; omega
        have hj0 : 1 ≤ k := by omega
        have hj1 : k ≤ 18 := by omega
        have hj2 : k - 1 < 18 := by omega
        have hj3 : 0 ≤ k - 1 := by omega
        have HJ := Lib.hid (show 0 + (k - 1).toNat = k.toNat - 1 by omega)
        have HK := Lib.hid (show 3 ≤ k ∧ k ≤ 17 ∧ k ≠ 5 by omega)
        have hwk : IntKind.i64.wrap (k - 1) = k - 1 := IntWalk.i64_in _ (by omega)
        clear h
        go_enter Tryd.func18, Tryd.ntmps18
        go_wp2_with fail
        obtain ⟨⟨p0, p1, p2⟩, -⟩ := hblk.tri
        have HS := Lib.hid (Blk.lt hblk)
        clear hblk
        generalize w.alloc (.cells #[.int .i64 k, .int .i64 n, .slice A ([] : List T).length cap] 24) = w1 at *
        go_region_law
          (first
            | (go_simp; (with_reducible refine (pwords18 _).mono ?_); rintro e w5 ⟨rfl, hc5, hb5, hz5⟩; (have hc6 := hc5 k HK.out.1 HK.out.2.1 HK.out.2.2); (rw [HJ.out] at hc6); (replace hc6 : w5.cell? ⟨w1.heap.size, k.toNat - 1, none⟩ = some (.string ⟨(word k.toNat).toArray⟩) := hc6); (have HB5 := Lib.hid hb5); (have k0 := (hb5.cell (p := ⟨w.heap.size, 0, none⟩) HS.out : _ = w1.cell? _).trans p0); (have HZ5 := Lib.hid hz5); clear hc5 hb5 hz5; go_wp2_with fail)
            | fail)
        all_goals go_wp2_with fail
        all_goals go_ret
        all_goals rw [HPT.out, HR.out]
        all_goals exact ⟨rfl, HB0.out.trans ((show Below w1.heap.size w1.drew w5 from HB5.out).mono HB0.out.size |> (Below.refl _ _).drew.trans)⟩
    · have hnk := node_kinds hs (by rintro rfl; exact hn (List.eq_nil_of_length_eq_zero hal))
      have HPT := Lib.hid (show printT decls (.mk k n al) bound = 40 :: (joinB (headW k ++ printL decls al sh bound) ++ [41]) from by
        rw [printT, if_neg (by simpa using hn), hs]
        rfl)
      have hpl2 := hpl
      rw [HPT.out] at hpl2
      simp only [List.length_cons, List.length_append, List.length_singleton] at hpl2
      have HPL := Lib.hid (show (joinB (headW k ++ printL decls al sh bound)).length ≤ 100000000000000 by omega)
      have hal0 : ((al.length : Int) == 0) = false := by
        have : 0 < al.length := List.length_pos_iff.2 hn
        rw [beq_eq_false_iff_ne]
        omega
      have hk1 : (k == 1) = false := by rw [beq_eq_false_iff_ne]; omega
      have hk2 : (k == 2) = false := by rw [beq_eq_false_iff_ne]; omega
      have hk18 : (k == 18) = false := by rw [beq_eq_false_iff_ne]; omega
      obtain ⟨A', cap', hAe, -, -, hA4⟩ := argsIn_iff.1 hx
      cases hAe
      obtain ⟨ab, aoff, rfl, hab, hcs⟩ := hA4 hn
      have HX := Lib.hid hcs
      have HV := Lib.hid hV
      have HDB := Lib.hid (And.intro hD hb)
      have HSH := Lib.hid hs
      have HAL := Lib.hid hal
      have HL := Lib.hid hL
      have IH := Lib.hid ih
      have HB0 := Lib.hid hb0
      have hsh4 : sh.length ≤ 4 := shape_len4 hs
      have HX4 := Lib.hid (shape_le hs)
      have hk17 : k ≤ 17 := by omega
      have hk3 : 3 ≤ k := by omega
      clear hpl hpl2 hnk hn hx hV hD hb hs hal hL ih hb0 hl hcs hA4
      go_enter Tryd.func18, Tryd.ntmps18
      go_upto_if 49 with fail
      go_cut [7] (fun v wc => wc.ownsRow (w.heap.size + 1) 9 1 v (headW k).length (strc (headW k)) ∧ Blk wc w.heap.size 24 #[.int .i64 k, .int .i64 n, .slice (some ⟨ab, aoff, none⟩) al.length cap] ∧ Below w.heap.size w wc ∧ w.heap.size < wc.heap.size)
      case first =>
        have hs1 : w.heap.size < (w.alloc (.cells #[.int .i64 k, .int .i64 n, .slice (some ⟨ab, aoff, none⟩) al.length cap] 24)).heap.size := by simp
        by_cases h5 : k = 5
        · have h5b : (k != 5) = false := by simpa using h5
          have HH := Lib.hid (show headW k = [] from by unfold headW; rw [if_pos h5])
          clear h5
          go_wp2_with fail
          go_meet
          rw [HH.out]
          exact ⟨World.ownsRow_nil _ _ _ _, hblk, HB0.out, hs1⟩
        · have h5b : (k != 5) = true := by simpa using h5
          have HH := Lib.hid (show headW k = [word k.toNat] from by unfold headW; rw [if_neg h5])
          have hj0 : 1 ≤ k := by omega
          have hj2 : k - 1 < 18 := by omega
          have hj3 : 0 ≤ k - 1 := by omega
          have HJ := Lib.hid (show 0 + (k - 1).toNat = k.toNat - 1 by omega)
          have HK := Lib.hid (show 3 ≤ k ∧ k ≤ 17 ∧ k ≠ 5 by omega)
          have hwk : IntKind.i64.wrap (k - 1) = k - 1 := IntWalk.i64_in _ (by omega)
          have HBL := Lib.hid hblk
          obtain ⟨⟨p0, p1, p2⟩, -⟩ := hblk.tri
          obtain ⟨i0, hi0, hz0, hz1, hz2⟩ := info_parts Tryd.infoStr
          have HS := Lib.hid hs1
          clear hblk h5 hs1
          go_wp2_with fail
          generalize w.alloc (.cells #[.int .i64 k, .int .i64 n, .slice (some ⟨ab, aoff, none⟩) al.length cap] 24) = w1 at *
          go_region_law
            (first
              | (refine step_append_any _ rfl (.tmp 50) (.tmp 57) 36 rfl (w.heap.size + 1) 9 i0 (.string ⟨#[]⟩) 1 16 Tryd.underlying36 hi0 hz0 hz1 hz2 rfl (by decide) (.slice none 0 0) 0 [] rfl (World.ownsRow_nil _ _ _ _) _ (some ⟨w5.heap.size, 0, none⟩) 1 1 [.string ⟨(word k.toNat).toArray⟩] rfl (reads_new w5 _ 9) (by intro u hu; simp at hu; subst hu; rfl) (by unfold maxLen; omega) (by omega) HZ6.out ?_; intro V9 w9 hown9 hgr9 _; (obtain ⟨A9, cap9, hV9⟩ := own_form hown9); (rw [show 0 + 1 = 1 from rfl] at hV9); subst hV9; (have HO9 := Lib.hid hown9); (have HG9 := Lib.hid hgr9); clear hown9 hgr9)
              | (go_simp; (with_reducible refine (pwords18 _).mono ?_); rintro e w5 ⟨rfl, hc5, hb5, hz5⟩; (have hc6 := hc5 k HK.out.1 HK.out.2.1 HK.out.2.2); (rw [HJ.out] at hc6); (replace hc6 : w5.cell? ⟨w1.heap.size, k.toNat - 1, none⟩ = some (.string ⟨(word k.toNat).toArray⟩) := hc6); (have HB5 := Lib.hid (show Below w1.heap.size w1.drew w5 from hb5)); (have k0 := (hb5.cell (p := ⟨w.heap.size, 0, none⟩) HS.out : _ = w1.cell? _).trans p0); (have HZ6 := Lib.hid (show w.heap.size + 1 ≤ (w5.alloc (.cells #[.string ⟨(word k.toNat).toArray⟩] 9)).heap.size from Nat.le_trans (Nat.le_trans HS.out HB5.out.size) (alloc_le w5 _))); clear hc5 hb5 hz5; go_wp2_with fail)
              | fail)
          all_goals
            have hb9 : Below w1.heap.size w1 w9 := (((Below.refl w1.heap.size w1).drew.trans HB5.out).alloc HB5.out.size (.cells #[.string ⟨(word k.toNat).toArray⟩] 9)).grown HG9.out (Nat.le_trans HB5.out.size (alloc_le w5 _)) (fun g hg => by simp [Value.ownBlock] at hg)
            have HE := Lib.hid (And.intro (HBL.out.below hb9 HS.out) (And.intro (HB0.out.trans (hb9.mono HB0.out.size)) (Nat.lt_of_lt_of_le HS.out hb9.size)))
            clear hb9
            go_wp2_with fail
            go_meet
            rw [HH.out]
            exact ⟨by have h := HO9.out; simpa [strc] using h, HE.out.1, HE.out.2.1, HE.out.2.2⟩
      case rest =>
        obtain ⟨hown, hB, hb, hsz⟩ := hcut
        obtain ⟨LA, lcap, hL7⟩ := own_form hown
        subst hL7
        have hnew := pnames_new k wc
        rw [HSH.out] at hnew
        simp only [Option.getD_some] at hnew
        have HNEW := Lib.hid hnew
        have HO := Lib.hid hown
        have HB := Lib.hid hB
        have HBW := Lib.hid hb
        obtain ⟨⟨p0, p1, p2⟩, -⟩ := hB.tri
        clear hnew hown hB hb hblk
        go_wp2_with fail
        refine HNEW.out.mono ?_
        rintro e wn ⟨s7, rfl, hi7, hb7⟩
        have hszn := hb7.size
        have hi8 := hi7.toB
        have hkeep : PKeep w wc.heap.size wn.heap.size sh s7 #[.int .i64 k, .int .i64 n, .slice (some ⟨ab, aoff, none⟩) al.length cap] wn := ⟨hi8, HB.out.below hb7 HB.out.lt, HBW.out.trans (hb7.mono HBW.out.size), Nat.le_refl _, hsz, hszn⟩
        have hrow : PRow w wc.heap.size wn.heap.size wn (.slice LA (headW k).length lcap) (headW k) := ⟨own_below HO.out hb7, fun g hg => .inl (HO.out.lt g hg).2⟩
        obtain ⟨NA, ncap, rfl, -⟩ := id hi7
        have hh1 : (headW k).length ≤ 1 := by unfold headW; split <;> simp
        clear hb7 hi7 hi8 HO HB HBW HNEW p0 p1 p2
        obtain ⟨lo, hlo⟩ : ∃ lo, wc.heap.size = lo := ⟨_, rfl⟩
        rw [hlo] at hkeep hrow
        obtain ⟨hi, hhi⟩ : ∃ hi, wn.heap.size = hi := ⟨_, rfl⟩
        rw [hhi] at hkeep hrow
        clear hlo hsz hszn hhi
        go_wp2_with fail
        go_loopw [7, 63] (fun lv iv wr => ∃ (j : Nat) (us : List Str), j ≤ sh.length ∧ iv = .int .i64 j ∧ PRow w lo hi wr lv us ∧ PKeep w lo hi sh (.slice NA sh.length ncap) #[.int .i64 k, .int .i64 n, .slice (some ⟨ab, aoff, none⟩) al.length cap] wr ∧ Hid (us ++ printL decls (al.drop j) (sh.drop j) bound = headW k ++ printL decls al sh bound) ∧ us.length ≤ 1 + 3 * j) (fun _ iv _ => sh.length - (intOf iv).toNat)
        case atStart => exact ⟨0, headW k, Nat.zero_le _, rfl, hrow, hkeep, Lib.hid rfl, by omega⟩
        case round =>
          obtain ⟨j, us, hj, rfl, hrow2, hkeep2, hrel2, hul⟩ := hrel
          clear hkeep hrow
          obtain ⟨A7, cap7, rfl⟩ := hrow2.form
          by_cases hlt : j < sh.length
          · obtain ⟨y, hy⟩ := length_getElem hlt
            obtain ⟨x, hx⟩ := length_getElem (show j < al.length by have := HAL.out; omega)
            have hy2 : y ≤ 2 := HX4.out y (List.mem_of_getElem? hy)
            obtain ⟨wi, rfl⟩ : ∃ x, x = wr := ⟨_, rfl⟩
            have hrel3 := hrel2.out
            rw [printL_at hx hy] at hrel3
            have HREL := Lib.hid hrel3
            have HK := Lib.hid hkeep2
            have HR := Lib.hid hrow2
            have HXY := Lib.hid (And.intro hx hy)
            obtain ⟨⟨NA', ncap', hNe, hNc⟩, hBk, hbw, hszi, hlo1, hlo2⟩ := hkeep2
            cases hNe
            obtain ⟨nb, noff, rfl, hnl, hnh, hnc⟩ := hNc j y hy
            have HCL := Lib.hid (clone_any wi.heap.size bound wi _ ((HDB.out.2.any (R' := wi.heap.size) hbw.size).but (but_of hbw)) (by omega))
            clear hrel3 hrel2 hrow2 hNc hBk hbw hx hy
            go_wp2_with fail
            refine HCL.out.mono ?_
            rintro e wa ⟨V2, rfl, hown2, hba⟩
            obtain ⟨A2, cap2, rfl⟩ := own_form hown2
            have hra := HR.out.below hba
            have hka := HK.out.below hba
            have hapa : Apart (.slice A7 us.length cap7) (.slice A2 bound.length cap2) := fun g hg e => absurd (HR.out.1.lt g hg).2 (by have := (hown2.lt g e).1; omega)
            have hsa := hba.size
            clear HCL hnc hba
            go_wp2_with fail
            go_loopw [7, 10, 71] (fun lv v2 i wv => ∃ (m : Nat) (us' l : List Str), m ≤ y ∧ i = .int .i64 m ∧ PRow w lo hi wv lv us' ∧ wv.ownsRow wi.heap.size 9 1 v2 l.length (strc l) ∧ Apart lv v2 ∧ PKeep w lo hi sh (.slice (some ⟨nb, noff, none⟩) sh.length ncap) #[.int .i64 k, .int .i64 n, .slice (some ⟨ab, aoff, none⟩) al.length cap] wv ∧ wi.heap.size ≤ wv.heap.size ∧
              Hid (l ++ fresh (y - m) l.length = bound ++ fresh y bound.length ∧ us' ++ fresh (y - m) l.length = us ++ fresh y bound.length) ∧ l.length = bound.length + m ∧ us'.length = us.length + m) (fun _ _ i _ => y - (intOf i).toNat)
            case atStart => exact ⟨0, us, bound, Nat.zero_le _, rfl, hra, hown2, hapa, hka, hsa, Lib.hid ⟨by simp, by simp⟩, rfl, rfl⟩
            case round =>
              obtain ⟨m, us', l, hm, rfl, hr1, ho2, hap, hk2, hwi, hrel4, hll, hul2⟩ := hrel
              clear hra hown2 hapa hka hsa
              obtain ⟨wv, rfl⟩ : ∃ x, x = wr := ⟨_, rfl⟩
              obtain ⟨A8, cap8, rfl⟩ := hr1.form
              obtain ⟨A9, cap9, rfl⟩ := own_form ho2
              have hlb : l.length ≤ 1000000002 := by omega
              have hub : us'.length ≤ 100 := by omega
              have HLL := Lib.hid (And.intro hll hul2)
              clear hll hul2
              by_cases hmy : m < y
              · obtain ⟨i0, hi0, hz0, hz1, hz2⟩ := info_parts Tryd.infoStr
                obtain ⟨r, c, he1, he2, he3, he4, he5, he6⟩ := xname_enc l.length
                have HE6 := Lib.hid he6
                clear he6
                have HO2 := Lib.hid (own_below ho2 ((Below.refl wv.heap.size wv).alloc (Nat.le_refl _) (.cells #[.string ⟨#[120, c]⟩] 9)))
                have hl1 : l.length + 1 ≤ maxLen := by unfold maxLen; omega
                have hl2 : (l.length + 1) * 16 ≤ 140737488355328 := by omega
                have HRD := Lib.hid (reads_new wv (.string ⟨#[120, c]⟩) 9)
                have HWI := Lib.hid (Nat.le_trans hwi (alloc_le wv (.cells #[.string ⟨#[120, c]⟩] 9)))
                have HO2b := Lib.hid ho2
                have HR1 := Lib.hid hr1
                have HK2 := Lib.hid hk2
                have HAP := Lib.hid hap
                clear ho2 hr1 hk2 hap
                go_wp2_with (first | (at_builtin; go_loud (refine wpList_append_any _ rfl (.tmp 73) (.tmp 81) 36 rfl wi.heap.size 9 i0 (.string ⟨#[]⟩) 1 16 Tryd.underlying36 hi0 hz0 hz1 hz2 rfl (by decide) _ l.length (strc l) rfl HO2.out (wv.alloc (.cells #[.string ⟨#[120, c]⟩] 9)).heap.size (some ⟨wv.heap.size, 0, none⟩) 1 1 [.string ⟨#[120, c]⟩] rfl HRD.out (by intro u hu; simp at hu; subst hu; rfl) hl1 hl2 HWI.out ?_)))
                intro V4 w9 hown9 hgr9 hloc9
                have hloc9' : V4.ownBlock = (Value.slice A9 l.length cap9).ownBlock ∨ V4.ownBlock = some (wv.alloc (.cells #[.string ⟨#[120, c]⟩] 9)).heap.size := by simpa using hloc9
                have hgr9' : (wv.alloc (.cells #[.string ⟨#[120, c]⟩] 9)).grownBy w9 (Value.slice A9 l.length cap9).ownBlock := hgr9
                obtain ⟨A4, cap4, rfl⟩ := own_form hown9
                obtain ⟨g4, rfl, hc4⟩ := own_last hown9 (by simp [strc])
                have hb8 := (Below.refl wv.heap.size wv).alloc (Nat.le_refl _) (.cells #[.string ⟨#[120, c]⟩] 9)
                obtain ⟨hr9, hap9⟩ := own_apart (HR1.out.below hb8).1 hgr9' HAP.out hloc9'
                have hlt4 : ∀ g, (Value.slice A9 l.length cap9).ownBlock = some g → wi.heap.size ≤ g := fun g hg => (HO2b.out.lt g hg).1
                have hk9 := (HK2.out.alloc (.cells #[.string ⟨#[120, c]⟩] 9)).grown hgr9' (fun g hg => by have := hlt4 g hg; exact ⟨by omega, .inr (by omega)⟩)
                have hs9 : wv.heap.size < w9.heap.size := by have := hgr9'.size; simp at this; omega
                have hr9' : PRow w lo hi w9 (.slice A8 us'.length cap8) us' := ⟨hr9, HR1.out.2⟩
                have HR9 := Lib.hid hr9'
                have HO9 := Lib.hid hown9
                have HK9 := Lib.hid hk9
                have HAP9 := Lib.hid hap9
                have HO10 := Lib.hid (own_below hr9 ((Below.refl w9.heap.size w9).alloc (Nat.le_refl _) (.cells #[.string ⟨#[120, c]⟩] 9)))
                have HRD9 := Lib.hid (reads_new w9 (.string ⟨#[120, c]⟩) 9)
                have hu1 : us'.length + 1 ≤ maxLen := by unfold maxLen; omega
                have hu2 : (us'.length + 1) * 16 ≤ 140737488355328 := by omega
                have HWB := Lib.hid (show w.heap.size + 1 ≤ (w9.alloc (.cells #[.string ⟨#[120, c]⟩] 9)).heap.size from Nat.le_trans (by omega) (alloc_le w9 _))
                clear hloc9 hloc9' hgr9 hgr9' hown9 hr9 hap9 hk9 hr9' hlt4 hb8 HO2 HRD HWI HR1 HK2 HAP HO2b hl1 hl2
                go_wp2_with (first | (at_builtin; go_loud (refine wpList_append_any _ rfl (.tmp 83) (.tmp 90) 36 rfl (w.heap.size + 1) 9 i0 (.string ⟨#[]⟩) 1 16 Tryd.underlying36 hi0 hz0 hz1 hz2 rfl (by decide) _ us'.length (strc us') rfl HO10.out (w9.alloc (.cells #[.string ⟨#[120, c]⟩] 9)).heap.size (some ⟨w9.heap.size, 0, none⟩) 1 1 [.string ⟨#[120, c]⟩] rfl HRD9.out (by intro u hu; simp at hu; subst hu; rfl) hu1 hu2 HWB.out ?_)))
                intro V5 w10 hown10 hgr10 hloc10
                have hloc10' : V5.ownBlock = (Value.slice A8 us'.length cap8).ownBlock ∨ V5.ownBlock = some (w9.alloc (.cells #[.string ⟨#[120, c]⟩] 9)).heap.size := by simpa using hloc10
                have hb10 := (Below.refl w9.heap.size w9).alloc (Nat.le_refl _) (.cells #[.string ⟨#[120, c]⟩] 9)
                obtain ⟨A5, cap5, rfl⟩ := own_form hown10
                have hs10 : w9.heap.size ≤ w10.heap.size := by have := hgr10.size; simp at this; omega
                have hin : hi ≤ (w9.alloc (.cells #[.string ⟨#[120, c]⟩] 9)).heap.size := Nat.le_trans HK9.out.2.2.2.1 (alloc_le w9 _)
                have hr10 : PRow w lo hi w10 (.slice A5 (us'.length + 1) cap5) (us' ++ [[120, c]]) := (HR9.out.below hb10).more hin hown10 hloc10'
                obtain ⟨ho10, hap10⟩ := own_apart (own_below HO9.out hb10) hgr10 (Apart.symm HAP9.out) hloc10'
                have hk10 := (HK9.out.alloc (.cells #[.string ⟨#[120, c]⟩] 9)).grown hgr10 (HR9.out.row)
                have ho10' : w10.ownsRow wi.heap.size 9 1 (.slice (some ⟨g4, 0, none⟩) (l.length + 1) cap4) (l ++ [[120, c]]).length (strc (l ++ [[120, c]])) := by simpa [strc] using ho10
                have hfr : fresh (y - m) l.length = [120, c] :: fresh (y - (m + 1)) (l.length + 1) := by
                  rw [show y - m = (y - (m + 1)) + 1 by omega, fresh, HE6.out]
                have hrel5 : (l ++ [[120, c]]) ++ fresh (y - (m + 1)) (l ++ [[120, c]]).length = bound ++ fresh y bound.length ∧ (us' ++ [[120, c]]) ++ fresh (y - (m + 1)) (l ++ [[120, c]]).length = us ++ fresh y bound.length := by
                  obtain ⟨h1, h2⟩ := hrel4.out
                  rw [hfr] at h1 h2
                  exact ⟨by rw [← h1]; simp, by rw [← h2]; simp⟩
                have HE := Lib.hid (And.intro hr10 (And.intro ho10' (And.intro (Apart.symm hap10) (And.intro hk10 (Nat.le_trans hwi (Nat.le_trans (Nat.le_of_lt hs9) hs10))))))
                have HREL5 := Lib.hid hrel5
                clear hloc10 hloc10' hb10 hgr10 hown10 hr10 ho10 hap10 hk10 ho10' hfr hrel5 HR9 HO9 HK9 HAP9 HO10 HRD9 hu1 hu2 hc4 he1 he2 he4 he5
                go_wp2_with fail
                go_roundw
                case rel => exact ⟨m + 1, us' ++ [[120, c]], l ++ [[120, c]], by omega, by go_num, by have h := HE.out.1; simpa using h, by have h := HE.out.2.1; simpa using h, by have h := HE.out.2.2.1; simpa using h, HE.out.2.2.2.1, HE.out.2.2.2.2, HREL5, by rw [List.length_append, HLL.out.1]; rfl, by rw [List.length_append, HLL.out.2]; rfl⟩
                case measure => simp [intOf]; omega
              · obtain rfl : m = y := by omega
                have hrl := hrel4.out
                rw [Nat.sub_self] at hrl
                simp only [fresh, List.append_nil] at hrl
                obtain ⟨hrl1, hrl2⟩ := hrl
                obtain ⟨hx, hy⟩ := HXY.out
                obtain ⟨A1, cap1, c1, c2, c3, c4⟩ := HX.out.at_ hx
                obtain ⟨-, hBk, hbw, -, -, -⟩ := id hk2
                obtain ⟨⟨p0, p1, p2⟩, -⟩ := hBk.tri
                rw [← hbw.cell (p := ⟨ab, _, none⟩) hab] at c1 c2 c3
                have hlook := lookL_at HL.out hx hy
                have hl3 : l.length = bound.length + m := HLL.out.1
                have hxl : (printT decls x l).length ≤ 100000000000000 := by
                  refine Nat.le_trans (joinB_ge _ _ ?_) HPL.out
                  rw [← HREL.out, hrl1]
                  simp
                have hih := IH.out x l wv (.slice A1 x.al.length cap1) (.slice A9 l.length cap9) (.slice DA decls.length dcap) (HV.out.below hbw) (c4.keep' hbw hbw.size) (HDB.out.1.keep' hbw) ((Strs.own (R := 0) ho2 (by omega)).any (Nat.le_refl _)) (by rw [hl3]; simpa using hlook) (by omega) hxl
                obtain ⟨txt, htx⟩ : ∃ q, printT decls x l = q := ⟨_, rfl⟩
                rw [htx] at hih
                have hrel6 : (us' ++ [txt]) ++ printL decls (al.drop (j + 1)) (sh.drop (j + 1)) bound = headW k ++ printL decls al sh bound := by
                  rw [← HREL.out, hrl2, ← hrl1, htx]
                  simp
                have HREL6 := Lib.hid hrel6
                have HIH := Lib.hid hih
                have HR1 := Lib.hid hr1
                have HK2 := Lib.hid hk2
                have hja : (j : Int) < (al.length : Int) := by have := HAL.out; omega
                have hjan : j < al.length := by omega
                obtain ⟨i0, hi0, hz0, hz1, hz2⟩ := info_parts Tryd.infoStr
                clear hih hrel6 htx hxl hl3 hlook hrl1 hrl2 hx hy hBk hbw hr1 hk2 ho2 hap c4
                go_wp2_with fail
                refine HIH.out.mono ?_
                rintro e w5 ⟨rfl, hb5⟩
                have hb6 := hb5.alloc hb5.size (.cells #[.string ⟨txt.toArray⟩] 9)
                have hr6 := HR1.out.below hb6
                have HO6 := Lib.hid hr6.1
                have HR6 := Lib.hid hr6
                have HK6 := Lib.hid (HK2.out.below hb6)
                have HRD6 := Lib.hid (reads_new w5 (.string ⟨txt.toArray⟩) 9)
                have hu1 : us'.length + 1 ≤ maxLen := by unfold maxLen; omega
                have hu2 : (us'.length + 1) * 16 ≤ 140737488355328 := by omega
                have HWB := Lib.hid (show w.heap.size + 1 ≤ (w5.alloc (.cells #[.string ⟨txt.toArray⟩] 9)).heap.size from by have := HK6.out.2.2.2.1; have := HK6.out.2.2.2.2; omega)
                clear hb5 hb6 hr6 HR1 HK2 HIH p0 p1 p2 c1 c2 c3
                go_wp2_with (first | (at_builtin; go_loud (refine wpList_append_any _ rfl (.tmp 93) (.tmp 102) 36 rfl (w.heap.size + 1) 9 i0 (.string ⟨#[]⟩) 1 16 Tryd.underlying36 hi0 hz0 hz1 hz2 rfl (by decide) _ us'.length (strc us') rfl HO6.out (w5.alloc (.cells #[.string ⟨txt.toArray⟩] 9)).heap.size (some ⟨w5.heap.size, 0, none⟩) 1 1 [.string ⟨txt.toArray⟩] rfl HRD6.out (by intro u hu; simp at hu; subst hu; rfl) hu1 hu2 HWB.out ?_)))
                intro V5 w10 hown10 hgr10 hloc10
                obtain ⟨A5, cap5, rfl⟩ := own_form hown10
                have hr10 : PRow w lo hi w10 (.slice A5 (us'.length + 1) cap5) (us' ++ [txt]) := HR6.out.more HK6.out.2.2.2.1 hown10 (by simpa using hloc10)
                have hk10 := HK6.out.grown hgr10 (HR6.out.row)
                have HE := Lib.hid (And.intro hr10 hk10)
                clear hr10 hk10 hown10 hgr10 hloc10 HR6 HK6 HO6 HRD6
                go_wp2_with fail
                go_roundw
                case rel => exact ⟨j + 1, us' ++ [txt], by omega, by go_num, by have h := HE.out.1; simpa using h, HE.out.2, HREL6, by have := HLL.out.2; rw [List.length_append, List.length_singleton]; omega⟩
                case measure => simp [intOf]; omega
          · obtain rfl : j = sh.length := by omega
            have hrel3 := hrel2.out
            rw [List.drop_eq_nil_of_le (show al.length ≤ sh.length by rw [HAL.out]; exact Nat.le_refl _), printL, List.append_nil] at hrel3
            have HJN := Lib.hid (pjoin_any us _ wr hrow2.1 (by rw [hrel3]; exact HPL.out) (by omega))
            have HREL := Lib.hid hrel3
            have HBW := Lib.hid hkeep2.2.2.1
            have hlj : (joinB us).length ≤ 100000000000000 := by rw [hrel3]; exact HPL.out
            clear hrel3 hrel2 hrow2 hkeep2
            go_wp2_with fail
            refine HJN.out.mono ?_
            rintro e w5 ⟨rfl, hb5⟩
            clear HJN
            go_wp2_with fail
            go_ret
            rw [HPT.out, ← HREL.out]
            exact ⟨by rw [← cat_br]; rfl, HBW.out.trans (hb5.mono HBW.out.size)⟩
end Go.Proofs.YtjboibbgigkhkaaDoor
