import Derived.Test.YtjboibbgigkhkaaGetL
namespace Go.Proofs.Ytjboibbgigkhkaa
open Go.RowKit

set_option maxRecDepth 100000 in
set_option maxHeartbeats 2000000 in
theorem get_any (f : Nat) : ∀ (l : List UInt8) (deep : Int) (w : World) (v : Value), bytesIn w w.heap.size l v → deep + f = 25 → 1 ≤ deep → l.length ≤ 140737488355328 →
    Calls Try.prog 15 #[v, .int .i64 deep] w (GetPost (getT f l) w) := by
  induction f with
  | zero =>
    intro l deep w v hv hd hdl hll
    obtain ⟨A, cap, rfl, h1, h2, h3⟩ := hv
    have hdd : 24 < deep := by omega
    have hR : getT 0 l = .error 9 := by rw [getT]
    rw [hR]
    clear hd hR h3
    go_enter Try.func15, Try.ntmps15
    go_wp2_with fail
    refine (no_any _ _).mono ?_
    rintro e w1 ⟨rfl, hb⟩
    unfold noTerm
    have hB := (Blk.new w 24 #[.int .i64 0, .int .i64 0, .slice none 0 0]).below hb (by simp)
    obtain ⟨⟨c0, c1, c2⟩, f0, f1, f2⟩ := hB.three
    have hb1 := ((Below.refl w.heap.size w).alloc (Nat.le_refl _) (Obj.cells #[.int .i64 0, .int .i64 0, .slice none 0 0] 24)).trans (hb.mono (by simp))
    go_wp2_with fail
    refine bodyPost_ret (v := noTerm 9) (by simp [results, Try.results15, go_sem, noTerm, c0, c1, c2]) rfl ⟨rfl, ?_⟩
    exact ((hb1.setCell (Nat.le_refl _) _).setCell (Nat.le_refl _) _).setCell (Nat.le_refl _) _
  | succ f ih =>
    intro l deep w v hv hd hdl hll
    obtain ⟨A, cap, rfl, h1, h2, h3⟩ := hv
    have hdd : ¬ 24 < deep := by omega
    have hd2 : deep ≤ 24 := by omega
    have HD := Lib.hid hd
    have IH := Lib.hid ih
    clear hd ih
    unfold maxLen at h2
    cases l with
    | nil =>
      have hR : getT (f + 1) [] = .error 8 := by rw [getT]
      rw [hR]
      clear hR h3
      go_enter Try.func15, Try.ntmps15
      go_wp2_with fail
      refine (no_any _ _).mono ?_
      rintro e w1 ⟨rfl, hb⟩
      unfold noTerm
      have hB := (Blk.new w 24 #[.int .i64 0, .int .i64 0, .slice none 0 0]).below hb (by simp)
      obtain ⟨⟨c0, c1, c2⟩, f0, f1, f2⟩ := hB.three
      have hb1 := ((Below.refl w.heap.size w).alloc (Nat.le_refl _) (Obj.cells #[.int .i64 0, .int .i64 0, .slice none 0 0] 24)).trans (hb.mono (by simp))
      go_wp2_with fail
      refine bodyPost_ret (v := noTerm 8) (by simp [results, Try.results15, go_sem, noTerm, c0, c1, c2]) rfl ⟨rfl, ?_⟩
      exact ((hb1.setCell (Nat.le_refl _) _).setCell (Nat.le_refl _) _).setCell (Nat.le_refl _) _
    | cons k r =>
      obtain ⟨⟨b, off, spot⟩, e1, hbb, hcell⟩ := h3.2 (by simp)
      have ck := hcell 0 _ rfl
      have hsp : spot = none := by simpa [Addr.add] using World.cell?_spot ck
      subst hsp e1
      have ck0 : w.cell? ⟨b, off, none⟩ = some (.int .u8 (k.toNat : Nat)) := by simpa [Addr.add] using ck
      clear ck hcell
      have H3 := Lib.hid h3
      have hk : k.toNat < 256 := k.toNat_lt
      simp only [List.length_cons] at h1 hll
      clear h3
      generalize hR : getT (f + 1) (k :: r) = R
      have HR := Lib.hid hR
      clear hR
      have hrl : r.length + 1 ≤ cap := h1
      have hnz : (((r.length + 1 : Nat) : Int) == 0) = false := by simp; omega
      go_enter Try.func15, Try.ntmps15
      go_wp2_with fail
      refine (binds_at _ _).mono ?_
      rintro e w1 ⟨sA, scap, rfl, hb⟩
      obtain ⟨hBr, hBt, hb1, hsz1⟩ := two_blocks hb
      obtain ⟨⟨c0, c1, c2⟩, f0, f1, f2⟩ := hBr.three
      obtain ⟨⟨t0, t1, t2⟩, g0, g1, g2⟩ := hBt.three
      clear hb
      have ck1 := (hb1.cell (p := ⟨b, off, none⟩) hbb).trans ck0
      cases hsh : shape (k.toNat : Int) with
      | none =>
        have hR := HR.out
        rw [getT, hsh] at hR
        dsimp only at hR
        subst hR
        simp only [Option.isSome_none]
        clear HR hsh
        go_wp2_with fail
        refine (no_any _ _).mono ?_
        rintro e w2 ⟨rfl, hb⟩
        unfold noTerm
        have hBr2 := hBr.below hb (by omega)
        obtain ⟨⟨d0, d1, d2⟩, e0, e1, e2⟩ := hBr2.three
        have hb2 := hb1.trans (hb.mono hb1.size)
        clear c0 c1 c2 f0 f1 f2 hb1 hb ck0 ck1
        go_wp2_with fail
        refine bodyPost_ret (v := noTerm 1) (by simp [results, Try.results15, go_sem, noTerm, d0, d1, d2]) rfl ⟨rfl, ?_⟩
        exact ((hb2.setCell (Nat.le_refl _) _).setCell (Nat.le_refl _) _).setCell (Nat.le_refl _) _
      | some sh =>
        have hR := HR.out
        rw [getT, hsh] at hR
        dsimp only at hR
        have HR2 := Lib.hid hR
        have hsl := shape_len hsh
        clear HR hR hsh
        simp only [Option.isSome_some, Option.getD_some]
        have htl := H3.out.tail1 hrl
        have HT := Lib.hid htl
        clear htl
        go_upto_region 10 with fail
        go_cut [0] (fun v wc => bytesIn w w.heap.size r v ∧ wc = w1)
        case first =>
          by_cases hc1 : cap = 1
          · have hr0 : r = [] := List.eq_nil_of_length_eq_zero (by omega)
            subst hr0
            have hb := HT.out.1 hc1
            have HBI := Lib.hid hb
            subst hc1
            clear hb
            go_wp2_with fail
            go_meet
            exact ⟨HBI.out, rfl⟩
          · have hb := HT.out.2 hc1 (by unfold maxLen; omega)
            have HBI := Lib.hid hb
            clear hb
            go_wp2_with fail
            go_meet
            exact ⟨HBI.out, rfl⟩
        case rest =>
          obtain ⟨hbi, rfl⟩ := hcut
          clear HT
          go_wp2_with fail
          refine (numbered_any _ _).mono ?_
          rintro e w' ⟨rfl, rfl⟩
          go_upto_if 51 with fail
          go_cut [0] (fun v wc => ∃ (N : Int) (r' : List UInt8), bytesIn w w.heap.size r' v ∧ r'.length ≤ 140737488355328 ∧ Hid ((match getL (getT f) sh r' with | .error e => .error e | .ok (al, b) => .ok (T.mk k.toNat N al, b)) = R) ∧
            Blk wc w.heap.size 24 #[.int .i64 0, .int .i64 0, .slice none 0 0] ∧ Blk wc (w.heap.size + 1) 24 #[.int .i64 k.toNat, .int .i64 N, .slice none 0 0] ∧ Below w.heap.size w wc ∧ w.heap.size + 2 ≤ wc.heap.size)
          case first =>
            generalize numbered (k.toNat : Int) = nb at *
            cases nb with
            | false =>
              have hR := HR2.out
              rw [if_neg (by decide)] at hR
              have HR3 := Lib.hid hR
              clear HR2 hR
              go_wp2_with fail
              go_meet
              exact ⟨0, r, hbi, by omega, HR3.out, hBr, hBt, hb1, hsz1⟩
            | true =>
              have hR := HR2.out
              rw [if_pos rfl] at hR
              obtain ⟨A2, cap2, rfl, q1, q2, q3⟩ := hbi
              unfold maxLen at q2
              cases r with
              | nil =>
                dsimp only at hR
                subst hR
                clear HR2 q3
                go_wp2_with fail
                refine (no_any _ _).mono ?_
                rintro e w2 ⟨rfl, hb⟩
                unfold noTerm
                have hBr2 := hBr.below hb (by omega)
                obtain ⟨⟨d0, d1, d2⟩, e0, e1, e2⟩ := hBr2.three
                have hb2 := hb1.trans (hb.mono hb1.size)
                clear c0 c1 c2 f0 f1 f2 hb1 hb ck0 ck1
                go_wp2_with fail
                refine bodyPost_ret (v := noTerm 8) (by simp [results, Try.results15, go_sem, noTerm, d0, d1, d2]) rfl ⟨rfl, ?_⟩
                exact ((hb2.setCell (Nat.le_refl _) _).setCell (Nat.le_refl _) _).setCell (Nat.le_refl _) _
              | cons n r2 =>
                dsimp only at hR
                have HR3 := Lib.hid hR
                clear hR HR2
                obtain ⟨⟨b2, off2, spot2⟩, rfl, hbb2, hcell2⟩ := q3.2 (by simp)
                have ck2 := hcell2 0 _ rfl
                have hsp2 : spot2 = none := by simpa [Addr.add] using World.cell?_spot ck2
                subst hsp2
                have ck3 : wc.cell? ⟨b2, off2, none⟩ = some (.int .u8 (n.toNat : Nat)) := (hb1.cell (p := ⟨b2, off2, none⟩) hbb2).trans (by simpa [Addr.add] using ck2)
                clear ck2 hcell2
                have hn : n.toNat < 256 := n.toNat_lt
                have q1' : r2.length + 1 ≤ cap2 := q1
                have htl := q3.tail1 q1'
                have HT := Lib.hid htl
                clear htl q3
                have hnz2 : (((r2.length + 1 : Nat) : Int) == 0) = false := by simp; omega
                have hBt3 : Blk (wc.drew.setCell ⟨w.heap.size + 1, 1, none⟩ (.int .i64 n.toNat)) (w.heap.size + 1) 24 #[.int .i64 k.toNat, .int .i64 n.toNat, .slice none 0 0] := hBt.drew.set_ 1 _
                have hBr3 : Blk (wc.drew.setCell ⟨w.heap.size + 1, 1, none⟩ (.int .i64 n.toNat)) w.heap.size 24 #[.int .i64 0, .int .i64 0, .slice none 0 0] := hBr.drew.far (by simp) _
                have hb3 : Below w.heap.size w (wc.drew.setCell ⟨w.heap.size + 1, 1, none⟩ (.int .i64 n.toNat)) := hb1.drew.setCell (by simp) _
                have HB3 := Lib.hid (And.intro hBr3 (And.intro hBt3 hb3))
                clear hBt3 hBr3 hb3
                by_cases hc2 : cap2 = 1
                · have hr0 : r2 = [] := List.eq_nil_of_length_eq_zero (by omega)
                  subst hr0
                  have hb := HT.out.1 hc2
                  have HBI := Lib.hid hb
                  subst hc2
                  clear hb
                  go_wp2_with fail
                  obtain ⟨⟨t0, t1, t2⟩, g0, g1, g2⟩ := hBt.three
                  go_region
                  go_wp2_with fail
                  go_meet
                  exact ⟨n.toNat, [], HBI.out, by simp, HR3.out, HB3.out.1, HB3.out.2.1, HB3.out.2.2, by simpa [World.setCell] using hsz1⟩
                · have hb := HT.out.2 hc2 (by unfold maxLen; omega)
                  have HBI := Lib.hid hb
                  clear hb
                  go_wp2_with fail
                  obtain ⟨⟨t0, t1, t2⟩, g0, g1, g2⟩ := hBt.three
                  go_region
                  go_wp2_with fail
                  go_meet
                  exact ⟨n.toNat, r2, HBI.out, by simp only [List.length_cons] at hll; omega, HR3.out, HB3.out.1, HB3.out.2.1, HB3.out.2.2, by simpa [World.setCell] using hsz1⟩
          case rest =>
            obtain ⟨N, r', hbi, hrl', HR3, hBr, hBt, hb1, hsz1⟩ := hcut
            have hbS : bytesInS wc (others w.heap.size (.slice none 0 0) wc.heap.size) r' u0 := hbi.toS.keep (fun b hb => .inl hb) (fun p hp => hb1.cell hp)
            obtain ⟨i0, hi, hz0, hz1, hz2⟩ := info_parts Try.infoT
            clear HR2 c0 c1 c2 f0 f1 f2 t0 t1 t2 g0 g1 g2 ck1
            have hrow0 := rowT_nil wc (w.heap.size + 2) (othersN w.heap.size (.slice none 0 0) wc.heap.size)
            go_wp2_with fail
            go_loopw [0, 69] (fun v i wr => ∃ j : Nat, j ≤ sh.length ∧ i = .int .i64 j ∧ ∃ (ts : List T) (V : Value) (r1 : List UInt8), rowT wr (w.heap.size + 2) (othersN w.heap.size V wr.heap.size) V ts ∧ bytesInS wr (others w.heap.size V wr.heap.size) r1 v ∧ r1.length ≤ 140737488355328 ∧
              Hid ((match getL (getT f) (sh.drop j) r1 with | .error e => .error e | .ok (al, b) => .ok (T.mk k.toNat N (ts ++ al), b)) = R) ∧ Blk wr w.heap.size 24 #[.int .i64 0, .int .i64 0, .slice none 0 0] ∧ Blk wr (w.heap.size + 1) 24 #[.int .i64 k.toNat, .int .i64 N, V] ∧
              Below w.heap.size w wr ∧ w.heap.size + 2 ≤ wr.heap.size ∧ ts.length = j) (fun _ i _ => sh.length - (intOf i).toNat)
            case atStart => exact ⟨0, by omega, rfl, [], _, r', hrow0, hbS, hrl', by simpa using HR3, hBr, hBt, hb1, hsz1, rfl⟩
            case round =>
              obtain ⟨j, hj, rfl, ts, V, r1, hrow, hbS1, hrl1, HL, hBr1, hBt1, hb2, hsz2, htl⟩ := hrel
              clear hbS hrow0 hBr hBt hb1 hsz1 HR3 hbi
              by_cases hlt : j < sh.length
              · have hIH := IH.out r1 (deep + 1)
                have hst := getL_step (g := getT f) (b := r1) hlt
                have HST := Lib.hid hst
                have HTL := Lib.hid htl
                have HIH := Lib.hid hIH
                clear hst htl hIH
                go_wp2_with fail
                have hbB : bytesIn wr wr.heap.size r1 u0 := hbS1.toB (fun b hb => by rcases hb with hb | hb <;> omega)
                with_reducible refine (HIH.out _ _ hbB (by have := HD.out; omega) (by omega) hrl1).mono ?_
                intro e w2 hpost
                have hR := HL.out
                rw [HST.out] at hR
                cases hg : getT f r1 with
                | error c =>
                  rw [hg] at hpost hR
                  obtain ⟨rfl, hbe⟩ := hpost
                  dsimp only at hR
                  subst hR
                  have hcz := getT_err f r1 c hg
                  have hcz2 : (c == 0) = false := by simpa using hcz
                  have hBr3 := hBr1.below hbe (by omega)
                  have hb3 := hb2.trans (hbe.mono hb2.size)
                  have hsz3 : w.heap.size + 2 ≤ w2.heap.size := Nat.le_trans hsz2 hbe.size
                  unfold noTerm
                  clear hg hrow hbS1 HL HST HIH hBt1 hBr1 hb2 hbe hcz
                  go_wp2_with fail
                  refine (no_any _ _).mono ?_
                  rintro e w3 ⟨rfl, hb⟩
                  unfold noTerm
                  have hBr4 := (hBr3.alloc _).below hb (by simp; omega)
                  obtain ⟨⟨d0, d1, d2⟩, e0, e1, e2⟩ := hBr4.three
                  have hb4 := (hb3.alloc hb3.size (Obj.cells #[.int .i64 0, .int .i64 0, .slice none 0 0] 24)).trans (hb.mono (by have := hb3.size; simp; omega))
                  clear hb3 hb hBr3 hBr4
                  go_wp2_with fail
                  refine bodyPost_ret (v := noTerm c) (by simp [results, Try.results15, go_sem, noTerm, d0, d1, d2]) rfl ⟨rfl, ?_⟩
                  exact ((hb4.setCell (Nat.le_refl _) _).setCell (Nat.le_refl _) _).setCell (Nat.le_refl _) _
                | ok xr =>
                  obtain ⟨x, r2⟩ := xr
                  rw [hg] at hpost hR
                  obtain ⟨s2, v2, rfl, hx, hbr, hbe⟩ := hpost
                  dsimp only at hR
                  have HRS := Lib.hid (res_step hR)
                  have hrl2 : r2.length ≤ 140737488355328 := by have h := congrArg List.length (bytes_get f r1 x r2 hg); rw [List.length_append] at h; omega
                  obtain ⟨A2, cap2, rfl, -⟩ := argsInS_iff.1 hx
                  obtain ⟨cs, hown, hts⟩ := hrow
                  have hBt3 := hBt1.below hbe (by omega)
                  obtain ⟨⟨t0, t1, t2⟩, g0, g1, g2⟩ := hBt3.three
                  have hown2 := own_below hown hbe
                  have hs2 := hbe.size
                  have hs3 : w.heap.size + 1 < w2.heap.size := by omega
                  have hjt : ts.length ≤ 4 := by rw [HTL.out]; omega
                  have HALL := Lib.hid (And.intro hown (And.intro hts (And.intro hbe (And.intro hx (And.intro hbr (And.intro hBr1 (And.intro hBt1 hb2)))))))
                  clear hg hR HST HIH HL hts hbS1 hbe hx hbr hBr1 hBt1 hBt3 hb2 hown hbB
                  go_wp2_with (first
                    | (at_builtin; refine wpList_append_own_at _ rfl (.tmp 88) (.tmp 90) 22 rfl (w.heap.size + 2) 24 i0 (.agg #[.int .i64 0, .int .i64 0, .slice none 0 0]) 3 40 Try.underlying22 hi hz0 hz1 hz2 rfl (by decide) _ _ _ rfl ((hown2.alloc _).alloc _) ⟨w2.heap.size + 1, 0, none⟩ 1 1 [.int .i64 x.k, .int .i64 x.n, .slice A2 x.al.length cap2] rfl rfl (new_three _ _ _ _ _ _ (by simp)) (three_one _ _ _ _ _) (maxLen_of' (by omega)) (bytes_of40 (by omega)) (by simp; omega) ?_))
                  intro V' w4 hown' hgrow _ hloc
                  obtain ⟨hown, hts, hbe, hx, hbr, hBr1, hBt1, hb2⟩ := HALL.out
                  have hB4 := get_blk hsz2 hown hbe hgrow hBt1
                  have hRND := get_round hsz2 rfl hown hts hbe hx hbr hown' hgrow hloc hBr1 hBt1 rfl hb2
                  obtain ⟨⟨s0, s1, s2⟩, e0, e1, e2⟩ := hB4.three
                  obtain ⟨g', cap', hV, hg1, hg2⟩ := hown'.form (by omega)
                  have HRND := Lib.hid hRND
                  clear hown hts hbe hx hbr hBr1 hBt1 hb2 HALL hown' hgrow hloc hB4 hRND hown2 t0 t1 t2 g0 g1 g2
                  subst hV
                  go_wp2_with fail
                  go_roundw
                  case rel => exact ⟨j + 1, by omega, by go_num, ts ++ [x], _, r2, HRND.out.1, HRND.out.2.1, hrl2, HRS.out, HRND.out.2.2.1, HRND.out.2.2.2.1, HRND.out.2.2.2.2.1, HRND.out.2.2.2.2.2, by rw [List.length_append, HTL.out]; rfl⟩
                  case measure => simp [intOf]; omega
              · obtain rfl : j = sh.length := by omega
                have hR := HL.out
                rw [List.drop_length, getL_nil] at hR
                dsimp only at hR
                rw [List.append_nil] at hR
                subst hR
                clear HL
                clear htl
                have harg := hrow.args (k := k.toNat) (n := N) (S' := fun b => w.heap.size + 2 ≤ b ∧ b < wr.heap.size) (fun b hb => ⟨hb.1, hb.2.1⟩) (fun b hb => by obtain ⟨cs, ho, _⟩ := hrow; have := ho.lt b hb; exact ⟨by omega, by omega⟩)
                have hV : ∃ A3 cap3, V = .slice A3 ts.length cap3 := by
                  obtain ⟨A3, cap3, h, _⟩ := argsInS_iff.1 harg
                  exact ⟨A3, cap3, h⟩
                obtain ⟨A3, cap3, rfl⟩ := hV
                have hrd0 := hbS1.toB (B := wr.heap.size) (fun b hb => by rcases hb with hb | hb <;> omega)
                obtain ⟨A4, cap4, rfl, k1, k2, k3⟩ := hrd0
                have HRD := Lib.hid (show Reads wr.drew wr.heap.size 1 A4 r1.length (u8c r1) from k3)
                have HM1 := Lib.hid (show 0 + r1.length ≤ maxLen by unfold maxLen; omega)
                have HM2 := Lib.hid (show (0 + r1.length) * 1 ≤ 140737488355328 by omega)
                have HARG := Lib.hid harg
                clear k3 hbS1 harg
                clear hrow
                go_wp2_with fail
                go_upto_region 22 with fail
                go_cut [5, 6] (fun v5 v6 wx => v6 = .int .i64 0 ∧ bytesInS wx (newFrom w wx) r1 v5 ∧ Blk wx w.heap.size 24 #[.int .i64 k.toNat, .int .i64 N, .slice A3 ts.length cap3] ∧ argsInS wx (newFrom w wx) (.mk k.toNat N ts) (.slice A3 ts.length cap3) ∧ Below w.heap.size w wx)
                case first =>
                  obtain ⟨j0, hj, hj1, hj2, hj3⟩ := info_parts Try.infoU8g
                  obtain ⟨⟨t0, t1, t2⟩, g0, g1, g2⟩ := hBt1.three
                  obtain ⟨⟨c0, c1, c2⟩, f0, f1, f2⟩ := hBr1.three
                  go_region_held3 (fun w' => w'.cell? ⟨w.heap.size + 1, 0, none⟩ = some (.int .i64 k.toNat) ∧ w'.cell? ⟨w.heap.size + 1, 1, none⟩ = some (.int .i64 N) ∧ w'.cell? ⟨w.heap.size + 1, 2, none⟩ = some (.slice A3 ts.length cap3)) (go_keep)
                    (first
                      | (refine step_append_any _ rfl (.const (.slice none 0 0)) (.tmp 96) 27 rfl wr.heap.size 5 j0 (.int .u8 0) 1 1 Try.underlying27 hj hj1 hj2 hj3 rfl (by decide) (.slice none 0 0) 0 [] rfl (World.ownsRow_nil _ _ _ _) wr.heap.size A4 r1.length cap4 (u8c r1) rfl HRD.out (u8c_one _) HM1.out HM2.out (Nat.le_refl _) ?_; intro V5 w5 hown5 hgrow5 _; (have HO5 := Lib.hid hown5); (have HG5 := Lib.hid hgrow5); (have x0 := hgrow5.cell (a := ⟨w.heap.size + 1, 0, none⟩) t0 (by simp [Value.ownBlock])); (have x1 := hgrow5.cell (a := ⟨w.heap.size + 1, 1, none⟩) t1 (by simp [Value.ownBlock])); (have x2 := hgrow5.cell (a := ⟨w.heap.size + 1, 2, none⟩) t2 (by simp [Value.ownBlock])); (obtain ⟨⟨y0, y1, y2⟩, z0, z1, z2⟩ := (hBr1.drew.grown hgrow5 (by simp [Value.ownBlock])).three); clear hown5 hgrow5))
                  have E := get_end hb2 hsz2 HO5.out HG5.out hBr1 HARG.out
                  go_wp2_with fail
                  go_meet
                  exact ⟨rfl, E.1, E.2.1, E.2.2.1, E.2.2.2⟩
                case rest =>
                  obtain ⟨rfl, q1, q2, q3, q4⟩ := hcut
                  obtain ⟨⟨c0, c1, c2⟩, f0, f1, f2⟩ := q2.three
                  go_wp2_with fail
                  refine bodyPost_ret (v := .tuple #[.agg #[.int .i64 k.toNat, .int .i64 N, .slice A3 ts.length cap3], u5, .int .i64 0]) (by simp [results, Try.results15, go_sem, c0, c1, c2]) rfl ⟨_, _, rfl, q3, q1, q4⟩
end Go.Proofs.Ytjboibbgigkhkaa
