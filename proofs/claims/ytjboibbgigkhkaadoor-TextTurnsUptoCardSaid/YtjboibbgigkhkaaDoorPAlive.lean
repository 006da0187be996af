/- sklaw3.alive answers true. -/
import Derived.Test.YtjboibbgigkhkaaDoorPPrint
import Derived.Test.YtjboibbgigkhkaaDoorBoxed
import Derived.Test.YtjboibbgigkhkaaDoorPNm
namespace Go.Proofs.YtjboibbgigkhkaaDoor
set_option maxRecDepth 100000
open Go.RowKit

def txtA : Str := [40, 114, 101, 99, 32, 110, 32, 110, 97, 116, 32, 97, 32, 109, 32, 107, 32, 40, 115, 117, 99, 32, 107, 41, 32, 116, 119, 111, 41]
def txtP : Str := [40, 114, 101, 99, 32, 120, 98, 32, 110, 97, 116, 32, 97, 32, 120, 98, 32, 120, 99, 32, 40, 115, 117, 99, 32, 120, 99, 41, 32, 116, 119, 111, 41]
def tAl : T := .mk 17 0 [.mk 14 0 [], .mk 1 0 [], .mk 16 0 [.mk 1 0 []], .mk 18 1 []]
abbrev lA : List Str := [[97]]
abbrev lD : List Str := [[111, 110, 101], [116, 119, 111]]
abbrev oA : Obj := .cells (strc lA).toArray 9
abbrev oD : Obj := .cells (strc lD).toArray 9

theorem two_strs (w : World) : Strs ((w.alloc oA).alloc oD) ((w.alloc oA).alloc oD).heap.size lA (.slice (some ⟨w.heap.size, 0, none⟩) 1 1) ∧ Strs ((w.alloc oA).alloc oD) ((w.alloc oA).alloc oD).heap.size lD (.slice (some ⟨w.heap.size + 1, 0, none⟩) 2 2) ∧
    Below w.heap.size w ((w.alloc oA).alloc oD) := by
  have e1 : (w.alloc oA).heap.size = w.heap.size + 1 := by simp
  have e2 : ((w.alloc oA).alloc oD).heap.size = w.heap.size + 2 := by simp
  have h1 := strs_new w (w.heap.size + 2) lA (by omega) (by decide)
  have h2 := strs_new (w.alloc oA) (w.heap.size + 2) lD (by rw [e1]; omega) (by decide)
  rw [e2]
  rw [e1] at h2
  have hb := (Below.refl (w.alloc oA).heap.size (w.alloc oA)).alloc (Nat.le_refl _) oD
  exact ⟨h1.but (but_of hb), h2, ((Below.refl _ _).alloc (Nat.le_refl _) _).alloc (by simp) _⟩

/-- the text of the law's own fact, read -/
theorem read_al (w : World) (hV : Vars w) : Calls Tryd.prog 19 #[.string ⟨txtA.toArray⟩, .slice (some ⟨w.heap.size, 0, none⟩) 1 1, .slice (some ⟨w.heap.size + 1, 0, none⟩) 2 2] ((w.alloc oA).alloc oD) (fun e w' => ∃ b off cap,
    e = .returned (.tuple #[.agg #[.int .i64 17, .int .i64 0, .slice (some ⟨b, off, none⟩) 4 cap], .int .i64 0]) ∧ argsIn w' w'.heap.size tAl (.slice (some ⟨b, off, none⟩) 4 cap) ∧ b < w'.heap.size ∧
    w'.cell? ⟨b, off + 3, none⟩ = some (.int .i64 1) ∧ w'.cell? ⟨b, off + 10, none⟩ = some (.int .i64 1) ∧ Below w.heap.size w w') := by
  obtain ⟨h1, h2, hb⟩ := two_strs w
  have P1 : parse canon lD txtA lA = (tAl, 0) := rfl
  refine (pparse_any lD lA txtA ((w.alloc oA).alloc oD) _ _ (hV.below hb) (by decide) h2 h1 (by decide) (by decide)).mono ?_
  rw [P1]
  rintro e w2 ⟨s, rfl, hx, hb2⟩
  obtain ⟨A, cap, hs, -, -, h3⟩ := argsInS_iff.1 hx
  obtain ⟨b, off, rfl, hbb, hc⟩ := h3 (by simp [tAl, T.al])
  subst hs
  obtain ⟨A1, cap1, c1, -⟩ := hc.at_ (i := 1) (t := .mk 1 0 []) rfl
  obtain ⟨A3, cap3, -, c3, -⟩ := hc.at_ (i := 3) (t := .mk 18 1 []) rfl
  exact ⟨b, off, cap, rfl, hx.keep (fun b hb => hb.elim (fun h => h.elim) (fun h => h.2)) (fun _ _ => rfl), hbb.elim (fun h => h.elim) (fun h => h.2), c1, c3, hb.trans (hb2.mono hb.size)⟩

set_option maxHeartbeats 1600000 in
theorem palive_any (w : World) (hV : Vars w) : Calls Tryd.prog 15 #[] w (BoolPost true w) := by
  have P2 := Lib.hid (show printT lD tAl lA = txtP from rfl)
  have P3 := Lib.hid (show look lD.length tAl lA.length 24 = 0 from rfl)
  have HV := Lib.hid hV
  have HC := Lib.hid (read_al w hV)
  clear hV
  go_enter Tryd.func15, Tryd.ntmps15
  go_wp2_with fail
  refine HC.out.mono ?_
  rintro e w2 ⟨b, off, cap, rfl, ha, hbb, c1, c3, hb2⟩
  have HB2 := Lib.hid (Boxed.new (t := tAl) ha)
  have e1 := (World.cell?_alloc_lt w2 (.cells #[.int .i64 17, .int .i64 0, .slice (some ⟨b, off, none⟩) 4 cap] 24) ⟨b, off + 3, none⟩ hbb).trans c1
  have e3 := (World.cell?_alloc_lt w2 (.cells #[.int .i64 17, .int .i64 0, .slice (some ⟨b, off, none⟩) 4 cap] 24) ⟨b, off + 10, none⟩ hbb).trans c3
  have HW2 := Lib.hid (hb2.alloc hb2.size (.cells #[.int .i64 17, .int .i64 0, .slice (some ⟨b, off, none⟩) 4 cap] 24))
  clear ha c1 c3 hb2 HC
  have hp := two_strs (w2.alloc (.cells #[.int .i64 17, .int .i64 0, .slice (some ⟨b, off, none⟩) 4 cap] 24))
  have hbx := HB2.out.more (hp.2.2.mono (Nat.le_refl _))
  have hv3 := (HV.out.below HW2.out).below hp.2.2
  have hpr := pprint_any lD (by decide) 24 tAl lA _ _ _ _ hv3 hbx.arg hp.2.1 hp.1 P3.out (by decide) (by decide)
  rw [P2.out] at hpr
  have hsz : (w2.alloc (.cells #[.int .i64 17, .int .i64 0, .slice (some ⟨b, off, none⟩) 4 cap] 24)).heap.size = w2.heap.size + 1 := by simp
  rw [hsz] at hpr
  have HPR := Lib.hid hpr
  have HP := Lib.hid (HW2.out.trans (hp.2.2.mono HW2.out.size))
  clear hp hbx hv3 hpr hsz
  go_wp2_with fail
  refine HPR.out.mono ?_
  rintro e w4 ⟨rfl, hb4⟩
  have HB4 := Lib.hid (HP.out.trans (hb4.mono HP.out.size))
  clear hb4 HPR HP HB2 HW2 e1 e3
  go_wp2_with fail
  refine (pwordsof_any [40, 97, 32, 98, 41] (by decide) _).mono ?_
  rintro e w5 ⟨V, rfl, hown, hb5⟩
  obtain ⟨A5, cap5, rfl⟩ := own_form hown
  have HB5 := Lib.hid (HB4.out.trans (hb5.mono HB4.out.size))
  rw [show (words [40, 97, 32, 98, 41]).length = 4 from rfl] at *
  clear hb5 hown HB4
  go_wp2_with fail
  refine (pnm_any [97, 98] (by decide) _).mono ?_
  rw [show isName [97, 98] = true from rfl]
  rintro e w6 ⟨rfl, hb6⟩
  have HB6 := Lib.hid (HB5.out.trans (hb6.mono HB5.out.size))
  clear hb6 HB5
  go_wp2_with fail
  refine (pnm_any [115, 117, 99] (by decide) _).mono ?_
  rw [show isName [115, 117, 99] = false from rfl]
  rintro e w7 ⟨rfl, hb7⟩
  have HB7 := Lib.hid (HB6.out.trans (hb7.mono HB6.out.size))
  clear hb7 HB6
  go_wp2_with fail
  go_ret
  exact ⟨rfl, HB7.out⟩
end Go.Proofs.YtjboibbgigkhkaaDoor
