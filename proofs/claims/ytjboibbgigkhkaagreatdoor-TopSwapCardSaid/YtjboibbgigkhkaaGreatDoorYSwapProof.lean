/- Proved: the law TopSwap of package sktop answers true at every input: what is declared to turn pairs about does so, and, done twice, leaves them as they were. The card: the library's variables that the code names are tied to the program's text. -/
import Derived.Test.YtjboibbgigkhkaaGreatDoorYGO
import Derived.Test.YtjboibbgigkhkaaGreatDoorYGG
import Derived.Test.YtjboibbgigkhkaaGreatDoorYArgsS
import Derived.Test.YtjboibbgigkhkaaGreatDoorYLaidV
import Derived.Test.YtjboibbgigkhkaaGreatDoorTie
import Derived.Test.YtjboibbgigkhkaaGreatDoorCards
import Derived.SevenTiedAt
import Derived.Stop.Joined
import Derived.ChangeMaps5
namespace Go.Proofs.YtjboibbgigkhkaaGreatDoor
open Go.ChangeShapes Go.WideShapes Go.ChangeAt Go.RowKit Go.ChangeMaps
set_option linter.unusedVariables false

section
variable {H : Type} {enc : TypeId × Value → H} {P : Program} {w : World} {base : Nat} {spare : Nat → Bool} {held : Bool}
theorem trodAll_two {t0 t1 : TypeId} {args : Array Value} {ds : List (DataW H)} {ps : List MemPlace} (h : DataW.TrodAll enc P w base spare held [t0, t1] args.toList ds ps) :
    ∃ v0 v1 d0 d1 p0 p1, args = #[v0, v1] ∧ ds = [d0, d1] ∧ ps = p0 ++ p1 ∧ DataW.Trod enc P w base spare held t0 v0 d0 p0 ∧ DataW.Trod enc P w base spare held t1 v1 d1 p1 := by
  obtain ⟨v0, vs0, d0, ds0, p0, q0, hargs, rfl, rfl, h0, hr0⟩ := trodAll_cons h
  obtain ⟨v1, vs1, d1, ds1, p1, q1, rfl, rfl, rfl, h1, hr1⟩ := trodAll_cons hr0
  obtain ⟨rfl, rfl, rfl⟩ := trodAll_nil hr1
  refine ⟨v0, v1, d0, d1, p0, p1, ?_, rfl, by simp, h0, h1⟩
  obtain ⟨l⟩ := args
  simp at hargs
  rw [hargs]
end

/-- what the list gives the walk -/
theorem topSwap_vars {W : World} (hsh : W.ShapedOpen Tryz.prog) (h : laidMetH Tryz.prog Rows.topSwapRow.laid W) : VarsM W := by
  rw [MakeChecks.laidMetH_plain _ _ _ (by kernel_rfl)] at h
  have h2 := h.tail.tail
  have hT := Lib.tabIs_of_head (k := .u64) (zs := Lib.pow10Tab) gPow gPowType Tryz.underlying201 Tryz.underlying170 cellsU64 cellsPow h2
  have hR := laid_iface h2.tail.tail gRan gRanType Tryz.underlying127
  have hS := laid_iface h2.tail.tail.tail gSyn gSynType Tryz.underlying127
  exact ⟨⟨shaped_eight hsh, hT, hS, hR⟩, Tryz.laysM146.s1_3 W hsh⟩

set_option maxRecDepth 100000 in
theorem topSwap_lifted (os : Os) (started : os.Started) (H : Type) (enc : TypeId × Value → H) (F : Stop.Interp) :
    ReturnsInHanded {} Tryz.checked os 4 .any ((OpenSpec.ofChange Rows.topSwapSpec).preRow enc Tryz.prog Tryz.f4 Rows.topSwapRow.domain false Rows.topSwapRow.laid)
      (((OpenSpec.ofChange Rows.topSwapSpec).at F).post enc Tryz.prog Tryz.f4 false true false false) := by
  refine returnsInHanded_of_row (C := Tryz.checked) (s := OpenSpec.ofChange Rows.topSwapSpec) own started (by kernel_rfl) Tryz.func4
    (witness_shaped_row (enc := enc) (C := Tryz.checked) (os := os) false (World.laidAll Tryz.prog os Rows.topSwapRow.laid) #[.int .i64 0, .int .i64 0] (World.laidAll_os _ _ _)
      (World.shaped_of_ZipB (by kernel_rfl) (by kernel_rfl)) (by kernel_rfl)
      (OpenSpec.preRow_of_cond 8 (x := ([.lit (.int .i64 0), .lit (.int .i64 0)], [], [])) (by kernel_rfl) (by kernel_rfl) (fun k hk => by cases hk) (by kernel_rfl)
        (by rw [MakeChecks.laidMetH_plain _ _ _ (by kernel_rfl)]; exact laidMet_laidAll _ (by kernel_rfl) (by kernel_rfl)))) ?_
  intro W base args ds gs before hval0 hW _ hcond _ hL hsh _
  have hval : ∀ (j : Nat) t v, Tryz.f4.params[j]? = some t → args[j]? = some v → Value.okWide Tryz.prog W .any base t v := hval0
  have hW' := hW
  obtain ⟨p, q, hA0, hV, rfl, hfz, hnd⟩ := hW
  have hA : DataW.TrodAll enc Tryz.prog W 0 (fun _ => true) true Tryz.f4.params.toList args.toList ds p := hA0
  have hA1 := hA
  have hts : ∀ t ∈ Tryz.f4.params.toList, Tryz.prog.readableRec t = true ∧ t < Tryz.prog.types.size := by
    rw [Tryz.params4]
    intro t ht
    simp at ht
    rcases ht with rfl <;> exact ⟨by kernel_rfl, of_decide_eq_true (by kernel_rfl)⟩
  rw [Tryz.params4] at hA hval
  obtain ⟨v0, v1, d0, d1, p0, p1, rfl, rfl, rfl, h0, h1⟩ := trodAll_two hA
  obtain ⟨rfl, rfl⟩ := trodVars_none hV
  obtain ⟨x0, rfl, -, -, -⟩ := open_int Tryz.underlying3 (hval 0 _ v0 rfl rfl) h0
  obtain ⟨x1, rfl, -, -, -⟩ := open_int Tryz.underlying3 (hval 1 _ v1 rfl rfl) h1
  clear hA0 hval0 hval hA
  simp only [List.append_nil] at hW'
  have hlt := hW'.lt
  refine (lawswap_any (fun ds' h => infer_any ds' h 400) x0 x1 W (topSwap_vars hsh hL)).mono fun e W' ⟨he, hg⟩ => ?_
  subst he
  exact ⟨_, rfl, post_of_below (pa := p0 ++ p1) (pv := []) hW' (fun _ _ _ => (trodAll_cons_mk (shut_bool Tryz.underlying4 _) trodAll_mk0)) (fun sp hsp => args_stay laidOut hts hA1 (fun x hx => hg.same (hlt x hx)) hsp) (fun _ _ => rfl) (by simp)
    hg (ok_one (by kernel_rfl) rfl (okWide_bool_mk Tryz.underlying4 _))⟩

theorem topSwap_row : Rows.TopSwapSaid :=
  OpenClaim.holds_of_cond 4 Tryz.f4 rfl rfl rfl rfl rfl rfl rfl ⟨rfl, rfl, rfl, rfl, rfl⟩ rfl rfl rfl rfl rfl (by kernel_rfl) Tryz.func4 (by kernel_rfl)
    (of_decide_eq_true (by kernel_rfl)) (by unfold Func.isWrapper; first | (rw [if_pos (by decide +kernel)]; kernel_rfl) | (rw [if_neg (by decide +kernel)]; exact ⟨rfl, rfl⟩))
    (fun os started H enc _ F => by rw [OpenClaim.pre_eq_preRow]; exact topSwap_lifted os started H enc F)

theorem topswap_holds : Rows.TopSwapCardSaid :=
  Claim7.holds_tied_plain_at .later [] _ _ _ _
    topSwap_row (fun _ h => by cases h) (by kernel_rfl) (fun _ h => by cases h) topSwap_row_tie rfl ⟨rfl, rfl⟩ (by kernel_rfl) rfl
    (fun f fn hf hfn => by
      obtain rfl : f = 4 := Option.some.inj ((show Tryz.prog.funcNamed "sortkernel/sktop.TopSwap" = some 4 by kernel_rfl).symm.trans hf) |>.symm
      obtain rfl : fn = Tryz.f4 := (Option.some.inj (Tryz.func4.symm.trans hfn)).symm
      exact ⟨by kernel_rfl, fun j t ht => by
        rw [Tryz.params4] at ht
        have hm : t ∈ [3] := by
          have h := Array.mem_of_getElem? ht
          simp at h ⊢
          omega
        have hall : ([3].all fun u => !Tryz.prog.wantsStandIn u) = true := by kernel_rfl
        exact (show Tryz.prog.wantsStandIn t = false by simpa using List.all_eq_true.1 hall t hm)⟩)
    (by kernel_rfl)
end Go.Proofs.YtjboibbgigkhkaaGreatDoor

