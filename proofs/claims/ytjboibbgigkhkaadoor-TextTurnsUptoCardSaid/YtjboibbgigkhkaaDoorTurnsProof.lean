/- Proved: the law TextTurns of package sklaw3 answers true at every input of bulk at most the bound of its second form: a right term comes back from its text, and what is read is written so that it is read as the same. The card. -/
import Derived.Test.YtjboibbgigkhkaaDoorLawTurns
import Derived.Test.YtjboibbgigkhkaaDoorArgsS
import Derived.Test.YtjboibbgigkhkaaDoorLaidV
import Derived.Test.YtjboibbgigkhkaaDoorTie
import Derived.Test.YtjboibbgigkhkaaDoorCards
import Derived.SevenTiedAt
import Derived.Stop.Joined
import Derived.ChangeMaps5
namespace Go.Proofs.YtjboibbgigkhkaaDoor
open Go.ChangeShapes Go.WideShapes Go.ChangeAt Go.RowKit Go.ChangeMaps
set_option linter.unusedVariables false

section
variable {H : Type} {enc : TypeId × Value → H} {P : Program} {w : World} {base : Nat} {spare : Nat → Bool} {held : Bool}
theorem trodAll_four {t0 t1 t2 t3 : TypeId} {args : Array Value} {ds : List (DataW H)} {ps : List MemPlace} (h : DataW.TrodAll enc P w base spare held [t0, t1, t2, t3] args.toList ds ps) :
    ∃ v0 v1 v2 v3 d0 d1 d2 d3 p0 p1 p2 p3, args = #[v0, v1, v2, v3] ∧ ds = [d0, d1, d2, d3] ∧ ps = p0 ++ (p1 ++ (p2 ++ p3)) ∧ DataW.Trod enc P w base spare held t0 v0 d0 p0 ∧ DataW.Trod enc P w base spare held t1 v1 d1 p1 ∧ DataW.Trod enc P w base spare held t2 v2 d2 p2 ∧ DataW.Trod enc P w base spare held t3 v3 d3 p3 := by
  obtain ⟨v0, vs0, d0, ds0, p0, q0, hargs, rfl, rfl, h0, hr0⟩ := trodAll_cons h
  obtain ⟨v1, vs1, d1, ds1, p1, q1, rfl, rfl, rfl, h1, hr1⟩ := trodAll_cons hr0
  obtain ⟨v2, vs2, d2, ds2, p2, q2, rfl, rfl, rfl, h2, hr2⟩ := trodAll_cons hr1
  obtain ⟨v3, vs3, d3, ds3, p3, q3, rfl, rfl, rfl, h3, hr3⟩ := trodAll_cons hr2
  obtain ⟨rfl, rfl, rfl⟩ := trodAll_nil hr3
  refine ⟨v0, v1, v2, v3, d0, d1, d2, d3, p0, p1, p2, p3, ?_, rfl, by simp, h0, h1, h2, h3⟩
  obtain ⟨l⟩ := args
  simp at hargs
  rw [hargs]
end

/-- what the list gives the walk -/
theorem turns_vars {W : World} (hsh : W.ShapedOpen Tryd.prog) (h : laidMetH Tryd.prog Rows.textTurnsUptoRow.laid W) : Vars W := by
  rw [MakeChecks.laidMetH_plain _ _ _ (by kernel_rfl)] at h
  have h2 := h.tail.tail
  have hT := Lib.tabIs_of_head (k := .u64) (zs := Lib.pow10Tab) gPow gPowType Tryd.underlying119 Tryd.underlying104 cellsU64 cellsPow h2
  have hR := laid_iface h2.tail.tail gRan gRanType Tryd.underlying73
  have hS := laid_iface h2.tail.tail.tail gSyn gSynType Tryd.underlying73
  exact ⟨shaped_eight hsh, hT, hS, hR⟩

set_option maxRecDepth 100000 in
theorem textturns_lifted (os : Os) (started : os.Started) (H : Type) (enc : TypeId × Value → H) (F : Stop.Interp) :
    ReturnsInHanded {} Tryd.checked os 5 .any ((Rows.OpenSpec.upto Rows.textTurnsSpec).preRow enc Tryd.prog Tryd.f5 Rows.textTurnsUptoRow.domain false Rows.textTurnsUptoRow.laid)
      (((Rows.OpenSpec.upto Rows.textTurnsSpec).at F).post enc Tryd.prog Tryd.f5 false true false false) := by
  refine returnsInHanded_of_row (C := Tryd.checked) (s := Rows.OpenSpec.upto Rows.textTurnsSpec) own started (by kernel_rfl) Tryd.func5
    (witness_shaped_row (enc := enc) (C := Tryd.checked) (os := os) false (World.laidAll Tryd.prog os Rows.textTurnsUptoRow.laid) #[.string .empty, .agg #[.int .i64 0, .int .i64 0, .slice none 0 0], .slice none 0 0, .slice none 0 0] (World.laidAll_os _ _ _)
      (World.shaped_of_ZipB (by kernel_rfl) (by kernel_rfl)) (by kernel_rfl)
      (OpenSpec.preRow_of_cond 8 (x := ([.lit (.string []), .agg [.lit (.int .i64 0), .lit (.int .i64 0), .nil], .nil, .nil], [], [])) (by kernel_rfl) (by kernel_rfl) (fun k hk => by cases hk; kernel_rfl) (by kernel_rfl)
        (by rw [MakeChecks.laidMetH_plain _ _ _ (by kernel_rfl)]; exact laidMet_laidAll _ (by kernel_rfl) (by kernel_rfl)))) ?_
  intro W base args ds gs before hval0 hW _ hcond _ hL hsh _
  have hval : ∀ (j : Nat) t v, Tryd.f5.params[j]? = some t → args[j]? = some v → Value.okWide Tryd.prog W .any base t v := hval0
  have hW' := hW
  obtain ⟨p, q, hA0, hV, rfl, hfz, hnd⟩ := hW
  have hA : DataW.TrodAll enc Tryd.prog W 0 (fun _ => true) true Tryd.f5.params.toList args.toList ds p := hA0
  have hA1 := hA
  have hts : ∀ t ∈ Tryd.f5.params.toList, Tryd.prog.readableRec t = true ∧ t < Tryd.prog.types.size := by
    rw [Tryd.params5]
    intro t ht
    simp at ht
    rcases ht with rfl | rfl | rfl <;> exact ⟨by kernel_rfl, of_decide_eq_true (by kernel_rfl)⟩
  rw [Tryd.params5] at hA hval
  obtain ⟨v0, v1, v2, v3, d0, d1, d2, d3, p0, p1, p2, p3, rfl, rfl, rfl, h0, h1, h2, h3⟩ := trodAll_four hA
  obtain ⟨rfl, rfl⟩ := trodVars_none hV
  have hk : Rows.uptoBulkAll ([d0, d1, d2, d3] ++ []) ≤ 1048576 := of_decide_eq_true (hcond _ rfl)
  simp only [List.append_nil, Rows.uptoBulkAll] at hk
  obtain ⟨s, rfl, rfl, rfl, hmax⟩ := open_string Tryd.underlying9 (hval 0 _ v0 rfl rfl) h0
  obtain ⟨t, ts, rfl, ht⟩ := term_arg (hval 1 _ v1 rfl rfl) h1
  obtain ⟨bound, hb, hb1, hb2⟩ := strs_arg (hval 2 _ v2 rfl rfl) h2
  obtain ⟨decls, hd, hd1, hd2⟩ := strs_arg (hval 3 _ v3 rfl rfl) h3
  rw [bulk_string] at hk
  clear hA0 hval0 hval hA
  simp only [List.append_nil] at hW'
  have hlt := hW'.lt
  have hw := lawturns_any s.data.toList t bound decls W ts v2 v3 (turns_vars hsh hL) ht hb hd (by omega) (by omega) (by omega) (fun x hx => by
    rcases List.mem_append.1 hx with hx | hx
    · have := hb2 x hx; omega
    · have := hd2 x hx; omega)
  rw [bytes_eta] at hw
  refine hw.mono fun e W' ⟨he, hg⟩ => ?_
  subst he
  exact ⟨_, rfl, post_of_below (pa := [] ++ (p1 ++ (p2 ++ p3))) (pv := []) hW' (fun _ _ _ => (trodAll_cons_mk (shut_bool Tryd.underlying4 _) trodAll_mk0)) (fun sp hsp => args_stay laidOut hts hA1 (fun x hx => hg.same (hlt x hx)) hsp) (fun _ _ => rfl) (by simp)
    hg (ok_one (by kernel_rfl) rfl (okWide_bool_mk Tryd.underlying4 _))⟩

theorem textturns_row : Rows.TextTurnsUptoSaid :=
  OpenClaim.holds_of_cond 5 Tryd.f5 rfl rfl rfl rfl rfl rfl rfl ⟨rfl, rfl, rfl, rfl, rfl⟩ rfl rfl rfl rfl rfl (by kernel_rfl) Tryd.func5 (by kernel_rfl)
    (of_decide_eq_true (by kernel_rfl)) (by unfold Func.isWrapper; first | (rw [if_pos (by decide +kernel)]; kernel_rfl) | (rw [if_neg (by decide +kernel)]; exact ⟨rfl, rfl⟩))
    (fun os started H enc _ F => by rw [OpenClaim.pre_eq_preRow]; exact textturns_lifted os started H enc F)

theorem textturns_holds : Rows.TextTurnsUptoCardSaid :=
  Claim7.holds_tied_plain_at .later [] _ _ _ _
    textturns_row (fun _ h => by cases h) (by kernel_rfl) (fun _ h => by cases h) textTurnsUpto_row_tie rfl ⟨rfl, rfl⟩ (by kernel_rfl) rfl
    (fun f fn hf hfn => by
      obtain rfl : f = 5 := Option.some.inj ((show Tryd.prog.funcNamed "sortkernel/sklaw3.TextTurns" = some 5 by kernel_rfl).symm.trans hf) |>.symm
      obtain rfl : fn = Tryd.f5 := (Option.some.inj (Tryd.func5.symm.trans hfn)).symm
      exact ⟨by kernel_rfl, fun j t ht => by
        rw [Tryd.params5] at ht
        have hm : t ∈ [9, 24, 36] := by
          have h := Array.mem_of_getElem? ht
          simp at h ⊢
          omega
        have hall : ([9, 24, 36].all fun u => !Tryd.prog.wantsStandIn u) = true := by kernel_rfl
        exact (show Tryd.prog.wantsStandIn t = false by simpa using List.all_eq_true.1 hall t hm)⟩)
    (by kernel_rfl)
end Go.Proofs.YtjboibbgigkhkaaDoor
