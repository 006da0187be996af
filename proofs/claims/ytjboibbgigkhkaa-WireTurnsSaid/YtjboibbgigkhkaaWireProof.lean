/- Proved: the law WireTurns of package sklaw2 answers true at every input: a right term and a right declaration come back from their bytes, and bytes that are read are its own. Condition: the arguments bear no ring (a row's own cell). -/
import Derived.Test.YtjboibbgigkhkaaLaw
import Derived.Test.YtjboibbgigkhkaaArgsD
namespace Go.Proofs.Ytjboibbgigkhkaa
open Go.ChangeShapes Go.WideShapes Go.ChangeAt Go.RowKit
set_option linter.unusedVariables false

set_option maxRecDepth 100000 in
theorem wireturns_lifted (os : Os) (started : os.Started) (H : Type) (enc : TypeId × Value → H) :
    ReturnsInHanded {} Try.checked os 3 .any (Rows.wireTurnsSpec.pre6 enc Try.prog Try.f3 Rows.wireTurnsRow.domain false) (Rows.wireTurnsSpec.post enc Try.prog Try.f3 false true false false) := by
  refine returnsInHanded_of_change_sized (C := Try.checked) own started (by kernel_rfl) Try.func3
    (ChangeSpec.witness6 (enc := enc) (C := Try.checked) false ⟨#[], #[.agg #[.int .i64 0, .int .i64 0, .slice none 0 0], .agg #[.string ⟨#[]⟩, .int .i64 0, .int .i64 0, .slice none 0 0, .int .i64 0, .int .i64 0, .slice none 0 0], .slice none 0 0], []⟩ 8 (by kernel_rfl) (by kernel_rfl) (by kernel_rfl) (by kernel_rfl)) ?_
  intro W base args ds gs before hval0 hW hcnd hsz0 _
  have hval : ∀ (j : Nat) t v, Try.f3.params[j]? = some t → args[j]? = some v → Value.okWide Try.prog W .any base t v := hval0
  have hsz : (DataW.weightsEach Try.prog (Try.f3.params.toList ++ Rows.wireTurnsSpec.plain.varTypes Try.prog) (ds ++ gs)).all (· ≤ reachBytes) = true := hsz0
  have hW' := hW
  obtain ⟨p, q, hA0, hV, rfl, hfz, hnd⟩ := hW
  have hA : DataW.TrodAll enc Try.prog W 0 (fun _ => true) true Try.f3.params.toList args.toList ds p := hA0
  have hA1 := hA
  have hts : ∀ t ∈ Try.f3.params.toList, Try.prog.readableRec t = true ∧ t < Try.prog.types.size := by
    rw [Try.params3]
    intro t ht
    simp at ht
    rcases ht with rfl | rfl | rfl <;> exact ⟨by kernel_rfl, of_decide_eq_true (by kernel_rfl)⟩
  rw [Try.params3] at hA hval hsz
  obtain ⟨v0, v1, v2, d0, d1, d2, p0, p1, p2, rfl, rfl, rfl, h0, h1, h2⟩ := trodAll_three hA
  obtain ⟨rfl, rfl⟩ := trodVars_none hV
  obtain ⟨t, s, rfl, ht⟩ := term_arg (hval 0 _ v0 rfl rfl) h0
  obtain ⟨d, z, z', rfl, hz, hz'⟩ := decl_arg (hval 1 _ v1 rfl rfl) h1
  obtain ⟨l, hl, hd⟩ := bytes_arg (hval 2 _ v2 rfl rfl) h2
  have hll : l.length ≤ 140737488351232 := by
    rcases hd with rfl | ⟨elems, rest, rfl, he⟩
    · simp
    · have h := sized_slice hsz (j := 2) rfl rfl Try.underlying27
      have hb1 : Try.prog.bytesOf 5 = 1 := by kernel_rfl
      rw [hb1] at h
      simp only [reachBytes] at h
      omega
  clear hA0 hval0 hsz0 hval hsz hA hd
  simp only [List.append_nil] at hW'
  have hlt := hW'.lt
  refine (law_any t d l W s z z' v2 ht hz hz' hl hll).mono fun e W' ⟨he, hg⟩ => ?_
  subst he
  exact ⟨_, rfl, post_of_below (pa := p0 ++ p1 ++ p2) (pv := []) hW' (fun _ _ _ => (trodAll_cons_mk (shut_bool Try.underlying4 _) trodAll_mk0)) (fun sp hsp => args_stay laidOut hts hA1 (fun x hx => hg.same (hlt x hx)) hsp) (fun _ _ => rfl) (by simp)
    hg (ok_one (by kernel_rfl) rfl (okWide_bool_mk Try.underlying4 _))⟩

theorem wireturns_holds : Rows.WireTurnsSaid :=
  OpenClaim.holds_of_wide 3 Try.f3 rfl rfl rfl rfl rfl rfl rfl ⟨rfl, rfl, rfl, rfl, rfl⟩ rfl rfl rfl rfl rfl (by kernel_rfl) Try.func3 (by kernel_rfl)
    (of_decide_eq_true (by kernel_rfl)) (by unfold Func.isWrapper; first | (rw [if_pos (by decide +kernel)]; kernel_rfl) | (rw [if_neg (by decide +kernel)]; exact ⟨rfl, rfl⟩))
    (fun os started H enc _ => wireturns_lifted os started H enc)
end Go.Proofs.Ytjboibbgigkhkaa
