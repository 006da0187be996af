/- A look-up in a map with bools for its elements, that the call made: the law at the operation (the kit has one for integers and for struct{} alone). -/
import Derived.Maps.OwnSet
import Derived.Test.YtjboibbgigkhkaaDoorBase
namespace Go.Proofs.YtjboibbgigkhkaaDoor
open Go.Maps

section
variable {H : Type} {P : Program}
theorem elem_bool_inv {e : TypeId} (he : P.underlying e = some .bool) {v : Value} {z : DataW H × List MemPlace} (h : plainElem P e v = some z) : ∃ x, v = .bool x ∧ z = (.lit (.bool x), []) := by
  unfold plainElem at h
  rw [he] at h
  cases v <;> simp at h
  exact ⟨_, rfl, h.symm⟩

theorem look_own_bool (w : World) {ops : Array Oper} {rest : List Oper} {o : Oper} {a : Act} {Q : Exit → Act → World → Prop} (hg : o.guard = none) (m x : Operand) (t : TypeId) (hop : o.op = Op.lookup t m x false)
    (k e : TypeId) (K : Keyed P k) (ht : P.underlying t = some (.map k e)) (he : P.underlying e = some .bool) (hz : (zeroValue e).run P w = .ok (.bool false) w) (b n : Nat) (D : DataW H)
    (hm : a.eval m = .map (some b)) (hown : w.ownsMap P k (plainElem P e) b n D) (key : Value) (kl : Lit) (hx : a.eval x = key) (hkey : keyOf P k key = some kl)
    (hK : ∀ c : Bool, D.atKey kl (.lit (.bool false)) = .lit (.bool c) → wpList P ops Q rest (a.put o.dst (.bool c)) w) : wpList P ops Q (o :: rest) a w := by
  refine wpList_plain hg fun K' hK' => ?_
  obtain ⟨v, ps, hrun, hv⟩ := hown.lookup K ht hz (plainElem_bool he false) hkey
  obtain ⟨c, rfl, hc⟩ := elem_bool_inv he hv
  simp only [Prod.mk.injEq] at hc
  unfold Oper.wp
  simp [execOp, hop, hm, hx, hrun, Result.andThen]
  exact hK' _ _ (hK c hc.1)
end

theorem own_look_bool {H : Type} {P : Program} {w : World} {t k e : TypeId} {b n : Nat} {D : DataW H} (hown : w.ownsMap P k (plainElem P e) b n D) (K : Keyed P k) (ht : P.underlying t = some (.map k e)) (he : P.underlying e = some .bool) (hz : (zeroValue e).run P w = .ok (.bool false) w)
    {key : Value} {kl : Lit} (hkey : keyOf P k key = some kl) {c : Bool} (hc : D.atKey kl (.lit (.bool false)) = .lit (.bool c)) : (Instr.lookup t (.map (some b)) key false).run P w = .ok (.bool c) w := by
  obtain ⟨v, ps, hrun, hv⟩ := hown.lookup K ht hz (plainElem_bool he false) hkey
  obtain ⟨c', rfl, hc'⟩ := elem_bool_inv he hv
  simp only [Prod.mk.injEq] at hc'
  rw [hc'.1] at hc
  injection hc with hc
  injection hc with hc
  rw [hrun, hc]

/-- the map holds true just at these texts -/
def Had (D : DataW Unit) (l : List (List UInt8)) : Prop := IsMap D ∧ ∀ x : List UInt8, D.atKey (.string x) (.lit (.bool false)) = .lit (.bool (decide (x ∈ l)))
theorem had_none : Had (.map []) [] := ⟨isMap_empty, fun x => by simp [DataW.atKey]⟩
theorem had_put {D : DataW Unit} {l : List (List UInt8)} (h : Had D l) (x : List UInt8) : Had (D.put (.string x) (.lit (.bool true))) (l ++ [x]) := by
  refine ⟨h.1.put _ _, fun y => ?_⟩
  by_cases hy : y = x
  · subst hy
    rw [atKey_put_same (k := .string y) h.1 trivial]
    simp
  · rw [atKey_put_other (by intro e; injection e with e; exact hy e), h.2 y]
    simp [hy]
end Go.Proofs.YtjboibbgigkhkaaDoor
