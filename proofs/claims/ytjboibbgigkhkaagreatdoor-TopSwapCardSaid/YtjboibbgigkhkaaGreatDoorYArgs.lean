/- Arguments as they lie in memory: a term, a declaration, a slice of bytes, a slice of strings. -/
import Derived.Test.YtjboibbgigkhkaaGreatDoorYReads
import Derived.ChangeArms
import Derived.Deep.Slices
import Derived.Deep.Fields
import Derived.ChangeSame
import Derived.Lib.SmallJoins
import Derived.SizedLaws
import Derived.WideKeyArgs
import Derived.OpenShut
namespace Go.Proofs.YtjboibbgigkhkaaGreatDoor
set_option maxRecDepth 100000
open Go.RowKit Go.Joins Go.ChangeShapes Go.WideShapes Go.Deep

section
variable {H : Type} {enc : TypeId × Value → H} {P : Program} {w : World} {base : Nat} {spare : Nat → Bool} {held : Bool}

theorem trod3 {t : TypeId} {f0 f1 f2 : Field} (hs : P.underlying t = some (.struct #[f0, f1, f2])) (hone : oneCellFields P #[f0, f1, f2] = true) (hC : P.cellsOf t = 3) {fuel : Nat} {cs : List Value} {x : DataW H × List MemPlace}
    (h : DataW.trod enc P w base spare held fuel t cs = some x) : ∃ (c0 c1 c2 : Value) (y0 y1 y2 : DataW H × List MemPlace) (n : Nat), fuel = n + 1 ∧ cs = [c0, c1, c2] ∧
      DataW.trod enc P w base spare held n f0.type [c0] = some y0 ∧ DataW.trod enc P w base spare held n f1.type [c1] = some y1 ∧ DataW.trod enc P w base spare held n f2.type [c2] = some y2 := by
  obtain ⟨xs, n, rfl, -, hcl, hlen, hg⟩ := DataW.trod_struct hs h
  rw [hC] at hcl
  obtain ⟨o0, k0⟩ := hone_of hone 0 f0 rfl
  obtain ⟨o1, k1⟩ := hone_of hone 1 f1 rfl
  obtain ⟨o2, k2⟩ := hone_of hone 2 f2 rfl
  match cs, hcl with
  | [c0, c1, c2], _ =>
    match xs, hlen with
    | [y0, y1, y2], _ =>
      exact ⟨c0, c1, c2, y0, y1, y2, n, rfl, rfl, by simpa [o0, k0] using hg 0 f0 rfl, by simpa [o1, k1] using hg 1 f1 rfl, by simpa [o2, k2] using hg 2 f2 rfl⟩
end

theorem choose_list {α : Type} {Q : Nat → α → Prop} {n : Nat} (h : ∀ i, i < n → ∃ a, Q i a) : ∃ l : List α, l.length = n ∧ ∀ i a, l[i]? = some a → Q i a := by
  induction n with
  | zero => exact ⟨[], rfl, fun i a h => by simp at h⟩
  | succ n ih =>
    obtain ⟨l, hl, hq⟩ := ih fun i hi => h i (by omega)
    obtain ⟨a, ha⟩ := h n (by omega)
    refine ⟨l ++ [a], by simp [hl], fun i b hb => ?_⟩
    rcases Nat.lt_or_ge i l.length with h1 | h1
    · rw [List.getElem?_append_left h1] at hb; exact hq i b hb
    · rw [List.getElem?_append_right h1] at hb
      have h0 : i - l.length = 0 := by
        rcases Nat.eq_zero_or_pos (i - l.length) with h0 | h0
        · exact h0
        · rw [List.getElem?_eq_none (by simp; omega)] at hb; cases hb
      rw [h0] at hb
      simp only [List.getElem?_cons_zero, Option.some.injEq] at hb
      subst hb
      have : i = n := by omega
      subst this
      exact ha

section
variable {H : Type} {enc : TypeId × Value → H} {w : World} {base : Nat} {spare : Nat → Bool} {held : Bool}

theorem elem_of {P : Program} {e : TypeId} {a : Addr} {i n : Nat} {elems : List (DataW H × List MemPlace)} (hlt : i < elems.length) (h : (w.cells? base (a.add (i * P.cellsOf e)) (P.cellsOf e)).bind (DataW.trod enc P w base spare held n e) = elems[i]?) :
    ∃ cs' x', w.cells? base (a.add (i * P.cellsOf e)) (P.cellsOf e) = some cs' ∧ DataW.trod enc P w base spare held n e cs' = some x' := by
  rw [List.getElem?_eq_getElem hlt] at h
  cases hc : w.cells? base (a.add (i * P.cellsOf e)) (P.cellsOf e) with
  | none => rw [hc] at h; cases h
  | some cs' => rw [hc] at h; exact ⟨cs', _, rfl, h⟩

theorem Tryz.cellsTm : Tryz.prog.cellsOf 30 = 3 := by kernel_rfl
theorem Tryz.oneTm : ∀ fs, Tryz.prog.underlying 30 = some (.struct fs) → oneCellFields Tryz.prog fs = true := by
  intro fs h
  rw [Tryz.underlying30] at h
  injection h with h
  injection h with h
  subst h
  kernel_rfl

/-- a term that came in -/
theorem term_of_trod : ∀ (fuel : Nat) (cs : List Value) (x : DataW H × List MemPlace), DataW.trod enc Tryz.prog w base spare held fuel 30 cs = some x →
    ∃ (t : T) (s : Value), cs = [.int .i64 t.k, .int .i64 t.n, s] ∧ argsIn w w.heap.size t s := by
  intro fuel
  induction fuel using Nat.strongRecOn with
  | _ fuel ih =>
  intro cs x h
  obtain ⟨c0, c1, c2, y0, y1, y2, n, rfl, rfl, h0, h1, h2⟩ := trod3 Tryz.underlying30 (Tryz.oneTm _ Tryz.underlying30) Tryz.cellsTm h
  obtain ⟨k, e0, -, -⟩ := DataW.trod_int Tryz.underlying3 h0
  obtain ⟨m, e1, -, -⟩ := DataW.trod_int Tryz.underlying3 h1
  injection e0 with e0 _
  injection e1 with e1 _
  subst e0 e1
  rcases DataW.trod_slice Tryz.underlying28 h2 with ⟨e, -⟩ | ⟨a, len, cap, elems, rest, n', hn', e, -, hb, hl, hm, hel, hi, -, -⟩
  · injection e with e _
    subst e
    exact ⟨.mk k m [], _, rfl, argsIn_iff.2 ⟨none, 0, rfl, by simp [T.al], by unfold maxLen; omega, fun h => absurd rfl h⟩⟩
  · injection e with e _
    subst e
    have hall : ∀ i, i < len → ∃ t : T, ∃ s : Value, w.cell? (a.add (i * 3)) = some (.int .i64 t.k) ∧ w.cell? (a.add (i * 3 + 1)) = some (.int .i64 t.n) ∧ w.cell? (a.add (i * 3 + 2)) = some s ∧ argsIn w w.heap.size t s := by
      intro i hlt
      obtain ⟨cs', x', hc, ht⟩ := elem_of (by omega) (hi i hlt)
      rw [Tryz.cellsTm] at hc
      obtain ⟨t, s, rfl, ha⟩ := ih n' (by omega) cs' x' ht
      obtain ⟨_, _, hat⟩ := World.cells?_some hc
      refine ⟨t, s, ?_, ?_, ?_, ha⟩
      · simpa [Addr.add] using hat 0 (by omega)
      · have := hat 1 (by omega); rw [Go.Deep.add_add] at this; simpa using this
      · have := hat 2 (by omega); rw [Go.Deep.add_add] at this; simpa using this
    obtain ⟨al, hal, hq⟩ := choose_list hall
    refine ⟨.mk k m al, _, rfl, argsIn_iff.2 ⟨some a, cap, by simp [T.al, hal], by simp only [T.al]; omega, hm, fun hne => ?_⟩⟩
    have h0 : 0 < al.length := List.length_pos_iff.2 hne
    obtain ⟨s0, z1, -⟩ := hq 0 _ (List.getElem?_eq_getElem h0)
    obtain ⟨b, off, spot⟩ := a
    have hsp : spot = none := by simpa [Addr.add] using World.cell?_spot z1
    subst hsp
    have hblt := World.block_lt_of_cell? _ _ z1
    rw [add_plain] at hblt
    refine ⟨b, off, rfl, hblt, cellsInS.mk_ fun i t ht => ?_⟩
    obtain ⟨s, a1, a2, a3, a4⟩ := hq i t ht
    rw [add_plain] at a1 a2 a3
    exact ⟨s, a1, by rwa [Nat.add_assoc], by rwa [Nat.add_assoc], a4⟩

/-- a parameter that is a term -/
theorem term_arg {r : Reach} {b0 : Nat} {v : Value} {d : DataW H} {p : List MemPlace} (hv : Value.okWide Tryz.prog w r b0 30 v) (h : DataW.Trod enc Tryz.prog w base spare held 30 v d p) :
    ∃ (t : T) (s : Value), v = .agg #[.int .i64 t.k, .int .i64 t.n, s] ∧ argsIn w w.heap.size t s := by
  obtain ⟨⟨l⟩, rfl, hsz⟩ := okWide_struct Tryz.underlying30 hv
  obtain ⟨fuel, hf⟩ := h
  obtain ⟨t, s, e, ha⟩ := term_of_trod _ _ _ hf
  have e' : l = [.int .i64 t.k, .int .i64 t.n, s] := by simpa [Value.cells] using e
  subst e'
  exact ⟨t, s, rfl, ha⟩

/-- what the arguments are made of stays: so they read as before -/
theorem args_stay {P : Program} (hl : laidOutB P = true) {W W' : World} {sp : Nat → Bool} : ∀ {ts : List TypeId} {vs : List Value} {ds : List (DataW H)} {ps : List MemPlace}, (∀ t ∈ ts, P.readableRec t = true ∧ t < P.types.size) →
    DataW.TrodAll enc P W 0 (fun _ => true) true ts vs ds ps → (∀ p ∈ ps, W.sameAt W' p) → (∀ p ∈ ps, sp p.block = true) → DataW.TrodAll enc P W' 0 sp true ts vs ds ps := by
  intro ts
  induction ts with
  | nil =>
    intro vs ds ps _ h _ _
    obtain ⟨rfl, rfl, rfl⟩ := trodAll_nil h
    exact trodAll_mk0
  | cons t ts ih =>
    intro vs ds ps hts h hsame hs
    obtain ⟨v, vs', d, ds', p, q, rfl, rfl, rfl, hd, hrest⟩ := trodAll_cons h
    exact trodAll_cons_mk (Go.WideElems.Trod_stays hl (hts t (List.mem_cons_self ..)).1 (hts t (List.mem_cons_self ..)).2 hd (fun x hx => hsame x (List.mem_append_left _ hx)) (fun x hx => hs x (List.mem_append_left _ hx)))
      (ih (fun t' ht' => hts t' (List.mem_cons_of_mem _ ht')) hrest (fun x hx => hsame x (List.mem_append_right _ hx)) (fun x hx => hs x (List.mem_append_right _ hx)))
end
end Go.Proofs.YtjboibbgigkhkaaGreatDoor

