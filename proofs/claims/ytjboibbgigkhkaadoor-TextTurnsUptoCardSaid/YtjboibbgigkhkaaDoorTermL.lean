/- Lemmas for the reader's Term: what is left is a part of what was there; rows of texts. -/
import Derived.Test.YtjboibbgigkhkaaDoorAtom
namespace Go.Proofs.YtjboibbgigkhkaaDoor
open Go.RowKit
set_option maxRecDepth 100000

theorem wst_len : ∀ s : Str, (wst s).1.length ≤ s.length ∧ ∀ x ∈ (wst s).2, x.length ≤ s.length := by
  intro s
  induction s with
  | nil => exact ⟨Nat.le_refl _, fun x h => by cases h⟩
  | cons c r ih =>
    have hf : ∀ x ∈ flush (wst r).1 (wst r).2, x.length ≤ r.length := by
      intro x hx
      unfold flush at hx
      split at hx
      · exact ih.2 x hx
      · cases hx with
        | head => exact ih.1
        | tail _ hx => exact ih.2 x hx
    rw [wst]
    by_cases h : isStop c = true
    · rw [if_pos h]
      refine ⟨by simp, fun x hx => ?_⟩
      dsimp only at hx
      by_cases h2 : isBr c = true
      · rw [if_pos h2] at hx
        cases hx with
        | head => simp
        | tail _ hx => have := hf x hx; simp; omega
      · rw [if_neg h2] at hx
        have := hf x hx
        simp; omega
    · rw [if_neg h]
      refine ⟨by have := ih.1; simp; omega, fun x hx => ?_⟩
      have := ih.2 x hx
      simp; omega

theorem words_len (s : Str) : ∀ x ∈ words s, x.length ≤ s.length := by
  intro x hx
  unfold words flush at hx
  split at hx
  · exact (wst_len s).2 x hx
  · cases hx with
    | head => exact (wst_len s).1
    | tail _ hx => exact (wst_len s).2 x hx

theorem RBox.len {w : World} {R : Nat} {D : Value} {p : PS} (h : RBox w R D p) : p.take.1.length ≤ 1000000000000 := by
  obtain ⟨s, h1, h2, -⟩ := h
  rw [(take_of_words p).1]
  cases hl : p.l with
  | nil => simp
  | cons a r =>
    have := words_len s a (by rw [h2, hl]; exact List.mem_cons_self ..)
    simp; omega

/-- no word begins with U -/
def noU (p : PS) : Prop := ∀ x ∈ p.l, x.head? ≠ some 85

theorem noU.sub {p q : PS} (h : noU p) (hs : q.l <:+ p.l) : noU q := fun x hx => h x (hs.subset hx)

theorem fail_l (c : Int) (p : PS) : (p.fail c).l = p.l := by unfold PS.fail; split <;> rfl
theorem take_l (p : PS) : p.take.2.l <:+ p.l := by
  obtain ⟨l, e⟩ := p
  cases l with
  | nil => simp only [PS.take]; rw [fail_l]; exact List.suffix_refl _
  | cons a r => exact List.suffix_cons ..

section
variable {cn : Str → Option Int} {decls : List Str}
theorem height_l (d : Str) (p : PS) : (height cn d p).2.l = p.l := by
  unfold height
  split
  · exact fail_l _ _
  · split
    · exact fail_l _ _
    · rfl
theorem atom_l (x : Str) (bound : List Str) (p : PS) : (atom cn decls x bound p).2.l = p.l := by
  unfold atom
  split
  · exact height_l _ _
  · split
    · split
      · rfl
      · exact fail_l _ _
    · split
      · exact fail_l _ _
      · split
        · rfl
        · split
          · rfl
          · exact fail_l _ _
theorem binders_l : ∀ (n : Nat) (b : List Str) (p : PS), (binders n b p).2.l <:+ p.l := by
  intro n
  induction n with
  | zero => intro b p; exact List.suffix_refl _
  | succ n ih =>
    intro b p
    rw [binders]
    refine (ih _ _).trans ?_
    split
    · exact take_l p
    · rw [fail_l]; exact take_l p
theorem pargs_l {g : List Str → PS → T × PS} (hg : ∀ b p, (g b p).2.l <:+ p.l) (bound : List Str) : ∀ (sh : List Nat) (p : PS), (pargs g bound sh p).2.l <:+ p.l := by
  intro sh
  induction sh with
  | nil => intro p; exact List.suffix_refl _
  | cons n r ih =>
    intro p
    rw [pargs]
    dsimp only
    refine (ih _).trans ((hg _ _).trans ?_)
    split
    · rw [fail_l]; exact binders_l n bound p
    · exact binders_l n bound p
theorem headKind_l (p : PS) : (headKind p).2.l <:+ p.l := by
  unfold headKind
  split
  · exact take_l p
  · exact List.suffix_refl _
theorem pterm_l : ∀ (f : Nat) (bound : List Str) (p : PS), (pterm cn decls f bound p).2.l <:+ p.l := by
  intro f
  induction f with
  | zero => intro b p; rw [pterm, fail_l]; exact List.suffix_refl _
  | succ f ih =>
    intro b p
    rw [pterm]
    split
    · exact List.suffix_refl _
    · split
      · rw [atom_l]; exact take_l p
      · dsimp only
        have h1 : (closed (pargs (pterm cn decls f) b ((shape (headKind p.take.2).1).getD []) (headKind p.take.2).2).2).l <:+ (pargs (pterm cn decls f) b ((shape (headKind p.take.2).1).getD []) (headKind p.take.2).2).2.l := by
          unfold closed
          split
          · exact take_l _
          · rw [fail_l]; exact take_l _
        exact h1.trans ((pargs_l ih b _ _).trans ((headKind_l _).trans (take_l p)))
end

def strc (l : List Str) : List Value := l.map fun s => .string ⟨s.toArray⟩
theorem strc_get (l : List Str) (j : Nat) : (strc l)[j]? = (l[j]?).map fun s => Value.string ⟨s.toArray⟩ := by simp [strc]
theorem strc_one (l : List Str) : ∀ u ∈ strc l, u.oneCell' = true := by
  intro u hu
  simp [strc] at hu
  obtain ⟨s, -, rfl⟩ := hu
  rfl

theorem Strs.reads {w : World} {R : Nat} {l : List Str} {A : Option Addr} {cap : Nat} (h : Strs w R l (.slice A l.length cap)) : Reads w w.heap.size 1 A l.length (strc l) := by
  obtain ⟨A', cap', e, h2, h3, h4⟩ := h
  cases e
  refine ⟨by simp [strc], fun hn => ?_⟩
  obtain ⟨b, off, e, hb, -, hc⟩ := h4 (by intro e; subst e; simp at hn)
  refine ⟨_, e, hb, fun j u hu => ?_⟩
  rw [strc_get] at hu
  cases hj : l[j]? with
  | none => rw [hj] at hu; cases hu
  | some s =>
    rw [hj] at hu
    simp only [Option.map_some, Option.some.injEq] at hu
    subst hu
    rw [Go.WideShapes.add_plain]
    exact hc j s hj

/-- a row of the call's own, of texts -/
theorem Strs.own {w : World} {R base : Nat} {l : List Str} {V : Value} (h : w.ownsRow base 9 1 V l.length (strc l)) (hR : R < base) : Strs w R l V := by
  rcases id h.2 with ⟨rfl, h0⟩ | ⟨g, cap, cur, rfl, hb, hh, hle, hm, -⟩
  · have : l = [] := List.eq_nil_of_length_eq_zero h0
    subst this
    exact ⟨none, 0, rfl, Nat.le_refl _, by unfold maxLen; omega, fun h => absurd rfl h⟩
  · refine ⟨_, cap, rfl, hle, hm, fun _ => ⟨g, 0, rfl, (h.lt g rfl).2, by omega, fun j s hj => ?_⟩⟩
    have := h.cells (g := g) rfl j (.string ⟨s.toArray⟩) (by rw [strc_get, hj]; rfl)
    rwa [Go.WideShapes.add_plain] at this

theorem own_but {w w' : World} {R base : Nat} {e : TypeId} {n : Nat} {V : Value} {xs : List Value} (h : w.ownsRow base e 1 V n xs) (hR : R < base) (hb : But R w.heap.size w w') : w'.ownsRow base e 1 V n xs := by
  refine h.kept (row := some R) ⟨hb.os, hb.tape, hb.output, hb.size, fun k hk hx => hb.block k hk (fun e => hx (by rw [e]))⟩ ?_
  cases hV : V.ownBlock with
  | none => exact .inl rfl
  | some g => exact .inr (fun e => absurd (h.lt R (hV.trans e)).1 (by omega))

theorem own_empty (w : World) (base : Nat) (hb : base ≤ w.heap.size) (e : TypeId) : (w.alloc (.cells #[] e)).ownsRow base e 1 (.slice (some ⟨w.heap.size, 0, none⟩) 0 0) 0 [] := by
  refine ⟨rfl, .inr ⟨w.heap.size, 0, #[], rfl, hb, heap_alloc_new w _, Nat.le_refl _, by unfold maxLen; omega, rfl, rfl⟩⟩
end Go.Proofs.YtjboibbgigkhkaaDoor
