/- Plain: how long a term's text gets; names that are unlike, and begin with no x. No program here. -/
import Derived.Test.YtjboibbgigkhkaaDoorPrintP
namespace Go.Proofs.YtjboibbgigkhkaaDoor

def tot : List Str → Nat
  | [] => 0
  | a :: r => a.length + 1 + tot r
theorem tot_append : ∀ (a b : List Str), tot (a ++ b) = tot a + tot b := by
  intro a b
  induction a with
  | nil => simp [tot]
  | cons x a ih => rw [List.cons_append, tot, tot, ih]; omega
theorem joinB_tot : ∀ l : List Str, (joinB l).length ≤ tot l := by
  intro l
  induction l with
  | nil => simp [joinB, tot]
  | cons a r ih =>
    cases r with
    | nil => simp [joinB, tot]
    | cons b r =>
      have e : (joinB (a :: b :: r)).length = a.length + ((joinB (b :: r)).length + 1) := by rw [joinB, List.length_append, List.length_cons]
      have e2 : tot (a :: b :: r) = a.length + 1 + tot (b :: r) := rfl
      omega
theorem tot_fresh : ∀ (n i : Nat), tot (fresh n i) = 3 * n := by
  intro n
  induction n with
  | zero => intro i; rfl
  | succ n ih => intro i; rw [fresh, tot, ih]; simp [xname]; omega
theorem fresh_short : ∀ (n i : Nat), ∀ x ∈ fresh n i, x.length ≤ 8 := by
  intro n
  induction n with
  | zero => intro i x h; cases h
  | succ n ih =>
    intro i x h
    cases h with
    | head => simp [xname]
    | tail _ h => exact ih _ x h
theorem word_short (k : Nat) : (word k).length ≤ 6 := by
  have key : ∀ (p : Prop) [Decidable p] (a b : Str), a.length ≤ 6 → b.length ≤ 6 → (if p then a else b).length ≤ 6 := by
    intro p _ a b h1 h2
    split
    · exact h1
    · exact h2
  unfold word
  repeat refine key _ _ _ (by decide) ?_
  decide
theorem shape_two (k : Int) : ∀ x ∈ (shape k).getD [], x ≤ 2 := by
  unfold shape
  repeat' split
  all_goals simp

theorem getD_short {l : List Str} (h : ∀ x ∈ l, x.length ≤ 8) (i : Nat) : ((l[i]?).getD []).length ≤ 8 := by
  cases e : l[i]? with
  | none => simp
  | some x => exact h x (List.mem_of_getElem? e)
theorem leaf_short {decls b : List Str} (hd : ∀ x ∈ decls, x.length ≤ 8) (hb : ∀ x ∈ b, x.length ≤ 8) (k n : Int) : (leaf decls b k n).length ≤ 8 := by
  unfold leaf
  split
  · exact getD_short hb _
  · split
    · simp [dig]
    · split
      · exact getD_short hd _
      · have := word_short k.toNat; omega

theorem print_le {decls : List Str} (hd : ∀ x ∈ decls, x.length ≤ 8) : (∀ t : T, ∀ (b : List Str), (∀ x ∈ b, x.length ≤ 8) → (printT decls t b).length + 7 ≤ 16 * size t) ∧
    (∀ (al : List T) (l : List Nat) (b : List Str), (∀ y ∈ l, y ≤ 2) → (∀ x ∈ b, x.length ≤ 8) → tot (printL decls al l b) ≤ 16 * sizeL al) := by
  refine T.ind (P := fun t => ∀ (b : List Str), (∀ x ∈ b, x.length ≤ 8) → (printT decls t b).length + 7 ≤ 16 * size t)
    (Q := fun al => ∀ (l : List Nat) (b : List Str), (∀ y ∈ l, y ≤ 2) → (∀ x ∈ b, x.length ≤ 8) → tot (printL decls al l b) ≤ 16 * sizeL al) ?_ ?_ ?_
  · intro k n al ih b hb
    have hz : size (.mk k n al) = 1 + sizeL al := by rw [size]
    rw [printT]
    split
    · have := leaf_short hd hb k n; omega
    · have h1 := joinB_tot (headW k ++ printL decls al ((shape k).getD []) b)
      have h2 := ih ((shape k).getD []) b (shape_two k) hb
      have h3 : tot (headW k) ≤ 7 := by
        unfold headW
        split
        · simp [tot]
        · have := word_short k.toNat; simp only [tot]; omega
      rw [tot_append] at h1
      simp only [List.length_cons, List.length_append, List.length_nil]
      omega
  · intro l b _ _
    rw [printL]; simp [tot]
  · intro t r h1 h2 l b hl hb
    rw [printL, tot_append, tot, tot_fresh, sizeL]
    have hy : l.headD 0 ≤ 2 := by
      cases l with
      | nil => simp
      | cons y l => exact hl y (List.mem_cons_self ..)
    have h3 := h1 (b ++ fresh (l.headD 0) b.length) (fun x hx => by
      rcases List.mem_append.1 hx with hx | hx
      · exact hb x hx
      · exact fresh_short _ _ x hx)
    have h4 := h2 l.tail b (fun y hy => hl y (List.mem_of_mem_tail hy)) hb
    omega

theorem isName_short {s : Str} (h : isName s = true) : s.length ≤ 8 := by
  unfold isName at h
  simp only [Bool.and_eq_true, decide_eq_true_eq] at h
  exact h.1.1.1.2

theorem scope_of {bound decls : List Str} (h1 : ∀ x ∈ bound ++ decls, isName x = true) (h2 : ∀ x ∈ bound ++ decls, x.head? ≠ some 120) (h3 : (bound ++ decls).Nodup) : Scope decls bound where
  nm := fun x hx => h1 x (List.mem_append_left _ hx)
  dn := fun x hx => h1 x (List.mem_append_right _ hx)
  dx := fun x hx => h2 x (List.mem_append_right _ hx)
  dd := (List.nodup_append.1 h3).2.1
  bd := (List.nodup_append.1 h3).1
  no := fun x hx hy => (List.nodup_append.1 h3).2.2 x hx x hy rfl
  ix := fun i x hx he => absurd he (h2 x (List.mem_append_left _ (List.mem_of_getElem? hx)))

theorem boundL_at {al : List T} {l : List Nat} {n : Int} {j y : Nat} {x : T} (hx : al[j]? = some x) (hy : l[j]? = some y) :
    boundL (al.drop j) (l.drop j) n = max (boundT x (n + (y : Nat))) (boundL (al.drop (j + 1)) (l.drop (j + 1)) n) := by
  obtain ⟨h1, e1⟩ := List.getElem?_eq_some_iff.1 hx
  obtain ⟨h2, e2⟩ := List.getElem?_eq_some_iff.1 hy
  rw [List.drop_eq_getElem_cons h1, List.drop_eq_getElem_cons h2, boundL, e1, e2]
  simp
end Go.Proofs.YtjboibbgigkhkaaDoor
