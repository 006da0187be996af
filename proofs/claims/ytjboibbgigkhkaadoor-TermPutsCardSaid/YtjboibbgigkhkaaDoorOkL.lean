/- Plain: lifted, put and swapped terms are of kinds that there are, their numbers no greater than may be. -/
import Derived.Test.YtjboibbgigkhkaaDoorEachL
namespace Go.Proofs.YtjboibbgigkhkaaDoor

theorem mem_at {l : List T} {x : T} (h : x ∈ l) : ∃ j : Nat, l[j]? = some x := by
  obtain ⟨j, hj, rfl⟩ := List.getElem_of_mem h
  exact ⟨j, List.getElem?_eq_getElem hj⟩

theorem okT.args {M : Int} {f : Nat} {t : T} (h : okT M (f + 1) t) : 0 ≤ t.n ∧ t.n ≤ M ∧ (∃ l, shape t.k = some l ∧ t.al.length = l.length) ∧ ∀ x ∈ t.al, okT M f x := h

theorem okT_mk {M k n : Int} {f : Nat} {al : List T} (h0 : 0 ≤ n) (h1 : n ≤ M) (h2 : ∃ l, shape k = some l ∧ al.length = l.length) (h3 : ∀ x ∈ al, okT M f x) : okT M (f + 1) (.mk k n al) := ⟨h0, h1, h2, h3⟩

theorem okT_lift (b M : Int) (hb : 0 ≤ b) : ∀ (f : Nat) (t : T) (i : Int), okT M f t → okT (M + b) f (liftT b t i) := by
  intro f
  induction f with
  | zero => intro t i h; exact h.elim
  | succ f ih =>
    intro t i h
    obtain ⟨h0, h1, ⟨l, hl, hlen⟩, hch⟩ := h.args
    by_cases hk : t.k = 1
    · by_cases hn : i ≤ t.n
      · rw [liftT_var hk hn]
        exact okT_mk (by omega) (by omega) ⟨l, hl, hlen⟩ (fun x hx => (hch x hx).mono (by omega) (Nat.le_refl _))
      · rw [liftT_low hk hn]
        exact okT.mono (by omega) (Nat.le_refl _) h
    · rw [liftT_args hk hl]
      refine okT_mk h0 (by omega) ⟨l, hl, by rw [liftL_len]; exact hlen⟩ (fun x hx => ?_)
      obtain ⟨j, hj⟩ := mem_at hx
      have hjl : j < t.al.length := by
        have := (List.getElem?_eq_some_iff.1 hj).1
        rwa [liftL_len] at this
      obtain ⟨y, hy⟩ := length_getElem (l := l) (i := j) (by omega)
      obtain ⟨z, hz⟩ := length_getElem hjl
      rw [liftL_at b hz hy] at hj
      injection hj with hj
      subst hj
      exact ih z _ (hch z (List.mem_of_getElem? hz))

theorem okT_put (M : Int) (fu : Nat) (u : T) (hu : okT M fu u) : ∀ (f : Nat) (t : T) (i : Int), 0 ≤ i → okT M f t → okT (M + i + 2 * f) (f + fu) (putT u t i) := by
  intro f
  induction f with
  | zero => intro t i _ h; exact h.elim
  | succ f ih =>
    intro t i hi h
    obtain ⟨h0, h1, ⟨l, hl, hlen⟩, hch⟩ := h.args
    have hM : okT (M + i + 2 * (f + 1 : Nat)) (f + 1 + fu) t := h.mono (by omega) (by omega)
    by_cases hk : t.k = 1
    · by_cases hn : t.n = i
      · rw [putT_at hk hn]
        exact (okT_lift i M hi fu u 0 hu).mono (by omega) (by omega)
      · by_cases hn2 : i < t.n
        · rw [putT_over hk hn2]
          have hal := shape_one_nil hk ⟨l, hl, hlen⟩
          rw [show f + 1 + fu = (f + fu) + 1 by omega]
          exact okT_mk (by omega) (by omega) ⟨l, hl, hlen⟩ (fun x hx => by rw [hal] at hx; cases hx)
        · rw [putT_low hk (by omega)]
          exact hM
    · rw [putT_args hk hl]
      rw [show f + 1 + fu = (f + fu) + 1 by omega]
      refine okT_mk h0 (by omega) ⟨l, hl, by rw [putL_len]; exact hlen⟩ (fun x hx => ?_)
      obtain ⟨j, hj⟩ := mem_at hx
      have hjl : j < t.al.length := by
        have := (List.getElem?_eq_some_iff.1 hj).1
        rwa [putL_len] at this
      obtain ⟨y, hy⟩ := length_getElem (l := l) (i := j) (by omega)
      obtain ⟨z, hz⟩ := length_getElem hjl
      have hy2 : y ≤ 2 := shape_le hl y (List.mem_of_getElem? hy)
      rw [putL_at u hz hy] at hj
      injection hj with hj
      subst hj
      exact (ih z _ (by omega) (hch z (List.mem_of_getElem? hz))).mono (by omega) (Nat.le_refl _)

theorem okT_swap (M : Int) : ∀ (f : Nat) (t : T) (i : Int), 0 ≤ i → okT M f t → okT (M + 1) f (swapT t i) := by
  intro f
  induction f with
  | zero => intro t i _ h; exact h.elim
  | succ f ih =>
    intro t i hi h
    obtain ⟨h0, h1, ⟨l, hl, hlen⟩, hch⟩ := h.args
    by_cases hk : t.k = 1
    · rw [swapT_eq, if_pos hk]
      have hal := shape_one_nil hk ⟨l, hl, hlen⟩
      split
      · exact okT_mk (by omega) (by omega) ⟨l, hl, hlen⟩ (fun x hx => by rw [hal] at hx; cases hx)
      · split
        · exact okT_mk (by omega) (by omega) ⟨l, hl, hlen⟩ (fun x hx => by rw [hal] at hx; cases hx)
        · exact okT.mono (by omega) (Nat.le_refl _) h
    · rw [swapT_args hk hl]
      refine okT_mk h0 (by omega) ⟨l, hl, by rw [swapL_len]; exact hlen⟩ (fun x hx => ?_)
      obtain ⟨j, hj⟩ := mem_at hx
      have hjl : j < t.al.length := by
        have := (List.getElem?_eq_some_iff.1 hj).1
        rwa [swapL_len] at this
      obtain ⟨y, hy⟩ := length_getElem (l := l) (i := j) (by omega)
      obtain ⟨z, hz⟩ := length_getElem hjl
      rw [swapL_at hz hy] at hj
      injection hj with hj
      subst hj
      exact ih z _ (by omega) (hch z (List.mem_of_getElem? hz))
end Go.Proofs.YtjboibbgigkhkaaDoor
