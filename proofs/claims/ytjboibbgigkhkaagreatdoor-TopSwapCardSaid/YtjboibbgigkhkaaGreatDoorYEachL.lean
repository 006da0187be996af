/- Plain lemmas for the loops over a term's arguments; what a call that answers a term says. -/
import Derived.Test.YtjboibbgigkhkaaGreatDoorYRow
import Derived.Test.YtjboibbgigkhkaaGreatDoorYBinds
namespace Go.Proofs.YtjboibbgigkhkaaGreatDoor
open Go.RowKit

theorem headD_drop {l : List Nat} {j y : Nat} (h : l[j]? = some y) : (l.drop j).headD 0 = y := by
  rw [List.headD_eq_head?_getD, List.head?_drop, h]; rfl

theorem liftL_at (b : Int) : ∀ {al : List T} {l : List Nat} {i : Int} {j y : Nat} {x : T}, al[j]? = some x → l[j]? = some y → (liftL b al l i)[j]? = some (liftT b x (i + (y : Nat))) := by
  intro al
  induction al with
  | nil => intro l i j y x h _; simp at h
  | cons a r ih =>
    intro l i j y x h hl
    rw [liftL]
    cases j with
    | zero =>
      simp only [List.getElem?_cons_zero, Option.some.injEq] at h ⊢
      subst h
      cases l with
      | nil => simp at hl
      | cons z l => simp only [List.getElem?_cons_zero, Option.some.injEq] at hl; subst hl; rfl
    | succ j =>
      simp only [List.getElem?_cons_succ] at h ⊢
      cases l with
      | nil => simp at hl
      | cons z l => simp only [List.getElem?_cons_succ] at hl; exact ih h hl

theorem liftL_len (b : Int) : ∀ {al : List T} {l : List Nat} {i : Int}, (liftL b al l i).length = al.length := by
  intro al
  induction al with
  | nil => intros; rfl
  | cons a r ih => intro l i; rw [liftL]; simp [ih]

theorem putL_at (u : T) : ∀ {al : List T} {l : List Nat} {i : Int} {j y : Nat} {x : T}, al[j]? = some x → l[j]? = some y → (putL u al l i)[j]? = some (putT u x (i + (y : Nat))) := by
  intro al
  induction al with
  | nil => intro l i j y x h _; simp at h
  | cons a r ih =>
    intro l i j y x h hl
    rw [putL]
    cases j with
    | zero =>
      simp only [List.getElem?_cons_zero, Option.some.injEq] at h ⊢
      subst h
      cases l with
      | nil => simp at hl
      | cons z l => simp only [List.getElem?_cons_zero, Option.some.injEq] at hl; subst hl; rfl
    | succ j =>
      simp only [List.getElem?_cons_succ] at h ⊢
      cases l with
      | nil => simp at hl
      | cons z l => simp only [List.getElem?_cons_succ] at hl; exact ih h hl

theorem putL_len (u : T) : ∀ {al : List T} {l : List Nat} {i : Int}, (putL u al l i).length = al.length := by
  intro al
  induction al with
  | nil => intros; rfl
  | cons a r ih => intro l i; rw [putL]; simp [ih]

theorem swapL_at : ∀ {al : List T} {l : List Nat} {i : Int} {j y : Nat} {x : T}, al[j]? = some x → l[j]? = some y → (swapL al l i)[j]? = some (swapT x (i + (y : Nat))) := by
  intro al
  induction al with
  | nil => intro l i j y x h _; simp at h
  | cons a r ih =>
    intro l i j y x h hl
    rw [swapL]
    cases j with
    | zero =>
      simp only [List.getElem?_cons_zero, Option.some.injEq] at h ⊢
      subst h
      cases l with
      | nil => simp at hl
      | cons z l => simp only [List.getElem?_cons_zero, Option.some.injEq] at hl; subst hl; rfl
    | succ j =>
      simp only [List.getElem?_cons_succ] at h ⊢
      cases l with
      | nil => simp at hl
      | cons z l => simp only [List.getElem?_cons_succ] at hl; exact ih h hl

theorem swapL_len : ∀ {al : List T} {l : List Nat} {i : Int}, (swapL al l i).length = al.length := by
  intro al
  induction al with
  | nil => intros; rfl
  | cons a r ih => intro l i; rw [swapL]; simp [ih]

theorem liftT_eq (b : Int) (t : T) (i : Int) : liftT b t i = if t.k = 1 then (if i ≤ t.n then .mk t.k (t.n + b) t.al else t) else .mk t.k t.n (liftL b t.al ((shape t.k).getD []) i) := by cases t; rfl
theorem liftT_var {b : Int} {t : T} {i : Int} (hk : t.k = 1) (hn : i ≤ t.n) : liftT b t i = .mk t.k (t.n + b) t.al := by rw [liftT_eq, if_pos hk, if_pos hn]
theorem liftT_low {b : Int} {t : T} {i : Int} (hk : t.k = 1) (hn : ¬ i ≤ t.n) : liftT b t i = t := by rw [liftT_eq, if_pos hk, if_neg hn]
theorem liftT_args {b : Int} {t : T} {i : Int} {l : List Nat} (hk : t.k ≠ 1) (hl : shape t.k = some l) : liftT b t i = .mk t.k t.n (liftL b t.al l i) := by rw [liftT_eq, if_neg hk, hl]; rfl
theorem putT_eq (u t : T) (i : Int) : putT u t i = if t.k = 1 then (if i ≤ t.n then (if t.n = i then liftT i u 0 else .mk t.k (t.n - 1) t.al) else t) else .mk t.k t.n (putL u t.al ((shape t.k).getD []) i) := by cases t; rfl
theorem putT_at {u t : T} {i : Int} (hk : t.k = 1) (hn : t.n = i) : putT u t i = liftT i u 0 := by rw [putT_eq, if_pos hk, if_pos (by omega), if_pos hn]
theorem putT_over {u t : T} {i : Int} (hk : t.k = 1) (hn : i < t.n) : putT u t i = .mk t.k (t.n - 1) t.al := by rw [putT_eq, if_pos hk, if_pos (by omega), if_neg (by omega)]
theorem putT_low {u t : T} {i : Int} (hk : t.k = 1) (hn : ¬ i ≤ t.n) : putT u t i = t := by rw [putT_eq, if_pos hk, if_neg hn]
theorem putT_args {u t : T} {i : Int} {l : List Nat} (hk : t.k ≠ 1) (hl : shape t.k = some l) : putT u t i = .mk t.k t.n (putL u t.al l i) := by rw [putT_eq, if_neg hk, hl]; rfl
theorem usesT_eq (m : Int) (t : T) (i : Int) : usesT m t i = if t.k = 1 then (decide (i ≤ t.n) && decide (t.n - i = m)) else usesL m t.al ((shape t.k).getD []) i := by cases t; rfl
theorem swapT_eq (t : T) (i : Int) : swapT t i = if t.k = 1 then (if t.n = i then .mk t.k (i + 1) t.al else if t.n = i + 1 then .mk t.k i t.al else t) else .mk t.k t.n (swapL t.al ((shape t.k).getD []) i) := by cases t; rfl
theorem swapT_args {t : T} {i : Int} {l : List Nat} (hk : t.k ≠ 1) (hl : shape t.k = some l) : swapT t i = .mk t.k t.n (swapL t.al l i) := by rw [swapT_eq, if_neg hk, hl]; rfl

theorem take_snoc_at {α : Type} {l : List α} {j : Nat} {x : α} (h : l[j]? = some x) : l.take (j + 1) = l.take j ++ [x] := by
  rw [List.take_add_one, h]; rfl

theorem shape_len4 {k : Int} {l : List Nat} (h : shape k = some l) : l.length ≤ 4 := by
  unfold shape at h
  repeat' split at h
  all_goals first | cases h | skip
  all_goals simp

/-- behind a call that answers a term: it lies in blocks of S, or in new ones -/
def TermPost (t : T) (S : Nat → Prop) (w : World) (e : Ending) (w' : World) : Prop := ∃ s, e = .returned (.agg #[.int .i64 t.k, .int .i64 t.n, s]) ∧ argsInS w' (orNew S w w') t s ∧ Below w.heap.size w w'

theorem shape_one_nil {k : Int} {al : List T} (hk : k = 1) (h : ∃ l, shape k = some l ∧ al.length = l.length) : al = [] := by
  obtain ⟨l, h1, h2⟩ := h
  subst hk
  have : l = [] := by simpa [shape] using h1.symm
  subst this
  exact List.eq_nil_of_length_eq_zero h2

theorem binds_of {k : Int} {l : List Nat} (h : shape k = some l) (w : World) :
    Calls Tryz.prog 76 #[.int .i64 k] w fun e w' => ∃ (A : Option Addr) (cap : Nat), e = .returned (.tuple #[.slice A l.length cap, .bool true]) ∧ intsAt w' w'.heap.size l (.slice A l.length cap) ∧ Below w.heap.size w w' :=
  (binds_any k w).mono fun e w' ⟨s, h1, h2, h3⟩ => by
    rw [h] at h1 h2
    obtain ⟨A, cap, rfl, _⟩ := id h2
    exact ⟨A, cap, h1, h2, h3⟩

theorem orNew.mono {S : Nat → Prop} {w w1 w' : World} (h : w.heap.size ≤ w1.heap.size) : ∀ b, orNew S w1 w' b → orNew S w w' b := fun _b hb => hb.imp id fun h' => ⟨Nat.le_trans h h'.1, h'.2⟩

/-- what a child's call has made lies apart from the row -/
theorem orNew.own {S : Nat → Prop} {w1 w2 : World} {base : Nat} {V : Value} {n : Nat} (hb : base ≤ w1.heap.size) (hn : w2.heap.size ≤ n) (hV : ∀ g, V.ownBlock = some g → g < w1.heap.size) : ∀ b, orNew S w1 w2 b → Own S base V n b := by
  intro b hb'
  refine hb'.imp id fun h' => ⟨Nat.le_trans hb h'.1, Nat.lt_of_lt_of_le h'.2 hn, fun e => ?_⟩
  have := hV b e
  have := h'.1
  omega

theorem RowS.lt {w : World} {S : Nat → Prop} {base : Nat} {V : Value} {ts : List T} (h : RowS w S base V ts) : ∀ g, V.ownBlock = some g → base ≤ g ∧ g < w.heap.size := by
  obtain ⟨cs, hown, -⟩ := h
  exact hown.lt

/-- the answer: the term's own box gets the row, the answer's box gets the term -/
theorem RowS.term {w wr wf : World} {S : Nat → Prop} {base : Nat} {V : Value} {ts : List T} {k n : Int} (hw : w.heap.size ≤ base) (hrow : RowS wr S base V ts) (hS : ∀ b, S b → b < w.heap.size) (hsz : wr.heap.size ≤ wf.heap.size)
    (hk : ∀ p : Addr, (p.block < w.heap.size ∨ (base ≤ p.block ∧ p.block < wr.heap.size)) → wf.cell? p = wr.cell? p) : argsInS wf (orNew S w wf) (.mk k n ts) V := by
  have h := hrow.args (k := k) (n := n) (S' := fun b => S b ∨ (base ≤ b ∧ b < wr.heap.size)) (fun b hb => .inl hb) (fun b h1 h2 => .inr ⟨h1, h2⟩)
  refine h.keep (fun b hb => hb.imp id fun h' => ⟨by omega, by omega⟩) fun p hp => hk p ?_
  rcases hp with hp | hp
  · exact .inl (hS _ hp)
  · exact .inr hp

theorem args_nil {w w' : World} {S S' : Nat → Prop} {t t' : T} {A : Option Addr} {cap : Nat} (h : argsInS w S t (.slice A t.al.length cap)) (hal : t.al = []) (e : t'.al = t.al) : argsInS w' S' t' (.slice A t.al.length cap) := by
  obtain ⟨A', cap', h1, h2, h3, -⟩ := argsInS_iff.1 h
  cases h1
  exact argsInS_iff.2 ⟨A, cap, by rw [e], by rw [e]; exact h2, h3, fun hne => absurd (e.trans hal) hne⟩

/-- two boxes, and what a call behind them leaves -/
theorem two_box {w w1 : World} {t : TypeId} {a b c a' b' c' : Value} (hb : Below ((w.alloc (.cells #[a, b, c] t)).alloc (.cells #[a', b', c'] t)).heap.size ((w.alloc (.cells #[a, b, c] t)).alloc (.cells #[a', b', c'] t)) w1) :
    Blk w1 w.heap.size t #[a, b, c] ∧ Blk w1 (w.heap.size + 1) t #[a', b', c'] ∧ Below w.heap.size w w1 ∧ w.heap.size + 2 ≤ w1.heap.size := by
  have hsz := hb.size
  simp at hsz
  refine ⟨((Blk.new w t _).alloc _).below hb (by simp; omega), ?_, (((Below.refl _ _).alloc (Nat.le_refl _) _).alloc (by simp) _).trans (hb.mono (by simp; omega)), hsz⟩
  have h := (Blk.new (w.alloc (.cells #[a, b, c] t)) t #[a', b', c']).below hb (by simp)
  simpa using h

/-- a child's call: the row stands, and the child's answer lies apart from it -/
theorem row_call {wr w1 w2 : World} {S : Nat → Prop} {base : Nat} {V : Value} {ts : List T} {x : T} {s : Value} (hrow : RowS wr S base V ts) (hS : ∀ b, S b → b < base) (hbs : base ≤ wr.heap.size) (hb1 : Below wr.heap.size wr w1)
    (hb2 : Below w1.heap.size w1 w2) (hx : argsInS w2 (orNew S w1 w2) x s) (o : Obj) :
    RowS (w2.alloc o) S base V ts ∧ argsInS (w2.alloc o) (Own S base V (w2.alloc o).heap.size) x s ∧ base ≤ (w2.alloc o).heap.size := by
  have h1 := hb1.size
  have h2 := hb2.size
  have hb : Below wr.heap.size wr w2 := hb1.trans (hb2.mono h1)
  refine ⟨(hrow.below hS hbs hb).alloc hS (by omega) o, ?_, by simp; omega⟩
  refine hx.keep (orNew.own (by omega) (by simp) (fun g hg => Nat.lt_of_lt_of_le (hrow.lt g hg).2 h1)) fun p hp => World.cell?_alloc_lt _ _ _ ?_
  rcases hp with hp | hp
  · have := hS _ hp; omega
  · exact hp.2

/-- one round: the child's answer is appended -/
theorem row_end {wb wr w1 w2 w4 : World} {S : Nat → Prop} {V : Value} {ts : List T} {o : Obj} (hrow : RowS wr S wb.heap.size V ts) (hb : Below wb.heap.size wb wr) (hb1 : Below wr.heap.size wr w1) (hb2 : Below w1.heap.size w1 w2)
    (hg : (w2.alloc o).grownBy w4 V.ownBlock) : Below wb.heap.size wb w4 := by
  have h1 := (hb.trans (hb1.mono hb.size)).trans (hb2.mono (by have := hb1.size; have := hb.size; omega))
  exact (h1.alloc h1.size o).grown hg (by have := h1.size; simp; omega) (fun k hk => (hrow.lt k hk).1)

/-- the end: the row goes into the term's box, the term into the answer's box -/
theorem each_end {w wb wr : World} {S : Nat → Prop} {V a b c d : Value} {ts : List T} {k n : Int} (hrow : RowS wr S wb.heap.size V ts) (hS : ∀ b, S b → b < w.heap.size) (hbw : Below w.heap.size w wr) (hsz0 : w.heap.size + 2 ≤ wb.heap.size) (_hbz : wb.heap.size ≤ wr.heap.size) :
    argsInS ((((wr.setCell ⟨w.heap.size, 2, none⟩ a).setCell ⟨w.heap.size + 1, 0, none⟩ b).setCell ⟨w.heap.size + 1, 1, none⟩ c).setCell ⟨w.heap.size + 1, 2, none⟩ d)
      (orNew S w ((((wr.setCell ⟨w.heap.size, 2, none⟩ a).setCell ⟨w.heap.size + 1, 0, none⟩ b).setCell ⟨w.heap.size + 1, 1, none⟩ c).setCell ⟨w.heap.size + 1, 2, none⟩ d)) (.mk k n ts) V ∧
    Below w.heap.size w ((((wr.setCell ⟨w.heap.size, 2, none⟩ a).setCell ⟨w.heap.size + 1, 0, none⟩ b).setCell ⟨w.heap.size + 1, 1, none⟩ c).setCell ⟨w.heap.size + 1, 2, none⟩ d) := by
  refine ⟨hrow.term (w := w) (by omega) hS (by simp [World.setCell]) fun p hp => ?_, (((hbw.setCell (Nat.le_refl _) _).setCell (by simp) _).setCell (by simp) _).setCell (by simp) _⟩
  have h1 : p.block ≠ w.heap.size := by omega
  have h2 : p.block ≠ w.heap.size + 1 := by omega
  exact World.cell?_of_block (by rw [Below.heap_setCell _ _ _ _ h2, Below.heap_setCell _ _ _ _ h2, Below.heap_setCell _ _ _ _ h2, Below.heap_setCell _ _ _ _ h1])

/-- an answer's box is filled: what the answer is made of lies elsewhere -/
theorem term_out {w w3 w1 : World} {S : Nat → Prop} {t : T} {s a b c : Value} {g : Nat} (hx : argsInS w1 (orNew S w3 w1) t s) (hS : ∀ b, S b → b < w.heap.size) (hw : w.heap.size ≤ g) (hg : g < w3.heap.size) (hb : Below w.heap.size w w1) :
    argsInS (((w1.setCell ⟨g, 0, none⟩ a).setCell ⟨g, 1, none⟩ b).setCell ⟨g, 2, none⟩ c) (orNew S w (((w1.setCell ⟨g, 0, none⟩ a).setCell ⟨g, 1, none⟩ b).setCell ⟨g, 2, none⟩ c)) t s ∧
    Below w.heap.size w (((w1.setCell ⟨g, 0, none⟩ a).setCell ⟨g, 1, none⟩ b).setCell ⟨g, 2, none⟩ c) := by
  refine ⟨hx.keep (fun b hb => hb.imp id fun h => ⟨by have := h.1; omega, by simpa [World.setCell] using h.2⟩) fun p hp => ?_, ((hb.setCell hw _).setCell hw _).setCell hw _⟩
  have h1 : p.block ≠ g := by
    rcases hp with hp | hp
    · have := hS _ hp; omega
    · have := hp.1; omega
  exact World.cell?_of_block (by rw [Below.heap_setCell _ _ _ _ h1, Below.heap_setCell _ _ _ _ h1, Below.heap_setCell _ _ _ _ h1])
end Go.Proofs.YtjboibbgigkhkaaGreatDoor

