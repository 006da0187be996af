/- Terms that a loop appends to a row of the call's own; and how far numbers in a term go. -/
import Derived.Test.YtjboibbgigkhkaaGreatDoorYReads
import Derived.Laws.ResultCell
import Derived.ChangeAlike
namespace Go.Proofs.YtjboibbgigkhkaaGreatDoor
open Go.RowKit

/-- blocks of S, or new ones, from base on, but not the row's own -/
def Own (S : Nat → Prop) (base : Nat) (V : Value) (n : Nat) : Nat → Prop := fun b => S b ∨ (base ≤ b ∧ b < n ∧ V.ownBlock ≠ some b)

/-- blocks of S, or those that the call has made -/
def orNew (S : Nat → Prop) (w w' : World) : Nat → Prop := fun b => S b ∨ newFrom w w' b

/-- a row of the call's own, of three cells a term; what they are made of lies elsewhere -/
def RowS (w : World) (S : Nat → Prop) (base : Nat) (V : Value) (ts : List T) : Prop := ∃ cs : List Value, w.ownsRow base 30 3 V ts.length cs ∧
  ∀ (i : Nat) (t : T), ts[i]? = some t → ∃ s, cs[i * 3]? = some (.int .i64 t.k) ∧ cs[i * 3 + 1]? = some (.int .i64 t.n) ∧ cs[i * 3 + 2]? = some s ∧ argsInS w (Own S base V w.heap.size) t s

theorem RowS.nil (w : World) (S : Nat → Prop) (base : Nat) : RowS w S base (.slice none 0 0) [] := ⟨[], World.ownsRow_nil _ _ _ _, fun i t h => by simp at h⟩

theorem RowS.form {w : World} {S : Nat → Prop} {base : Nat} {V : Value} {ts : List T} (h : RowS w S base V ts) : ∃ A cap, V = .slice A ts.length cap := by
  obtain ⟨cs, hown, -⟩ := h
  rcases hown.2 with ⟨rfl, h0⟩ | ⟨g, cap, cur, rfl, -⟩
  · exact ⟨_, _, by rw [h0]⟩
  · exact ⟨_, _, rfl⟩

/-- such a row is a term's arguments -/
theorem RowS.args {w : World} {base : Nat} {S S' : Nat → Prop} {V : Value} {ts : List T} {k n : Int} (h : RowS w S base V ts) (hS : ∀ b, S b → S' b) (hn : ∀ b, base ≤ b → b < w.heap.size → S' b) : argsInS w S' (.mk k n ts) V := by
  obtain ⟨cs, hown, hts⟩ := h
  rw [argsInS]
  rcases hown.2 with ⟨rfl, h0⟩ | ⟨g, cap, cur, rfl, hb, hh, hle, hm, hsz, htk⟩
  · have : ts = [] := List.eq_nil_of_length_eq_zero h0
    subst this
    exact ⟨none, 0, rfl, Nat.le_refl _, by unfold maxLen; omega, fun hne => absurd rfl hne⟩
  · have hg : g < w.heap.size := (hown.lt g rfl).2
    refine ⟨_, cap, rfl, hle, hm, fun _ => ⟨g, 0, rfl, hn g hb hg, cellsInS.mk_ fun i t hi => ?_⟩⟩
    obtain ⟨s, a1, a2, a3, a4⟩ := hts i t hi
    have hc := hown.cells (g := g) rfl
    refine ⟨s, ?_, ?_, ?_, a4.keep (fun b hb' => hb'.elim (hS b) (fun h' => hn b h'.1 h'.2.1)) fun _ _ => rfl⟩
    · have := hc _ _ a1; rwa [Go.WideShapes.add_plain] at this
    · have := hc _ _ a2; rw [Go.WideShapes.add_plain] at this; rwa [Nat.add_assoc]
    · have := hc _ _ a3; rw [Go.WideShapes.add_plain] at this; rwa [Nat.add_assoc]

theorem row_grown_of_below {w w' : World} (h : Below w.heap.size w w') (row : Option Nat) : w.grownBy w' row := ⟨h.os, h.tape, h.output, h.size, fun i hi _ => h.block i hi⟩

/-- what lay below stays, so the row stays -/
theorem RowS.below {w w' : World} {S : Nat → Prop} {base : Nat} {V : Value} {ts : List T} (h : RowS w S base V ts) (hS : ∀ b, S b → b < base) (hbs : base ≤ w.heap.size) (hb : Below w.heap.size w w') : RowS w' S base V ts := by
  obtain ⟨cs, hown, hts⟩ := h
  refine ⟨cs, hown.kept (row_grown_of_below hb none) (by cases V.ownBlock <;> simp), fun i t hi => ?_⟩
  obtain ⟨s, a1, a2, a3, a4⟩ := hts i t hi
  refine ⟨s, a1, a2, a3, a4.keep (fun b hb' => hb'.imp id fun h' => ⟨h'.1, Nat.lt_of_lt_of_le h'.2.1 hb.size, h'.2.2⟩) fun p hp => hb.cell ?_⟩
  rcases hp with hp | hp
  · have := hS _ hp; omega
  · exact hp.2.1

theorem RowS.alloc {w : World} {S : Nat → Prop} {base : Nat} {V : Value} {ts : List T} (h : RowS w S base V ts) (hS : ∀ b, S b → b < base) (hbs : base ≤ w.heap.size) (o : Obj) : RowS (w.alloc o) S base V ts :=
  h.below hS hbs ((Below.refl _ _).alloc (Nat.le_refl _) o)

theorem RowS.drew {w : World} {S : Nat → Prop} {base : Nat} {V : Value} {ts : List T} (h : RowS w S base V ts) : RowS w.drew S base V ts := by
  obtain ⟨cs, hown, hts⟩ := h
  exact ⟨cs, hown.drew, fun i t hi => by
    obtain ⟨s, a1, a2, a3, a4⟩ := hts i t hi
    exact ⟨s, a1, a2, a3, a4.keep (fun _ h => h) fun _ _ => rfl⟩⟩

/-- a cell elsewhere is written -/
theorem RowS.setCell {w : World} {S : Nat → Prop} {base : Nat} {V : Value} {ts : List T} (h : RowS w S base V ts) {p : Addr} (hp : p.block < base) (hpS : ¬ S p.block) (u : Value) : RowS (w.setCell p u) S base V ts := by
  obtain ⟨cs, hown, hts⟩ := h
  have hsz : (w.setCell p u).heap.size = w.heap.size := by simp [World.setCell]
  refine ⟨cs, ownsRow_setCell_below hown hp u, fun i t hi => ?_⟩
  obtain ⟨s, a1, a2, a3, a4⟩ := hts i t hi
  rw [hsz]
  refine ⟨s, a1, a2, a3, a4.keep (fun _ h => h) fun q hq => World.cell?_setCell_other w p q u (fun e => ?_)⟩
  subst e
  rcases hq with hq | hq
  · exact hpS hq
  · omega

theorem Tryz.infoTm : (Tryz.prog.info? 30).map (fun i => (i.zero, i.size, i.bytes)) = some (some (.agg #[.int .i64 0, .int .i64 0, .slice none 0 0]), 3, 40) := by kernel_rfl

theorem new_term (w : World) (a b c : Value) (t : TypeId) (n : Nat) (hn : n = w.heap.size) : ∀ j u', [a, b, c][j]? = some u' → (w.alloc (.cells #[a, b, c] t)).cell? ((⟨n, 0, none⟩ : Addr).add j) = some u' := by
  intro j u' h
  subst hn
  match j, h with
  | 0, h => simp at h; subst h; simp [Addr.add]
  | 1, h => simp at h; subst h; simp [Addr.add]
  | 2, h => simp at h; subst h; simp [Addr.add]

/-- one term more -/
theorem run_append_term (w : World) (S : Nat → Prop) (base : Nat) (hS : ∀ b, S b → b < base) (hbs : base ≤ w.heap.size) (V : Value) (ts : List T) (hrow : RowS w S base V ts) (hl : ts.length ≤ 2000000000)
    (x : T) (s : Value) (hx : argsInS w (Own S base V w.heap.size) x s) (ad : Addr) (c : Nat) (hc : ∀ j u, [Value.int .i64 x.k, .int .i64 x.n, s][j]? = some u → w.cell? (ad.add j) = some u) (ty : TypeId) :
    ∃ V' w', (Builtin.append_ #[28, 28] ty #[V, .slice (some ad) 1 c]).run Tryz.prog w = .ok V' w' ∧ RowS w' S base V' (ts ++ [x]) ∧ w.grownBy w' V.ownBlock ∧ (V'.ownBlock = V.ownBlock ∨ V'.ownBlock = some w.heap.size) := by
  obtain ⟨i0, hi, hz0, hz1, hz2⟩ := info_parts Tryz.infoTm
  obtain ⟨cs, hown, hts⟩ := hrow
  obtain ⟨A, cap, hs, -⟩ := argsInS_iff.1 hx
  have h1 : ∀ u ∈ [Value.int .i64 x.k, .int .i64 x.n, s], u.oneCell' = true := by
    intro u hu
    subst hs
    simp at hu
    rcases hu with rfl | rfl | rfl <;> rfl
  obtain ⟨V', w', hrun, hown', hg, _, hloc⟩ := run_append_own_at (P := Tryz.prog) w base 28 ty 30 i0 (.agg #[.int .i64 0, .int .i64 0, .slice none 0 0]) 3 40 Tryz.underlying28 hi hz0 hz1 hz2 rfl (by decide) V ts.length cs hown ad 1 c
    [Value.int .i64 x.k, .int .i64 x.n, s] rfl hc h1 (by unfold maxLen; omega) (by omega) hbs
  have hlt : ∀ b, V.ownBlock = some b → base ≤ b ∧ b < w.heap.size := hown.lt
  have hoth : ∀ b, Own S base V w.heap.size b → Own S base V' w'.heap.size b := by
    intro b hb
    rcases hb with hb | ⟨h1, h2, h3⟩
    · exact .inl hb
    · refine .inr ⟨h1, Nat.lt_of_lt_of_le h2 hg.size, ?_⟩
      rcases hloc with e | e <;> rw [e]
      · exact h3
      · intro e2; injection e2 with e2; omega
  have hcell : ∀ p : Addr, Own S base V w.heap.size p.block → w'.cell? p = w.cell? p := by
    intro p hp
    refine World.cell?_of_block (hg.block p.block ?_ ?_)
    · rcases hp with hp | hp
      · have := hS _ hp; omega
      · exact hp.2.1
    · rcases hp with hp | hp
      · intro e; have := hlt _ e.symm; have := hS _ hp; omega
      · exact fun e => hp.2.2 e.symm
  refine ⟨V', w', hrun, ⟨cs ++ [.int .i64 x.k, .int .i64 x.n, s], by rw [List.length_append]; exact hown', fun i t hi => ?_⟩, hg, hloc⟩
  have hcl : cs.length = ts.length * 3 := hown.1
  rcases Nat.lt_or_ge i ts.length with h | h
  · rw [List.getElem?_append_left h] at hi
    obtain ⟨s', a1, a2, a3, a4⟩ := hts i t hi
    exact ⟨s', by rw [List.getElem?_append_left (by omega)]; exact a1, by rw [List.getElem?_append_left (by omega)]; exact a2, by rw [List.getElem?_append_left (by omega)]; exact a3, a4.keep hoth hcell⟩
  · rw [List.getElem?_append_right h] at hi
    have hi0 : i - ts.length = 0 := by
      rcases Nat.eq_zero_or_pos (i - ts.length) with h0 | h0
      · exact h0
      · rw [List.getElem?_eq_none (by simp; omega)] at hi; cases hi
    rw [hi0] at hi
    simp only [List.getElem?_cons_zero, Option.some.injEq] at hi
    subst hi
    have he : i = ts.length := by omega
    subst he
    refine ⟨s, ?_, ?_, ?_, hx.keep hoth hcell⟩
    · rw [List.getElem?_append_right (by omega), show ts.length * 3 - cs.length = 0 by omega]; rfl
    · rw [List.getElem?_append_right (by omega), show ts.length * 3 + 1 - cs.length = 1 by omega]; rfl
    · rw [List.getElem?_append_right (by omega), show ts.length * 3 + 2 - cs.length = 2 by omega]; rfl

theorem wp_append_term {o : Oper} {a : Act} {K : Act → World → Prop} {Q : Exit → Act → World → Prop} (w : World) (s x : Operand)
    (ho : o.op = .call { callee := .builtin .append, args := #[s, x], argTypes := #[28, 28] })
    (S : Nat → Prop) (base : Nat) (hS : ∀ b, S b → b < base) (hbs : base ≤ w.heap.size) (V : Value) (ts : List T) (hs : a.eval s = V) (hrow : RowS w S base V ts) (hl : ts.length ≤ 2000000000)
    (t : T) (v : Value) (ht : argsInS w (Own S base V w.heap.size) t v) (ad : Addr) (c : Nat) (hx : a.eval x = .slice (some ad) 1 c) (hc : ∀ j u, [Value.int .i64 t.k, .int .i64 t.n, v][j]? = some u → w.cell? (ad.add j) = some u)
    (h : ∀ V' w', RowS w' S base V' (ts ++ [t]) → w.grownBy w' V.ownBlock → (V'.ownBlock = V.ownBlock ∨ V'.ownBlock = some w.heap.size) → K (a.put o.dst V') w') : o.wp Tryz.prog a w K Q := by
  obtain ⟨V', w', hrun, h2, h3, h4⟩ := run_append_term w S base hS hbs V ts hrow hl t v ht ad c hc o.type
  unfold Oper.wp execOp
  simp only [ho, resolve, invoke, builtin, Sem.run_bind, Sem.run_pure, Result.andThen_ok, List.map_toArray, List.map_cons, List.map_nil, hs, hx, hrun]
  exact h V' w' h2 h3 h4

theorem wpList_append_term {ops : Array Oper} {rest : List Oper} {o : Oper} {a : Act} {Q : Exit → Act → World → Prop} (w : World) (hgd : o.guard = none) (s x : Operand)
    (ho : o.op = .call { callee := .builtin .append, args := #[s, x], argTypes := #[28, 28] })
    (S : Nat → Prop) (base : Nat) (hS : ∀ b, S b → b < base) (hbs : base ≤ w.heap.size) (V : Value) (ts : List T) (hs : a.eval s = V) (hrow : RowS w S base V ts) (hl : ts.length ≤ 2000000000)
    (t : T) (v : Value) (ht : argsInS w (Own S base V w.heap.size) t v) (ad : Addr) (c : Nat) (hx : a.eval x = .slice (some ad) 1 c) (hc : ∀ j u, [Value.int .i64 t.k, .int .i64 t.n, v][j]? = some u → w.cell? (ad.add j) = some u)
    (h : ∀ V' w', RowS w' S base V' (ts ++ [t]) → w.grownBy w' V.ownBlock → (V'.ownBlock = V.ownBlock ∨ V'.ownBlock = some w.heap.size) → wpList Tryz.prog ops Q rest (a.put o.dst V') w') : wpList Tryz.prog ops Q (o :: rest) a w :=
  wpList_plain hgd fun _ hK => wp_append_term w s x ho S base hS hbs V ts hs hrow hl t v ht ad c hx hc fun V' w' h2 h3 h4 => hK _ _ (h V' w' h2 h3 h4)

theorem step_append_term {ops : Array Oper} {o : Oper} {a : Act} {K : Act → World → Prop} {Q : Exit → Act → World → Prop} {E : Prop} (w : World) (hgd : o.guard = none) (s x : Operand)
    (ho : o.op = .call { callee := .builtin .append, args := #[s, x], argTypes := #[28, 28] })
    (S : Nat → Prop) (base : Nat) (hS : ∀ b, S b → b < base) (hbs : base ≤ w.heap.size) (V : Value) (ts : List T) (hs : a.eval s = V) (hrow : RowS w S base V ts) (hl : ts.length ≤ 2000000000)
    (t : T) (v : Value) (ht : argsInS w (Own S base V w.heap.size) t v) (ad : Addr) (c : Nat) (hx : a.eval x = .slice (some ad) 1 c) (hc : ∀ j u, [Value.int .i64 t.k, .int .i64 t.n, v][j]? = some u → w.cell? (ad.add j) = some u)
    (h : ∀ V' w', RowS w' S base V' (ts ++ [t]) → w.grownBy w' V.ownBlock → (V'.ownBlock = V.ownBlock ∨ V'.ownBlock = some w.heap.size) → K (a.put o.dst V') w') :
    if Region.wanted o (yielded ops a.tmps) = true then Oper.wp Tryz.prog o a w K Q else E := by
  have hw : Region.wanted o (yielded ops a.tmps) = true := by simp [Region.wanted, hgd]
  rw [if_pos hw]
  exact wp_append_term w s x ho S base hS hbs V ts hs hrow hl t v ht ad c hx hc h

/-- terms of kinds that there are, of as many arguments as they have, numbers no greater than M, at most so deep -/
def okT (M : Int) : Nat → T → Prop
  | 0, _ => False
  | f + 1, t => 0 ≤ t.n ∧ t.n ≤ M ∧ (∃ l, shape t.k = some l ∧ t.al.length = l.length) ∧ ∀ x ∈ t.al, okT M f x

theorem okT.mono {M M' : Int} (hM : M ≤ M') : ∀ {f f' : Nat} {t : T}, f ≤ f' → okT M f t → okT M' f' t := by
  intro f
  induction f with
  | zero => intro f' t _ h; exact h.elim
  | succ f ih =>
    intro f' t hf h
    cases f' with
    | zero => omega
    | succ f' => exact ⟨h.1, by have := h.2.1; omega, h.2.2.1, fun x hx => ih (by omega) (h.2.2.2 x hx)⟩

theorem lookL_mem {d : Int} : ∀ {al : List T} {l : List Nat} {b : Int} {f : Nat}, lookL d al l b f = 0 → ∀ x ∈ al, ∃ y : Nat, y ≤ l.foldr max 0 ∧ look d x (b + y) f = 0 := by
  intro al
  induction al with
  | nil => intro l b f _ x hx; cases hx
  | cons t r ih =>
    intro l b f h x hx
    obtain ⟨h1, h2⟩ := lookL_cons h
    cases hx with
    | head => exact ⟨l.headD 0, by cases l <;> simp <;> omega, h1⟩
    | tail _ hx =>
      obtain ⟨y, hy, h3⟩ := ih h2 x hx
      exact ⟨y, by cases l <;> simp at hy ⊢ <;> omega, h3⟩

theorem foldr_max_le {l : List Nat} (h : ∀ x ∈ l, x ≤ 2) : l.foldr max 0 ≤ 2 := by
  induction l with
  | nil => simp
  | cons a l ih =>
    have h0 := h a (List.mem_cons_self ..)
    have h1 := ih (fun x hx => h x (List.mem_cons_of_mem _ hx))
    simp only [List.foldr_cons]
    omega

theorem ok_of_look {d M : Int} (hd : d ≤ M + 1) (hM : 3 ≤ M) : ∀ (f : Nat) (t : T) (b : Int), b + 2 * f ≤ M + 1 → look d t b f = 0 → okT M f t := by
  intro f
  induction f with
  | zero => intro t b _ h; cases t; rw [look] at h; cases h
  | succ f ih =>
    intro t b hb h
    obtain ⟨k, n, al⟩ := t
    obtain ⟨g, l, e, hs, hl, h0, h1, h2⟩ := look_zero h
    injection e with e
    subst e
    refine ⟨h0, ?_, ⟨l, hs, hl⟩, fun x hx => ?_⟩
    · show n ≤ M
      unfold lim at h1
      split at h1
      · omega
      · split at h1
        · omega
        · split at h1 <;> omega
    · obtain ⟨y, hy, h3⟩ := lookL_mem h2 x hx
      have hy2 : y ≤ 2 := Nat.le_trans hy (foldr_max_le (shape_le hs))
      exact ih x _ (by omega) h3
end Go.Proofs.YtjboibbgigkhkaaGreatDoor

