/- package eval: Value, Apply, rec: all. -/
import Derived.Test.YtjboibbgigkhkaaGreatDoorYEval7
import Derived.Test.YtjboibbgigkhkaaGreatDoorYGH
import Derived.Test.YtjboibbgigkhkaaGreatDoorYGB
import Derived.Test.YtjboibbgigkhkaaGreatDoorYEvalT
import Derived.Deep.RegionLaw
namespace Go.Proofs.YtjboibbgigkhkaaGreatDoor
open Go.RowKit
set_option maxRecDepth 100000

theorem value_step (ds : List ND) (f : Nat) (hV : ValueC ds f) (hA : ApplyC ds f) (hR : RecC ds f) : ValueC ds (f + 1) := by
  intro t e v w D s ev hv hD hs he
  obtain ⟨k, n, al⟩ := t
  obtain ⟨DA, dcap, rfl, -⟩ := id hD
  obtain ⟨A, cap, rfl, -⟩ := argsIn_iff.1 hs
  obtain ⟨ea, rfl⟩ := he.form
  unfold evalP at hv
  simp only [T.k, T.n, T.al] at hs ⊢
  by_cases h1 : k = 1
  · rw [if_pos h1] at hv
    subst h1
    split at hv
    · rename_i h; exact value_var ds n al e v w DA A ea dcap cap h.1 h.2 hv hD hs he
    · cases hv
  rw [if_neg h1] at hv
  by_cases h2 : k = 18
  · rw [if_pos h2] at hv
    subst h2
    split at hv
    · rename_i h
      simp only [Option.bind_eq_some_iff, List.getElem?_map, Option.map_eq_some_iff] at hv
      obtain ⟨d, ⟨d', hd, rfl⟩, hv⟩ := hv
      exact value_def ds f hV n al e v d' w DA A ea dcap cap h hd hv hD hs he
    · cases hv
  rw [if_neg h2] at hv
  by_cases h3 : k = 5
  · rw [if_pos h3] at hv
    subst h3
    simp only [Option.bind_eq_some_iff] at hv
    obtain ⟨a, ha, b, hb, x, hx, y, hy, hv⟩ := hv
    exact value_app ds f hV hA n al a b e x y v w DA A ea dcap cap ha hb hx hy hv hD hs he
  rw [if_neg h3] at hv
  by_cases h4 : k = 8 ∨ k = 9
  · rw [if_pos h4] at hv
    simp only [Option.bind_eq_some_iff] at hv
    obtain ⟨a, ha, x, hx, hv⟩ := hv
    exact value_part ds f hV k n h4 al a e x v w DA A ea dcap cap ha hx hv hD hs he
  rw [if_neg h4] at hv
  by_cases h5 : k = 17
  · rw [if_pos h5] at hv
    subst h5
    simp only [Option.bind_eq_some_iff] at hv
    obtain ⟨c, hc, z, hz, s, hs3, m, hm, x, hx, y, hy, hv⟩ := hv
    exact value_rec ds f hV hR n al c z s m e x y v w DA A ea dcap cap hc hz hs3 hm hx hy hv hD hs he
  rw [if_neg h5] at hv
  by_cases h6 : k = 3 ∨ k = 4 ∨ k = 6
  · rw [if_pos h6] at hv
    simp only [Option.bind_eq_some_iff] at hv
    obtain ⟨a, ha, b, hb, x, hx, hv⟩ := hv
    cases hv
    exact value_bind ds f hV k n h6 al a b e x w DA A ea dcap cap ha hb hx hD hs he
  rw [if_neg h6] at hv
  by_cases h7 : k = 7
  · rw [if_pos h7] at hv
    subst h7
    simp only [Option.bind_eq_some_iff] at hv
    obtain ⟨a, ha, b, hb, c, hc, d, hd, x, hx, y, hy, z, hz, hv⟩ := hv
    cases hv
    exact value_pair ds f hV n al a b c d e x y z w DA A ea dcap cap ha hb hc hd hx hy hz hD hs he
  rw [if_neg h7] at hv
  have hk : k ≠ 1 ∧ k ≠ 18 ∧ k ≠ 5 ∧ k ≠ 8 ∧ k ≠ 9 ∧ k ≠ 17 ∧ k ≠ 3 ∧ k ≠ 4 ∧ k ≠ 6 ∧ k ≠ 7 := by omega
  split at hv
  · split at hv
    · cases hv
    · cases hv
      exact value_leaf ds k n hk e w DA A ea dcap cap hD hs he
  · rename_i a
    split at hv
    · rename_i h16
      subst h16
      simp only [Option.bind_eq_some_iff] at hv
      obtain ⟨x, hx, hv⟩ := hv
      split at hv
      · rename_i hch
        cases hv
        exact value_suc ds f hV n a e x w DA A ea dcap cap hx hch hD hs he
      · cases hv
    · cases hv
  · cases hv

theorem eval_any (ds : List ND) : ∀ f, ValueC ds f ∧ ApplyC ds f ∧ RecC ds f := by
  intro f
  induction f with
  | zero =>
    refine ⟨fun t e v w D s ev h => ?_, fun g a v w D p q h => ?_, fun c s z n v w D cs ce ss se zp np h => ?_⟩ <;> (rw [evalP] at h; cases h)
  | succ f ih => exact ⟨value_step ds f ih.1 ih.2.1 ih.2.2, apply_step ds f ih.1, rec_step ds f ih.1 ih.2.2⟩
end Go.Proofs.YtjboibbgigkhkaaGreatDoor

/- Lemmas for regions that call and lay; eval.Free; slices.Clone of values; under, of package conv. -/
namespace Go.Proofs.YtjboibbgigkhkaaGreatDoor
open Go.RowKit
set_option maxRecDepth 100000

theorem below_alloc' {a w : World} (h : Below a.heap.size a w) (o : Obj) : Below a.heap.size a (w.alloc o) := h.alloc h.size o
theorem below_step {a w w' : World} (h : Below a.heap.size a w) (k : Below w.heap.size w w') : Below a.heap.size a w' := h.trans (k.mono h.size)
theorem below_size {a w : World} (h : Below a.heap.size a w) : a.heap.size ≤ w.heap.size := h.size
theorem below_grown {a w w' : World} {row : Option Nat} (h : Below a.heap.size a w) (hg : w.grownBy w' row) (hr : ∀ k, row = some k → a.heap.size ≤ k) : Below a.heap.size a w' := h.grown hg h.size hr
theorem below_drew {a w : World} (h : Below a.heap.size a w) : Below a.heap.size a w.drew := h.drew
theorem Blk.more {w w' : World} {g : Nat} {t : TypeId} {cs : Array Value} (h : Blk w g t cs) (hb : Below w.heap.size w w') : Blk w' g t cs := h.below hb h.lt
theorem Blk.new' {w : World} {g : Nat} {t : TypeId} {cs : Array Value} (h : g = w.heap.size) : Blk (w.alloc (.cells cs t)) g t cs := by subst h; exact Blk.new w t cs
theorem reads_blk {w : World} {g : Nat} {t : TypeId} {v : Value} (h : Blk w g t #[v]) : Reads w w.heap.size 1 (some ⟨g, 0, none⟩) 1 [v] :=
  ⟨rfl, fun _ => ⟨_, rfl, h.lt, fun j u hu => by
    match j, hu with
    | 0, hu => simp at hu; subst hu; exact h.cell 0⟩⟩
theorem own_mono {w : World} {base base' : Nat} {e : TypeId} {size : Nat} {V : Value} {n : Nat} {xs : List Value} (h : w.ownsRow base e size V n xs) (hb : base' ≤ base) : w.ownsRow base' e size V n xs :=
  ⟨h.1, h.2.imp id fun ⟨g, cap, cur, h1, h2, h3⟩ => ⟨g, cap, cur, h1, Nat.le_trans hb h2, h3⟩⟩
theorem own_keep {w w' : World} {base : Nat} {e : TypeId} {size : Nat} {V : Value} {n : Nat} {xs : List Value} (h : w.ownsRow base e size V n xs) (hb : Below w.heap.size w w') : w'.ownsRow base e size V n xs :=
  h.kept (row_grown_of_below hb none) (by cases V.ownBlock <;> simp)

/-- a slice of values, whole -/
def ValsIn (w : World) (l : List Val) (v : Value) : Prop := ∃ A m, v = .slice A l.length m ∧ l.length ≤ m ∧ m ≤ maxLen ∧ ValsAt w l A
theorem ValsIn.keep {w w' : World} {l : List Val} {v : Value} (h : ValsIn w l v) (hb : Below w.heap.size w w') : ValsIn w' l v := by
  obtain ⟨A, m, h1, h2, h3, h4⟩ := h
  exact ⟨A, m, h1, h2, h3, h4.keep hb⟩
theorem ValsIn.nil (w : World) : ValsIn w [] (.slice none 0 0) := ⟨none, 0, rfl, Nat.le_refl _, by unfold maxLen; omega, fun h => absurd rfl h⟩

theorem all_some {α β : Type} : ∀ (l : List α) (P : Nat → α → β → Prop), (∀ (j : Nat) (x : α), l[j]? = some x → ∃ q, P j x q) → ∃ ps : List β, ps.length = l.length ∧ ∀ (j : Nat) (x : α), l[j]? = some x → ∃ q, ps[j]? = some q ∧ P j x q := by
  intro l
  induction l with
  | nil => intro P _; exact ⟨[], rfl, fun j x h => by simp at h⟩
  | cons a r ih =>
    intro P h
    obtain ⟨q, hq⟩ := h 0 a rfl
    obtain ⟨ps, h1, h2⟩ := ih (fun j => P (j + 1)) (fun j x hx => h (j + 1) x (by simpa using hx))
    refine ⟨q :: ps, by simp [h1], fun j x hx => ?_⟩
    cases j with
    | zero => simp at hx; subst hx; exact ⟨q, rfl, hq⟩
    | succ j => simp at hx; obtain ⟨q', a, b⟩ := h2 j x hx; exact ⟨q', by simpa using a, b⟩

/-- the pointers of values in a row -/
def Ptrs (w : World) (l : List Val) (ps : List Value) : Prop := ps.length = l.length ∧ (∀ u ∈ ps, u.oneCell' = true) ∧ ∀ (j : Nat) (x : Val), l[j]? = some x → ∃ q, ps[j]? = some q ∧ ValAt w x q
theorem Ptrs.keep {w w' : World} {l : List Val} {ps : List Value} (h : Ptrs w l ps) (hb : Below w.heap.size w w') : Ptrs w' l ps := ⟨h.1, h.2.1, fun j x hx => by obtain ⟨q, a, b⟩ := h.2.2 j x hx; exact ⟨q, a, b.keep hb⟩⟩
theorem Ptrs.snoc {w : World} {l : List Val} {ps : List Value} {x : Val} {p : Value} (h : Ptrs w l ps) (hx : ValAt w x p) : Ptrs w (l ++ [x]) (ps ++ [p]) := by
  obtain ⟨h1, h2, h3⟩ := h
  refine ⟨by simp [h1], fun u hu => ?_, fun j y hy => ?_⟩
  · rcases List.mem_append.1 hu with hu | hu
    · exact h2 u hu
    · simp at hu; subst hu; obtain ⟨b, rfl⟩ := hx.form; rfl
  · rcases Nat.lt_or_ge j l.length with hj | hj
    · rw [List.getElem?_append_left hj] at hy
      obtain ⟨q, a, b⟩ := h3 j y hy
      exact ⟨q, by rw [List.getElem?_append_left (by omega)]; exact a, b⟩
    · rw [List.getElem?_append_right hj] at hy
      obtain rfl : j = l.length := by
        rcases Nat.eq_zero_or_pos (j - l.length) with h0 | h0
        · omega
        · rw [List.getElem?_eq_none (by simp; omega)] at hy; cases hy
      simp at hy
      subst hy
      exact ⟨p, by rw [List.getElem?_append_right (by omega), h1]; simp, hx⟩
theorem ValsAt.reads {w : World} {l : List Val} {A : Option Addr} (h : ValsAt w l A) : ∃ ps, Ptrs w l ps ∧ Reads w w.heap.size 1 A l.length ps := by
  cases hl : l with
  | nil => exact ⟨[], ⟨rfl, fun u hu => by simp at hu, fun j x hx => by simp at hx⟩, by simp, fun h => absurd h (by simp)⟩
  | cons y r =>
    rw [← hl]
    obtain ⟨ab, ao, rfl, hq⟩ := h (by rw [hl]; simp)
    obtain ⟨ps, h1, h2⟩ := all_some l (fun j x q => w.cell? ⟨ab, ao + j, none⟩ = some q ∧ ValAt w x q) hq
    have h3 : ∀ j u, ps[j]? = some u → ∃ x, l[j]? = some x ∧ w.cell? ⟨ab, ao + j, none⟩ = some u ∧ ValAt w x u := by
      intro j u hu
      have hj : j < l.length := by have := (List.getElem?_eq_some_iff.1 hu).1; omega
      obtain ⟨q, a, b, c⟩ := h2 j l[j] (List.getElem?_eq_getElem hj)
      rw [hu] at a
      cases a
      exact ⟨_, List.getElem?_eq_getElem hj, b, c⟩
    refine ⟨ps, ⟨h1, fun u hu => ?_, fun j x hx => ?_⟩, by simpa using h1, fun hn => ⟨_, rfl, ?_, fun j u hu => ?_⟩⟩
    · obtain ⟨j, hj, rfl⟩ := List.getElem_of_mem hu
      obtain ⟨x, -, -, c⟩ := h3 j _ (List.getElem?_eq_getElem hj)
      obtain ⟨b, hb⟩ := c.form
      rw [hb]
      rfl
    · obtain ⟨q, a, b, c⟩ := h2 j x hx
      exact ⟨q, a, c⟩
    · obtain ⟨q, a, -⟩ := hq 0 l[0] (List.getElem?_eq_getElem hn)
      exact World.block_lt_of_cell? _ _ a
    · obtain ⟨x, -, b, -⟩ := h3 j u hu
      rw [Go.WideShapes.add_plain]
      exact b
theorem ValsIn.of_own {w : World} {base : Nat} {t : TypeId} {V : Value} {l : List Val} {ps : List Value} (h : w.ownsRow base t 1 V l.length ps) (hp : Ptrs w l ps) : ValsIn w l V := by
  rcases id h.2 with ⟨rfl, h0⟩ | ⟨g, cap, cur, rfl, -, -, hle, hm, -⟩
  · have : l = [] := List.eq_nil_of_length_eq_zero h0
    subst this
    exact ValsIn.nil w
  · refine ⟨_, cap, rfl, hle, hm, fun hn => ⟨g, 0, rfl, fun j x hx => ?_⟩⟩
    obtain ⟨q, a, b⟩ := hp.2.2 j x hx
    have hc := h.cells (g := g) rfl j q a
    rw [Go.WideShapes.add_plain] at hc
    exact ⟨q, hc, b⟩

theorem free_at (n : Int) (w : World) : Calls Tryz.prog 152 #[.int .i64 n] w (fun e w' => e = .returned (.pointer (some ⟨w.heap.size, 0, none⟩)) ∧ w' = w.alloc (.cells #[.int .i64 1, .int .i64 n, .slice none 0 0, .slice none 0 0] 96)) := by
  go_enter Tryz.func152, Tryz.ntmps152
  go_wp2_with fail
  go_ret
  exact ⟨rfl, rfl⟩
theorem free_any (n : Int) (w : World) : Calls Tryz.prog 152 #[.int .i64 n] w (VPost (freeP n) w) :=
  (free_at n w).mono fun _ _ h => by
    obtain ⟨rfl, rfl⟩ := h
    exact ⟨_, rfl, val_leaf w 1 n, (Below.refl _ _).alloc (Nat.le_refl _) _⟩
theorem free_blk {w : World} {g : Nat} {n : Int} (h : Blk w g 96 #[.int .i64 1, .int .i64 n, .slice none 0 0, .slice none 0 0]) : ValAt w (freeP n) (.pointer (some ⟨g, 0, none⟩)) :=
  ValAt.box (v := freeP n) h (fun h => absurd rfl h) (fun h => absurd rfl h)
theorem blk_grown {w w' : World} {row : Option Nat} {g : Nat} {t : TypeId} {cs : Array Value} (hg : w.grownBy w' row) (h : Blk w g t cs) (hne : ∀ k, row = some k → k < g) : Blk w' g t cs :=
  (hg.block g h.lt (fun e => by have := hne g e.symm; omega)).trans h

/-- a copy: a row of its own -/
def OwnPost (t : TypeId) (size n base : Nat) (xs : List Value) (w : World) (e : Ending) (w' : World) : Prop := ∃ V, e = .returned V ∧ w'.ownsRow base t size V n xs ∧ Below w.heap.size w w'
theorem vclone_any (n : Nat) (ps : List Value) (w : World) (A : Option Addr) (cap : Nat) (hR : Reads w w.heap.size 1 A n ps) (h1 : ∀ u ∈ ps, u.oneCell' = true) (hn : n ≤ 1000000) :
    Calls Tryz.prog 170 #[.slice A n cap] w (OwnPost 63 1 n w.heap.size ps w) := by
  cases A with
  | none =>
    have hn0 : n = 0 := by
      rcases Nat.eq_zero_or_pos n with h0 | h0
      · exact h0
      · obtain ⟨ad, e, -⟩ := hR.2 h0; cases e
    subst hn0
    have hp : ps = [] := List.eq_nil_of_length_eq_zero (by simpa using hR.1)
    subst hp
    clear hR h1
    have heq : (binOp BinOp.eql 93 (.slice none 0 cap) (.slice none 0 0)).run Tryz.prog w = .ok (.bool true) w := by kernel_rfl
    go_enter Tryz.func170, Tryz.ntmps170
    go_wp2_with fail
    go_ret
    exact ⟨_, rfl, World.ownsRow_nil _ _ _ _, Below.refl _ _⟩
  | some ad =>
    have HRD := Lib.hid (hR.alloc (Nat.le_refl _) (.cells #[] 63))
    have hm1 : 0 + n ≤ maxLen := by unfold maxLen; omega
    have hm2 : (0 + n) * 8 ≤ 140737488355328 := by omega
    obtain ⟨i0, hi0, hz0, hz1, hz2⟩ := info_parts Tryz.infoVal
    clear hR
    have heq : (binOp BinOp.eql 93 (.slice (some ad) n cap) (.slice none 0 0)).run Tryz.prog w = .ok (.bool false) w := by kernel_rfl
    go_enter Tryz.func170, Tryz.ntmps170
    go_wp2_with (first | (at_builtin; go_loud (refine wpList_append_any _ rfl (.tmp 5) (.tmp 6) 93 rfl w.heap.size 63 i0 (.pointer none) 1 8 Tryz.underlying93 hi0 hz0 hz1 hz2 rfl (by decide) _ 0 [] rfl (own_empty _ _ (Nat.le_refl _) _) w.heap.size (some ad) n cap ps rfl HRD.out h1 hm1 hm2 (by simp) ?_)))
    intro V wa hown hgr _
    have hba : Below w.heap.size w wa := (((Below.refl w.heap.size w).alloc (Nat.le_refl _) (.cells #[] 63))).grown hgr (by simp) (by intro k hk; simp [Value.ownBlock] at hk; omega)
    have HO := Lib.hid (show wa.ownsRow w.heap.size 63 1 V n ps from by simpa using hown)
    clear hown hgr
    obtain ⟨A2, cap2, hV⟩ := ownf HO.out
    subst hV
    go_wp2_with fail
    go_ret
    exact ⟨_, rfl, HO.out, hba⟩

/-- what conv has at hand -/
def JudgeAt (w : World) (ds : List ND) (l : List Val) (jp : Value) : Prop := ∃ jb D v, jp = .pointer (some ⟨jb, 0, none⟩) ∧ w.cell? ⟨jb, 0, none⟩ = some D ∧ w.cell? ⟨jb, 1, none⟩ = some v ∧ DeclsAt w ds D ∧ ValsIn w l v
theorem JudgeAt.keep {w w' : World} {ds : List ND} {l : List Val} {jp : Value} (h : JudgeAt w ds l jp) (hb : Below w.heap.size w w') : JudgeAt w' ds l jp := by
  obtain ⟨jb, D, v, h1, h2, h3, h4, h5⟩ := h
  exact ⟨jb, D, v, h1, cell_keep hb h2, cell_keep hb h3, h4.keep hb, h5.keep hb⟩
theorem JudgeAt.new {w : World} {ds : List ND} {l : List Val} {D v : Value} (hD : DeclsAt w ds D) (hv : ValsIn w l v) : JudgeAt (w.alloc (.cells #[D, v] 209)) ds l (.pointer (some ⟨w.heap.size, 0, none⟩)) := by
  have hb := below_alloc' (Below.refl w.heap.size w) (.cells #[D, v] 209)
  have hB := Blk.new w 209 #[D, v]
  exact ⟨_, D, v, rfl, hB.cell 0, hB.cell 1, hD.keep hb, hv.keep hb⟩
theorem JudgeAt.of {w : World} {ds : List ND} {l : List Val} {D v : Value} {g : Nat} (hB : Blk w g 209 #[D, v]) (hD : DeclsAt w ds D) (hv : ValsIn w l v) : JudgeAt w ds l (.pointer (some ⟨g, 0, none⟩)) := ⟨_, D, v, rfl, hB.cell 0, hB.cell 1, hD, hv⟩

set_option maxHeartbeats 3200000 in
theorem junder_any (ds : List ND) (l : List Val) (t : Val) (hl : l.length ≤ 100000) (w : World) (jp tp : Value) (hj : JudgeAt w ds l jp) (ht : ValAt w t tp) :
    Calls Tryz.prog 166 #[jp, tp] w (fun e w' => ∃ jp' xp, e = .returned (.tuple #[jp', xp]) ∧ JudgeAt w' ds (l ++ [t]) jp' ∧ ValAt w' (freeP l.length) xp ∧ Below w.heap.size w w') := by
  obtain ⟨jb, D, v, rfl, c0, c1, hD, A, m, rfl, hlm, hm, hvs⟩ := hj
  obtain ⟨DA, dcap, rfl, -⟩ := id hD
  obtain ⟨tb, rfl⟩ := ht.form
  obtain ⟨ps, hps, hrd⟩ := hvs.reads
  obtain ⟨i0, hi0, hz0, hz1, hz2⟩ := info_parts Tryz.infoVal
  have HCL := Lib.hid (show ∀ w' : World, Below w.heap.size w w' → Calls Tryz.prog 170 #[.slice A l.length m] w' (OwnPost 63 1 l.length w.heap.size ps w') from
    fun w' hb => (vclone_any l.length ps w' A m ((hrd.below hb).more hb.size) hps.2.1 (by omega)).mono fun e w'' h => by obtain ⟨V, h1, h2, h3⟩ := h; exact ⟨V, h1, own_mono h2 hb.size, h3⟩)
  have HFR := Lib.hid (fun (w' : World) => free_at (l.length : Int) w')
  have HP := Lib.hid (And.intro hD (And.intro ht hps))
  have HMX := Lib.hid (show l.length + 1 ≤ maxLen ∧ (l.length + 1) * 8 ≤ 140737488355328 from ⟨by unfold maxLen; omega, by omega⟩)
  have HK := Lib.hid (And.intro c0 c1)
  have HONE := Lib.hid (show ∀ u ∈ [Value.pointer (some ⟨tb, 0, none⟩)], u.oneCell' = true from by intro u hu; simp at hu; subst hu; rfl)
  clear hD hvs ht hps hrd hlm hm hl
  have HL1 := Lib.hid trivial
  have HB3 := Lib.hid trivial
  have HXB := Lib.hid trivial
  have HV3 := Lib.hid trivial
  go_enter Tryz.func166, Tryz.ntmps166
  go_wp2_with fail
  go_region_held3 (fun w' => w'.cell? ⟨jb, 0, none⟩ = some (.slice DA ds.length dcap) ∧ w'.cell? ⟨jb, 1, none⟩ = some (.slice A l.length m)) (go_keep)
    (first
      | ((with_reducible refine (HCL.out _ ?_).mono ?_); (focus (repeat (first | with_reducible exact Below.refl _ _ | with_reducible exact HB3.out | with_reducible refine below_alloc' ?_ _ | with_reducible refine below_step ?_ HL1.out | with_reducible refine below_drew ?_))); rintro e1 w1 ⟨V, rfl, hown, hb1⟩; (have HL1 := Lib.hid hb1); (have HO1 := Lib.hid hown); (have hbw : Below w.heap.size w w1 := by (repeat (first | with_reducible exact Below.refl _ _ | with_reducible exact HB3.out | with_reducible refine below_alloc' ?_ _ | with_reducible refine below_step ?_ HL1.out | with_reducible refine below_drew ?_))); (have q0 := cell_keep hbw HK.out.1); (have q1 := cell_keep hbw HK.out.2); clear hown hb1 hbw)
      | ((with_reducible refine (HFR.out _).mono ?_); rintro e2 w2 ⟨rfl, rfl⟩)
      | ((refine step_append_any _ rfl (.tmp 14) (.tmp 16) 93 rfl w.heap.size 63 i0 (.pointer none) 1 8 Tryz.underlying93 hi0 hz0 hz1 hz2 rfl (by decide) V l.length ps rfl (own_keep HO1.out (by (repeat (first | with_reducible exact Below.refl _ _ | with_reducible exact HB3.out | with_reducible refine below_alloc' ?_ _ | with_reducible refine below_step ?_ HL1.out | with_reducible refine below_drew ?_)))) _ _ 1 _ [.pointer (some ⟨tb, 0, none⟩)] rfl (by first | exact reads_blk (Blk.new _ _ _) | exact reads_blk ((Blk.new w1 63 #[.pointer (some ⟨tb, 0, none⟩)]).more (by (repeat (first | with_reducible exact Below.refl _ _ | with_reducible exact HB3.out | with_reducible refine below_alloc' ?_ _ | with_reducible refine below_step ?_ HL1.out | with_reducible refine below_drew ?_)))) | exact reads_blk ((Blk.new w 63 #[.pointer (some ⟨tb, 0, none⟩)]).more (by (repeat (first | with_reducible exact Below.refl _ _ | with_reducible exact HB3.out | with_reducible refine below_alloc' ?_ _ | with_reducible refine below_step ?_ HL1.out | with_reducible refine below_drew ?_)))) | exact reads_blk ((Blk.new w.drew 63 #[.pointer (some ⟨tb, 0, none⟩)]).more (by (repeat (first | with_reducible exact Below.refl _ _ | with_reducible exact HB3.out | with_reducible refine below_alloc' ?_ _ | with_reducible refine below_step ?_ HL1.out | with_reducible refine below_drew ?_))))) HONE.out HMX.out.1 HMX.out.2 (below_size (by (repeat (first | with_reducible exact Below.refl _ _ | with_reducible exact HB3.out | with_reducible refine below_alloc' ?_ _ | with_reducible refine below_step ?_ HL1.out | with_reducible refine below_drew ?_)))) ?_); intro V3 w3 hown3 hgr3 _; (obtain ⟨A3, cap3, hV3⟩ := ownf hown3); subst hV3; (have hb3 : Below w.heap.size w w3 := below_grown (by (repeat (first | with_reducible exact Below.refl _ _ | with_reducible exact HB3.out | with_reducible refine below_alloc' ?_ _ | with_reducible refine below_step ?_ HL1.out | with_reducible refine below_drew ?_))) hgr3 (fun k hk => (HO1.out.lt k hk).1)); (have HB3 := Lib.hid hb3); (try (have HXB := Lib.hid (blk_grown (cs := #[.int .i64 1, .int .i64 l.length, .slice none 0 0, .slice none 0 0]) (t := 96) hgr3 (by first | exact Blk.new _ _ _ | exact (Blk.new _ _ _).alloc _) (fun k hk => by have := (HO1.out.lt k hk).2; simp; omega)))); (have HV3 := Lib.hid (ValsIn.of_own (l := l ++ [t]) (by simpa using hown3) ((HP.out.2.2.keep hb3).snoc (HP.out.2.1.keep hb3)))); (have s0 := cell_keep hb3 HK.out.1); (have s1 := cell_keep hb3 HK.out.2); clear hown3 hgr3 hb3)
      | fail)
  all_goals go_wp2_with fail
  all_goals go_ret2
  all_goals exact ⟨_, _, rfl, JudgeAt.of (by first | exact Blk.new' (by simp) | exact (Blk.new' (by simp)).alloc _) (HP.out.1.keep (by (repeat (first | with_reducible exact Below.refl _ _ | with_reducible exact HB3.out | with_reducible refine below_alloc' ?_ _ | with_reducible refine below_step ?_ HL1.out | with_reducible refine below_drew ?_)))) (HV3.out.keep (by (repeat (first | with_reducible exact Below.refl _ _ | with_reducible exact HB3.out | with_reducible refine below_alloc' ?_ _ | with_reducible refine below_step ?_ HL1.out | with_reducible refine below_drew ?_)))), free_blk (by first | exact HXB.out.alloc _ | exact Blk.new' (by simp) | exact (Blk.new' (by simp)).alloc _), by (repeat (first | with_reducible exact Below.refl _ _ | with_reducible exact HB3.out | with_reducible refine below_alloc' ?_ _ | with_reducible refine below_step ?_ HL1.out | with_reducible refine below_drew ?_))⟩
end Go.Proofs.YtjboibbgigkhkaaGreatDoor

/- decl.Names: declarations' names; slices.Clone, slices.Clip of declarations. -/
namespace Go.Proofs.YtjboibbgigkhkaaGreatDoor
open Go.RowKit
set_option maxRecDepth 100000

theorem own_emptyN (w : World) (base : Nat) (hb : base ≤ w.heap.size) (e : TypeId) (size : Nat) : (w.alloc (.cells #[] e)).ownsRow base e size (.slice (some ⟨w.heap.size, 0, none⟩) 0 0) 0 [] := by
  refine ⟨by simp, .inr ⟨w.heap.size, 0, #[], rfl, hb, heap_alloc_new w _, Nat.le_refl _, by unfold maxLen; omega, by simp, by simp⟩⟩
theorem Tryz.infoDecl : (Tryz.prog.info? 50).map (fun i => (i.zero, i.size, i.bytes)) = some (some (.agg #[.string ⟨#[]⟩, .int .i64 0, .int .i64 0, .slice none 0 0, .int .i64 0, .int .i64 0, .slice none 0 0]), 7, 96) := by kernel_rfl

set_option maxHeartbeats 1600000 in
theorem dnames_any (ds : List ND) (w : World) (D : Value) (hD : DeclsAt w ds D) (hl : ds.length ≤ 1000000) :
    Calls Tryz.prog 85 #[D] w (fun e w' => ∃ V, e = .returned V ∧ w'.ownsRow w.heap.size 9 1 V (ds.map Prod.fst).length (strc (ds.map Prod.fst)) ∧ Below w.heap.size w w') := by
  obtain ⟨A, cap, rfl, hlc, hcm, -⟩ := id hD
  have HD := Lib.hid hD
  obtain ⟨i0, hi0, hz0, hz1, hz2⟩ := info_parts Tryz.infoStr
  clear hD
  go_enter Tryz.func85, Tryz.ntmps85
  go_wp2_with fail
  go_loopw [3, 8] (fun v iv wr => ∃ (k : Nat) (l : List Str), k ≤ ds.length ∧ iv = .int .i64 k ∧ wr.ownsRow w.heap.size 9 1 v l.length (strc l) ∧ Hid (l = (ds.map Prod.fst).take k) ∧ Below w.heap.size w wr) (fun _ iv _ => ds.length - (intOf iv).toNat)
  case atStart => exact ⟨0, [], Nat.zero_le _, rfl, World.ownsRow_nil _ _ _ _, Lib.hid rfl, Below.refl _ _⟩
  case round =>
    obtain ⟨k, l, hk, rfl, hown, hL, hb⟩ := hrel
    obtain ⟨A', cap', hV⟩ : ∃ A' cap', u3 = .slice A' l.length cap' := by
      rcases hown.2 with ⟨h1, h0⟩ | ⟨g, c, cur, h1, -⟩
      · exact ⟨_, _, by rw [h0]; exact h1⟩
      · exact ⟨_, _, h1⟩
    subst hV
    have HLEN := Lib.hid (show l.length = k by rw [hL.out]; simp; omega)
    by_cases hlt : k < ds.length
    · obtain ⟨d, hd⟩ : ∃ d, ds[k]? = some d := ⟨_, List.getElem?_eq_getElem hlt⟩
      obtain ⟨b, off, S, m, S', m', rfl, c0, ⟨c1, c2, c3⟩, ⟨c4, c5, c6⟩, -, -⟩ := (HD.out.keep hb).at_ hd
      have HO := Lib.hid hown
      have HTK := Lib.hid (show l ++ [d.1] = (ds.map Prod.fst).take (k + 1) from by rw [List.take_add_one, hL.out]; simp [hd])
      clear hown hd
      have HB7 := Lib.hid (below_alloc' hb (.cells #[.string ⟨d.1.toArray⟩, .int .i64 d.2.1.k, .int .i64 d.2.1.n, .slice S d.2.1.al.length m, .int .i64 d.2.2.k, .int .i64 d.2.2.n, .slice S' d.2.2.al.length m'] 50))
      have HOA := Lib.hid ((HO.out.alloc (.cells #[.string ⟨d.1.toArray⟩, .int .i64 d.2.1.k, .int .i64 d.2.1.n, .slice S d.2.1.al.length m, .int .i64 d.2.2.k, .int .i64 d.2.2.n, .slice S' d.2.2.al.length m'] 50)).alloc (.cells #[.string ⟨d.1.toArray⟩] 9))
      have hl1 : l.length + 1 ≤ maxLen := by have := HLEN.out; unfold maxLen; omega
      have hl2 : (l.length + 1) * 16 ≤ 140737488355328 := by have := HLEN.out; omega
      go_wp2_with (first | (at_builtin; go_loud (refine wpList_append_any _ rfl (.tmp 12) (.tmp 15) 35 rfl w.heap.size 9 i0 (.string ⟨#[]⟩) 1 16 Tryz.underlying35 hi0 hz0 hz1 hz2 rfl (by decide) _ l.length (strc l) rfl HOA.out _ _ 1 1 [.string ⟨d.1.toArray⟩] rfl (reads_blk (Blk.new' (t := 9) (by simp))) (by intro u hu; simp at hu; subst hu; rfl) hl1 hl2 (by have := HB7.out.size; simp at this ⊢; omega) ?_)))
      intro V2 w9 hown9 hgr9 _
      have hown9' : w9.ownsRow w.heap.size 9 1 V2 (l ++ [d.1]).length (strc (l ++ [d.1])) := by simpa [strc] using hown9
      have HE9 := Lib.hid (And.intro hown9' (below_grown (below_alloc' HB7.out (.cells #[.string ⟨d.1.toArray⟩] 9)) hgr9 (fun g hg => (HOA.out.lt g hg).1)))
      clear hown9 hgr9 hown9'
      go_wp2_with fail
      go_roundw
      case rel => exact ⟨k + 1, l ++ [d.1], by omega, by go_num, HE9.out.1, HTK, HE9.out.2⟩
      case measure => simp [intOf]; omega
    · obtain rfl : k = ds.length := by omega
      have HO := Lib.hid (And.intro hown hb)
      have HE := Lib.hid (show l = ds.map Prod.fst from by rw [hL.out, List.take_of_length_le (by simp)])
      clear hown hL HLEN hb
      go_wp2_with fail
      go_ret
      rw [← HE.out]
      exact ⟨_, rfl, HO.out.1, HO.out.2⟩

theorem dclone_raw (n : Nat) (cs : List Value) (w : World) (A : Option Addr) (cap : Nat) (hR : Reads w w.heap.size 7 A n cs) (h1 : ∀ u ∈ cs, u.oneCell' = true) (hn : n ≤ 1000000) :
    Calls Tryz.prog 87 #[.slice A n cap] w (OwnPost 50 7 n w.heap.size cs w) := by
  cases A with
  | none =>
    have hn0 : n = 0 := by
      rcases Nat.eq_zero_or_pos n with h0 | h0
      · exact h0
      · obtain ⟨ad, e, -⟩ := hR.2 h0; cases e
    subst hn0
    have hp : cs = [] := List.eq_nil_of_length_eq_zero (by simpa using hR.1)
    subst hp
    clear hR h1
    have heq : (binOp BinOp.eql 23 (.slice none 0 cap) (.slice none 0 0)).run Tryz.prog w = .ok (.bool true) w := by kernel_rfl
    go_enter Tryz.func87, Tryz.ntmps87
    go_wp2_with fail
    go_ret
    exact ⟨_, rfl, World.ownsRow_nil _ _ _ _, Below.refl _ _⟩
  | some ad =>
    have HRD := Lib.hid (hR.alloc (Nat.le_refl _) (.cells #[] 50))
    have hm1 : 0 + n ≤ maxLen := by unfold maxLen; omega
    have hm2 : (0 + n) * 96 ≤ 140737488355328 := by omega
    obtain ⟨i0, hi0, hz0, hz1, hz2⟩ := info_parts Tryz.infoDecl
    clear hR
    have heq : (binOp BinOp.eql 23 (.slice (some ad) n cap) (.slice none 0 0)).run Tryz.prog w = .ok (.bool false) w := by kernel_rfl
    go_enter Tryz.func87, Tryz.ntmps87
    go_wp2_with (first | (at_builtin; go_loud (refine wpList_append_any _ rfl (.tmp 5) (.tmp 6) 23 rfl w.heap.size 50 i0 _ 7 96 Tryz.underlying23 hi0 hz0 hz1 hz2 rfl (by decide) _ 0 [] rfl (own_emptyN _ _ (Nat.le_refl _) _ _) w.heap.size (some ad) n cap cs rfl HRD.out h1 hm1 hm2 (by simp) ?_)))
    intro V wa hown hgr _
    have hba : Below w.heap.size w wa := (((Below.refl w.heap.size w).alloc (Nat.le_refl _) (.cells #[] 50))).grown hgr (by simp) (by intro k hk; simp [Value.ownBlock] at hk; omega)
    have HO := Lib.hid (And.intro hown hba)
    clear hown hgr hba
    go_wp2_with fail
    go_ret
    exact ⟨_, rfl, by simpa using HO.out.1, HO.out.2⟩
def DClonePost (ds : List ND) (base : Nat) (w : World) (e : Ending) (w' : World) : Prop := ∃ V cs, e = .returned V ∧ w'.ownsRow base 50 7 V ds.length cs ∧ DCells w ds cs ∧ Below w.heap.size w w'
theorem dclone_any (ds : List ND) (w : World) (D : Value) (hD : DeclsAt w ds D) (hl : ds.length ≤ 1000000) :
    Calls Tryz.prog 87 #[D] w (DClonePost ds w.heap.size w) := by
  obtain ⟨A, cap, rfl, -⟩ := id hD
  obtain ⟨-, -, -, cs, hcs, hrd⟩ := hD.reads
  exact (dclone_raw ds.length cs w A cap hrd hcs.one hl).mono fun e w' h => by
    obtain ⟨V, h1, h2, h3⟩ := h
    exact ⟨V, cs, h1, h2, hcs, h3⟩
/-- a row of the call's own, where a cell of another block is set -/
theorem own_set {w : World} {base : Nat} {e : TypeId} {size : Nat} {V : Value} {n : Nat} {xs : List Value} (h : w.ownsRow base e size V n xs) {p : Addr} (hp : p.block < base) (u : Value) : (w.setCell p u).ownsRow base e size V n xs := by
  refine ⟨h.1, ?_⟩
  rcases h.2 with h2 | ⟨g, cap, cur, h1, h2, h3, h4⟩
  · exact .inl h2
  · exact .inr ⟨g, cap, cur, h1, h2, (Below.heap_setCell _ _ _ _ (by omega)).trans h3, h4⟩

theorem dclip_any (ds : List ND) (w : World) (A : Option Addr) (cap : Nat) (hc : ds.length ≤ cap) :
    Calls Tryz.prog 53 #[.slice A ds.length cap] w (fun e w' => e = .returned (.slice A ds.length ds.length) ∧ w' = w) := by
  go_enter Tryz.func53, Tryz.ntmps53
  go_wp2_with fail
  go_ret
  exact ⟨rfl, rfl⟩
end Go.Proofs.YtjboibbgigkhkaaGreatDoor

/- decl.Add's closure: declarations as they were, and what is wrong. -/
namespace Go.Proofs.YtjboibbgigkhkaaGreatDoor
open Go.RowKit
set_option maxRecDepth 100000

/-- behind a call that answers declarations, and a verdict -/
def DVPost (ds : List ND) (err part : Int) (w : World) (e : Ending) (w' : World) : Prop := ∃ V, e = .returned (.tuple #[V, .agg #[.int .i64 err, .int .i64 part]]) ∧ DeclsAt w' ds V ∧ Below w.heap.size w w'
theorem DeclsAt.form {w : World} {ds : List ND} {v : Value} (h : DeclsAt w ds v) : ∃ A cap, v = .slice A ds.length cap := by
  obtain ⟨A, cap, e, -⟩ := h
  exact ⟨A, cap, e⟩
theorem ownF {w : World} {base : Nat} {e : TypeId} {size : Nat} {V : Value} {n : Nat} {xs : List Value} (h : w.ownsRow base e size V n xs) : ∃ A cap, V = .slice A n cap := by
  rcases h.2 with ⟨h1, h0⟩ | ⟨g, c, cur, h1, -⟩
  · exact ⟨_, _, by rw [h0]; exact h1⟩
  · exact ⟨_, _, h1⟩
theorem Blk.two {w : World} {g : Nat} {t : TypeId} {a b : Value} (h : Blk w g t #[a, b]) : (w.cell? ⟨g, 0, none⟩ = some a ∧ w.cell? ⟨g, 1, none⟩ = some b) ∧ w.frozen? ⟨g, 0, none⟩ = false ∧ w.frozen? ⟨g, 1, none⟩ = false := ⟨⟨h.cell 0, h.cell 1⟩, h.frozen 0, h.frozen 1⟩
/-- cells that are declarations', in blocks of a set -/
def DCellsS (w : World) (S : Nat → Prop) : List ND → List Value → Prop
  | [], cs => cs = []
  | d :: r, cs => ∃ s s' cs', cs = dcell d s s' ++ cs' ∧ argsInS w S d.2.1 s ∧ argsInS w S d.2.2 s' ∧ DCellsS w S r cs'
theorem DCellsS.keep {w w' : World} {S S' : Nat → Prop} (hS : ∀ b, S b → S' b) (hk : ∀ p : Addr, S p.block → w'.cell? p = w.cell? p) : ∀ {ds : List ND} {cs : List Value}, DCellsS w S ds cs → DCellsS w' S' ds cs
  | [], cs, h => h
  | d :: r, cs, h => by
    obtain ⟨s, s', cs', e, h1, h2, h⟩ := h
    exact ⟨s, s', cs', e, h1.keep hS hk, h2.keep hS hk, h.keep hS hk⟩
theorem DCellsS.cells {w : World} {S : Nat → Prop} (hS : ∀ b, S b → b < w.heap.size) : ∀ {ds : List ND} {cs : List Value}, DCellsS w S ds cs → DCells w ds cs
  | [], cs, h => h
  | d :: r, cs, h => by
    obtain ⟨s, s', cs', e, h1, h2, h⟩ := h
    exact ⟨s, s', cs', e, argsInS.keep h1 hS (fun _ _ => rfl), argsInS.keep h2 hS (fun _ _ => rfl), h.cells hS⟩
theorem DCellsS.snoc {w : World} {S : Nat → Prop} {d : ND} {s s' : Value} (h1 : argsInS w S d.2.1 s) (h2 : argsInS w S d.2.2 s') : ∀ {ds : List ND} {cs : List Value}, DCellsS w S ds cs → DCellsS w S (ds ++ [d]) (cs ++ dcell d s s')
  | [], cs, h => by
    rw [show cs = [] from h]
    exact ⟨s, s', [], by simp, h1, h2, rfl⟩
  | x :: r, cs, h => by
    obtain ⟨q, q', cs', rfl, a, b, h⟩ := h
    exact ⟨q, q', cs' ++ dcell d s s', by simp, a, b, h.snoc h1 h2⟩
/-- two rows of the call's own of other types lie in other blocks -/
theorem own_apart {w : World} {b1 b2 : Nat} {e1 e2 : TypeId} {n1 n2 m1 m2 : Nat} {V1 V2 : Value} {x1 x2 : List Value} (h1 : w.ownsRow b1 e1 n1 V1 m1 x1) (h2 : w.ownsRow b2 e2 n2 V2 m2 x2) (he : e1 ≠ e2) {g : Nat} (hg : V1.ownBlock = some g) : V2.ownBlock ≠ some g := by
  intro hg2
  rcases h1.2 with ⟨rfl, -⟩ | ⟨g1, c1, u1, rfl, -, k1, -⟩
  · simp [Value.ownBlock] at hg
  · rcases h2.2 with ⟨rfl, -⟩ | ⟨g2, c2, u2, rfl, -, k2, -⟩
    · simp [Value.ownBlock] at hg2
    · simp [Value.ownBlock] at hg hg2
      subst hg hg2
      rw [k1] at k2
      cases k2
      exact he rfl
def NoPost (n : Nat) (cs : List Value) (err part : Int) (w : World) (e : Ending) (w' : World) : Prop := ∃ V, e = .returned (.tuple #[V, .agg #[.int .i64 err, .int .i64 part]]) ∧ w'.ownsRow w.heap.size 50 7 V n cs ∧ Below w.heap.size w w'
set_option maxHeartbeats 800000 in
theorem addno_raw (n : Nat) (cs : List Value) (err part : Int) (g : Nat) (A : Option Addr) (cap : Nat) (w : World) (hB : Blk w g 23 #[.slice A n cap]) (hR : Reads w w.heap.size 7 A n cs) (h1 : ∀ u ∈ cs, u.oneCell' = true) (hl : n ≤ 1000000) :
    Calls Tryz.prog 86 #[.int .i64 err, .int .i64 part, .pointer (some ⟨g, 0, none⟩)] w (NoPost n cs err part w) := by
  have hba := below_alloc' (Below.refl w.heap.size w) (.cells #[.int .i64 0, .int .i64 0] 58)
  have HD := Lib.hid (And.intro ((hR.below hba).more hba.size) (And.intro h1 hba))
  have c0 := (hB.alloc (.cells #[.int .i64 0, .int .i64 0] 58)).cell 0
  simp only [List.getElem?_toArray, List.getElem?_cons_zero] at c0
  have HSZ := Lib.hid (show w.heap.size < (w.alloc (.cells #[.int .i64 0, .int .i64 0] 58)).heap.size by simp)
  clear hB hR hba h1
  go_enter Tryz.func86, Tryz.ntmps86
  go_wp2_with fail
  have HV := Lib.hid (Blk.new w 58 #[.int .i64 0, .int .i64 0])
  generalize w.alloc (.cells #[.int .i64 0, .int .i64 0] 58) = w1 at *
  refine (dclone_raw n cs w1 _ _ HD.out.1 HD.out.2.1 hl).mono ?_
  rintro e w2 ⟨V, rfl, hown, hb2⟩
  obtain ⟨A2, cap2, rfl⟩ : ∃ A2 cap2, V = .slice A2 n cap2 := by
    rcases hown.2 with ⟨h1, h0⟩ | ⟨g, c, cur, h1, -⟩
    · exact ⟨_, _, by rw [h0]; exact h1⟩
    · exact ⟨_, _, h1⟩
  have hbl := HV.out.more hb2
  have HV2 := Lib.hid (And.intro hown (below_step HD.out.2.2 hb2))
  have v0 := hbl.cell 0
  have v1 := hbl.cell 1
  simp only [List.getElem?_toArray, List.getElem?_cons_zero, List.getElem?_cons_succ] at v0 v1
  have f0 := hbl.frozen 0
  have f1 := hbl.frozen 1
  clear hown hb2 hbl
  go_wp2_with fail
  have hbf := (HV2.out.2.setCell (p := ⟨w.heap.size, 0, none⟩) (Nat.le_refl _) (.int .i64 err)).setCell (p := ⟨w.heap.size, 1, none⟩) (Nat.le_refl _) (.int .i64 part)
  refine bodyPost_ret (v := .tuple #[.slice A2 n cap2, .agg #[.int .i64 err, .int .i64 part]]) (by simp [results, Tryz.results86, go_sem, v0, v1]) rfl ⟨_, rfl, own_mono (own_set (own_set HV2.out.1 HSZ.out _) HSZ.out _) (Nat.le_of_lt HSZ.out), hbf⟩
end Go.Proofs.YtjboibbgigkhkaaGreatDoor

/- package conv: two types are the same: sorts, Sorts. -/
namespace Go.Proofs.YtjboibbgigkhkaaGreatDoor
open Go.RowKit
set_option maxRecDepth 100000

theorem Blk.drew' {w : World} {g : Nat} {t : TypeId} {cs : Array Value} (h : Blk w g t cs) : Blk w.drew g t cs := h
theorem vals_blk {w : World} {g : Nat} {t : TypeId} {x : Val} {p : Value} (h : Blk w g t #[p]) (hx : ValAt w x p) : ValsAt w [x] (some ⟨g, 0, none⟩) := fun _ =>
  args_row h fun j y hy => by
    match j, hy with
    | 0, hy => cases hy; exact ⟨p, rfl, hx⟩
    | j + 1, hy => simp at hy

/-- With of one value, wherever it is called -/
theorem with_one (ds : List ND) (f : Nat) (c : Clo) (x v : Val) (hv : withP (ds.map Prod.snd) f c [x] = some v) {w0 : World} {D s e xp : Value} (hD : DeclsAt w0 ds D) (hc : CloAt w0 c s e) (hx : ValAt w0 x xp) :
    ∀ (w' : World) (g : Nat), Below w0.heap.size w0 w' → Blk w' g 63 #[xp] →
      Calls Tryz.prog 60 #[.agg #[.int .i64 c.1.k, .int .i64 c.1.n, s, e], D, .slice (some ⟨g, 0, none⟩) 1 1] w' (VPost v w') := fun w' g hb hB =>
  with_any ds f (eval_any ds f).1 c [x] v hv w' D s e (some ⟨g, 0, none⟩) 1 (by simp) (hD.keep hb) (hc.keep hb) (vals_blk hB (hx.keep hb))

/-- a value, opened: its first part, its first closure -/
theorem val_arg0 {w : World} {v x : Val} {p : Value} (h : ValAt w v p) (hx : v.args[0]? = some x) : ∃ b ab ao m qb, p = .pointer (some ⟨b, 0, none⟩) ∧ w.cell? ⟨b, 2, none⟩ = some (.slice (some ⟨ab, ao, none⟩) v.args.length m) ∧ 0 < v.args.length ∧
    w.cell? ⟨ab, ao, none⟩ = some (.pointer (some ⟨qb, 0, none⟩)) ∧ ValAt w x (.pointer (some ⟨qb, 0, none⟩)) := by
  obtain ⟨b, A, m, B, l, rfl, ⟨-, -, c2, -⟩, h3, -⟩ := h.open_
  have hl := (List.getElem?_eq_some_iff.1 hx).1
  obtain ⟨ab, ao, rfl, hq⟩ := h3 (by intro e; rw [e] at hl; simp at hl)
  obtain ⟨q, cq, hxq⟩ := hq 0 x hx
  obtain ⟨qb, rfl⟩ := hxq.form
  exact ⟨b, ab, ao, m, qb, rfl, c2, hl, by simpa using cq, hxq⟩
theorem val_clo0 {w : World} {v : Val} {c : Clo} {p : Value} (h : ValAt w v p) (hc : v.bs[0]? = some c) : ∃ b bb bo m S sc ea, p = .pointer (some ⟨b, 0, none⟩) ∧ w.cell? ⟨b, 3, none⟩ = some (.slice (some ⟨bb, bo, none⟩) v.bs.length m) ∧ 0 < v.bs.length ∧
    (w.cell? ⟨bb, bo, none⟩ = some (.int .i64 c.1.k) ∧ w.cell? ⟨bb, bo + 1, none⟩ = some (.int .i64 c.1.n) ∧ w.cell? ⟨bb, bo + 2, none⟩ = some (.slice S c.1.al.length sc) ∧ w.cell? ⟨bb, bo + 3, none⟩ = some (.pointer ea)) ∧ CloAt w c (.slice S c.1.al.length sc) (.pointer ea) := by
  obtain ⟨b, A, m, B, l, rfl, ⟨-, -, -, c3⟩, -, h4⟩ := h.open_
  have hl := (List.getElem?_eq_some_iff.1 hc).1
  obtain ⟨bb, bo, rfl, hq⟩ := h4 (by intro e; rw [e] at hl; simp at hl)
  obtain ⟨s, e, ⟨k0, k1, k2, k3⟩, hca⟩ := hq 0 c hc
  obtain ⟨ea, rfl⟩ := hca.2.form
  obtain ⟨SA, scap, rfl, -⟩ := argsIn_iff.1 hca.1
  exact ⟨b, bb, bo, l, SA, scap, ea, rfl, c3, hl, ⟨by simpa using k0, by simpa using k1, by simpa using k2, by simpa using k3⟩, hca⟩
theorem val_kn {w : World} {v : Val} {p : Value} (h : ValAt w v p) : ∃ b, p = .pointer (some ⟨b, 0, none⟩) ∧ w.cell? ⟨b, 0, none⟩ = some (.int .i64 v.k) ∧ w.cell? ⟨b, 1, none⟩ = some (.int .i64 v.n) := by
  obtain ⟨b, A, m, B, l, rfl, ⟨c0, c1, -, -⟩, -, -⟩ := h.open_
  exact ⟨b, rfl, c0, c1⟩

def SortsC (ds : List ND) (f : Nat) : Prop := ∀ (l : List Val) (a b : Val) (r : Bool) (w : World) (jp pa pb : Value), sortsP (ds.map Prod.snd) f l.length a b = some r → l.length + f ≤ 90000 → JudgeAt w ds l jp → ValAt w a pa → ValAt w b pb →
  Calls Tryz.prog 157 #[jp, pa, pb] w (StrPost (.bool r) w)

set_option maxHeartbeats 3200000 in
theorem sorts_step (ds : List ND) (f : Nat) (hS : SortsC ds f) : SortsC ds (f + 1) := by
  intro l a b r w jp pa pb hr hl hj ha hb
  have HJ := Lib.hid hj
  have HA := Lib.hid (And.intro ha hb)
  obtain ⟨jb, JD, jv, rfl, jc0, jc1, hjD, -⟩ := hj
  obtain ⟨DA, dcap, rfl, -⟩ := id hjD
  obtain ⟨va, rfl, a0, a1⟩ := val_kn ha
  obtain ⟨vb, rfl, b0, b1⟩ := val_kn hb
  have HS := Lib.hid hS
  have HL1 := Lib.hid trivial
  have HL2 := Lib.hid trivial
  have HL3 := Lib.hid trivial
  have HL4 := Lib.hid trivial
  have HL5 := Lib.hid trivial
  have HJD := Lib.hid (And.intro hjD jc0)
  unfold sortsP at hr
  clear hS hjD jc1
  by_cases h0 : a.k ≠ b.k
  · rw [if_pos h0] at hr
    cases hr
    have h0b : (a.k != b.k) = true := by simpa using h0
    clear h0 ha hb
    go_enter Tryz.func157, Tryz.ntmps157
    go_wp2_with fail
    go_region
    go_wp2_with fail
    go_ret
    exact ⟨rfl, by (repeat (first | with_reducible exact Below.refl _ _ | with_reducible refine below_alloc' ?_ _ | with_reducible refine below_step ?_ HL1.out | with_reducible refine below_step ?_ HL2.out | with_reducible refine below_step ?_ HL3.out | with_reducible refine below_step ?_ HL4.out | with_reducible refine below_step ?_ HL5.out | with_reducible refine below_drew ?_))⟩
  rw [if_neg h0] at hr
  have hk : a.k = b.k := by omega
  have h0b : (a.k != b.k) = false := by simpa using hk
  clear h0
  by_cases h2 : a.k = 2
  · rw [if_pos h2] at hr
    cases hr
    have h2b : (a.k == 2) = true := by simpa using h2
    clear h2 hk ha hb
    go_enter Tryz.func157, Tryz.ntmps157
    go_wp2_with fail
    go_region
    go_wp2_with fail
    go_region
    go_wp2_with fail
    go_ret
    exact ⟨rfl, by (repeat (first | with_reducible exact Below.refl _ _ | with_reducible refine below_alloc' ?_ _ | with_reducible refine below_step ?_ HL1.out | with_reducible refine below_step ?_ HL2.out | with_reducible refine below_step ?_ HL3.out | with_reducible refine below_step ?_ HL4.out | with_reducible refine below_step ?_ HL5.out | with_reducible refine below_drew ?_))⟩
  rw [if_neg h2] at hr
  have h2b : (a.k == 2) = false := by simpa using h2
  by_cases h3 : a.k = 10 ∨ a.k = 12 ∨ a.k = 14
  · rw [if_pos h3] at hr
    cases hr
    clear h2 hk ha hb
    rcases h3 with h3 | h3 | h3
    all_goals
      first
        | have h3a : (a.k == 10) = true := by simp [h3]; done
        | (have h3a : (a.k == 10) = false := by simp [h3]; done
           first
             | have h3c : (a.k == 12) = true := by simp [h3]; done
             | (have h3c : (a.k == 12) = false := by simp [h3]; done
                have h3d : (a.k == 14) = true := by simp [h3]; done))
      clear h3
      go_enter Tryz.func157, Tryz.ntmps157
      go_wp2_with fail
      go_region
      go_wp2_with fail
      go_ret
      exact ⟨rfl, by (repeat (first | with_reducible exact Below.refl _ _ | with_reducible refine below_alloc' ?_ _ | with_reducible refine below_step ?_ HL1.out | with_reducible refine below_step ?_ HL2.out | with_reducible refine below_step ?_ HL3.out | with_reducible refine below_step ?_ HL4.out | with_reducible refine below_step ?_ HL5.out | with_reducible refine below_drew ?_))⟩
  rw [if_neg h3] at hr
  have h10 : (a.k == 10) = false := kind_ne (by omega)
  have h12 : (a.k == 12) = false := kind_ne (by omega)
  have h14 : (a.k == 14) = false := kind_ne (by omega)
  have h6 : a.k = 3 ∨ a.k = 6 := by
    refine Decidable.byContradiction fun h6 => ?_
    rw [if_neg h6] at hr
    cases hr
  rw [if_pos h6] at hr
  simp only [Option.bind_eq_some_iff] at hr
  obtain ⟨x, hx, y, hy, q, hq, hr⟩ := hr
  obtain ⟨va', aa, ao, am, xb, e, a2, hal, ax, hxv⟩ := val_arg0 ha hx
  cases e
  obtain ⟨vb', ba, bo, bm, yb, e, b2, hbl, bx, hyv⟩ := val_arg0 hb hy
  cases e
  have HX := Lib.hid (And.intro hxv hyv)
  have HC0 := Lib.hid (show ∀ w' : World, Below w.heap.size w w' → Calls Tryz.prog 157 #[.pointer (some ⟨jb, 0, none⟩), .pointer (some ⟨xb, 0, none⟩), .pointer (some ⟨yb, 0, none⟩)] w' (StrPost (.bool q) w') from
    fun w' hb => HS.out l x y q w' _ _ _ hq (by omega) (HJ.out.keep hb) (hxv.keep hb) (hyv.keep hb))
  have HLN := Lib.hid hl
  have HR := Lib.hid hr
  have HK := Lib.hid h6
  clear hr hx hy hq hxv hyv ha hb hl h3 h2 hk
  rcases h6 with h6 | h6
  all_goals
    first
      | have h6a : (a.k == 3) = true := by simp [h6]; done
      | (have h6a : (a.k == 3) = false := by simp [h6]; done
         have h6b : (a.k == 6) = true := by simp [h6]; done)
    clear h6
    cases q with
    | false =>
      have hrr := HR.out
      rw [if_pos rfl] at hrr
      cases hrr
      go_enter Tryz.func157, Tryz.ntmps157
      go_wp2_with fail
      go_region
      go_wp2_with fail
      go_region_held3 (fun w' => w'.cell? ⟨va, 2, none⟩ = some (.slice (some ⟨aa, ao, none⟩) a.args.length am) ∧ w'.cell? ⟨vb, 2, none⟩ = some (.slice (some ⟨ba, bo, none⟩) b.args.length bm) ∧ w'.cell? ⟨aa, ao, none⟩ = some (.pointer (some ⟨xb, 0, none⟩)) ∧ w'.cell? ⟨ba, bo, none⟩ = some (.pointer (some ⟨yb, 0, none⟩))) (go_keep)
        (first
          | ((with_reducible refine (HC0.out _ (by (repeat (first | with_reducible exact Below.refl _ _ | with_reducible refine below_alloc' ?_ _ | with_reducible refine below_step ?_ HL1.out | with_reducible refine below_step ?_ HL2.out | with_reducible refine below_step ?_ HL3.out | with_reducible refine below_step ?_ HL4.out | with_reducible refine below_step ?_ HL5.out | with_reducible refine below_drew ?_)))).mono ?_); rintro e1 w1 ⟨rfl, hb1⟩; (have HL1 := Lib.hid hb1); (have hbw : Below w.heap.size w w1 := by (repeat (first | with_reducible exact Below.refl _ _ | with_reducible refine below_alloc' ?_ _ | with_reducible refine below_step ?_ HL1.out | with_reducible refine below_step ?_ HL2.out | with_reducible refine below_step ?_ HL3.out | with_reducible refine below_step ?_ HL4.out | with_reducible refine below_step ?_ HL5.out | with_reducible refine below_drew ?_))); (have q0 := cell_keep hbw a2); (have q1 := cell_keep hbw b2); (have q2 := cell_keep hbw ax); (have q3 := cell_keep hbw bx); clear hb1 hbw)
          | fail)
      go_wp2_with fail
      go_ret
      exact ⟨rfl, by (repeat (first | with_reducible exact Below.refl _ _ | with_reducible refine below_alloc' ?_ _ | with_reducible refine below_step ?_ HL1.out | with_reducible refine below_step ?_ HL2.out | with_reducible refine below_step ?_ HL3.out | with_reducible refine below_step ?_ HL4.out | with_reducible refine below_step ?_ HL5.out | with_reducible refine below_drew ?_))⟩
    | true =>
      have hrr := HR.out
      rw [if_neg (by simp)] at hrr
      simp only [Option.bind_eq_some_iff] at hrr
      obtain ⟨c, hc, d, hd, v, hv, u, hu, hrr⟩ := hrr
      obtain ⟨va', ca, co, cm, CS, csc, cea, e, a3, hcl, ⟨ac0, ac1, ac2, ac3⟩, hcv⟩ := val_clo0 HA.out.1 hc
      cases e
      obtain ⟨vb', da, doo, dm, DS, dsc, dea, e, b3, hdl, ⟨bd0, bd1, bd2, bd3⟩, hdv⟩ := val_clo0 HA.out.2 hd
      cases e
      have HCV := Lib.hid (And.intro hcv hdv)
      have hlx : (((l ++ [x]).length : Nat) : Int) = (l.length : Int) + 1 := by simp
      have HNX := Lib.hid (show sortsP (ds.map Prod.snd) f ((l ++ [x]).length : Nat) v u = some r ∧ (l ++ [x]).length + f ≤ 90000 from ⟨by rw [hlx]; exact hrr, by have := HLN.out; simp; omega⟩)
      clear hlx
      have HV := Lib.hid (And.intro hv (And.intro hu hrr))
      clear hcv hdv hv hu hrr hc hd
      go_enter Tryz.func157, Tryz.ntmps157
      go_wp2_with fail
      go_region
      go_wp2_with fail
      go_region_held3 (fun w' => w'.cell? ⟨va, 2, none⟩ = some (.slice (some ⟨aa, ao, none⟩) a.args.length am) ∧ w'.cell? ⟨vb, 2, none⟩ = some (.slice (some ⟨ba, bo, none⟩) b.args.length bm) ∧ w'.cell? ⟨aa, ao, none⟩ = some (.pointer (some ⟨xb, 0, none⟩)) ∧ w'.cell? ⟨ba, bo, none⟩ = some (.pointer (some ⟨yb, 0, none⟩))) (go_keep)
        (first
          | ((with_reducible refine (HC0.out _ (by (repeat (first | with_reducible exact Below.refl _ _ | with_reducible refine below_alloc' ?_ _ | with_reducible refine below_step ?_ HL1.out | with_reducible refine below_step ?_ HL2.out | with_reducible refine below_step ?_ HL3.out | with_reducible refine below_step ?_ HL4.out | with_reducible refine below_step ?_ HL5.out | with_reducible refine below_drew ?_)))).mono ?_); rintro e1 w1 ⟨rfl, hb1⟩; (have HL1 := Lib.hid hb1); (have hbw : Below w.heap.size w w1 := by (repeat (first | with_reducible exact Below.refl _ _ | with_reducible refine below_alloc' ?_ _ | with_reducible refine below_step ?_ HL1.out | with_reducible refine below_step ?_ HL2.out | with_reducible refine below_step ?_ HL3.out | with_reducible refine below_step ?_ HL4.out | with_reducible refine below_step ?_ HL5.out | with_reducible refine below_drew ?_))); (have HBW := Lib.hid hbw); (have q0 := cell_keep hbw a2); (have q1 := cell_keep hbw b2); (have q2 := cell_keep hbw ax); (have q3 := cell_keep hbw bx); clear hb1 hbw)
          | fail)
      go_wp2_with fail
      refine (junder_any ds l x (by have := HLN.out; omega) w1 _ _ (HJ.out.keep HBW.out) (HX.out.1.keep HBW.out)).mono ?_
      rintro e2 w2 ⟨jp', xp, rfl, hj2, hx2, hb2⟩
      obtain ⟨jb2, -, -, rfl, -⟩ := id hj2
      obtain ⟨fb, rfl⟩ := hx2.form
      have HL2 := Lib.hid hb2
      have hbw2 : Below w.heap.size w w2 := by (repeat (first | with_reducible exact Below.refl _ _ | with_reducible refine below_alloc' ?_ _ | with_reducible refine below_step ?_ HL1.out | with_reducible refine below_step ?_ HL2.out | with_reducible refine below_step ?_ HL3.out | with_reducible refine below_step ?_ HL4.out | with_reducible refine below_step ?_ HL5.out | with_reducible refine below_drew ?_))
      have HJ2 := Lib.hid hj2
      have s0 := cell_keep hbw2 a3
      have s1 := cell_keep hbw2 b3
      have s2 := cell_keep hbw2 ac0
      have s3 := cell_keep hbw2 ac1
      have s4 := cell_keep hbw2 ac2
      have s5 := cell_keep hbw2 ac3
      have s6 := cell_keep hbw2 bd0
      have s7 := cell_keep hbw2 bd1
      have s8 := cell_keep hbw2 bd2
      have s9 := cell_keep hbw2 bd3
      have sj := cell_keep hbw2 HJD.out.2
      have HSS := Lib.hid (And.intro (And.intro s0 s1) (And.intro (And.intro s2 (And.intro s3 (And.intro s4 s5))) (And.intro (And.intro s6 (And.intro s7 (And.intro s8 s9))) sj)))
      have HW1 := Lib.hid (with_one ds f c (freeP l.length) v HV.out.1 (HJD.out.1.keep hbw2) (HCV.out.1.keep hbw2) hx2)
      have HW2 := Lib.hid (with_one ds f d (freeP l.length) u HV.out.2.1 (HJD.out.1.keep hbw2) (HCV.out.2.keep hbw2) hx2)
      have HSQ := Lib.hid (fun (w' : World) (hb : Below w2.heap.size w2 w') (pv pu : Value) (hv' : ValAt w' v pv) (hu' : ValAt w' u pu) => HS.out (l ++ [x]) v u r w' _ pv pu HNX.out.1 HNX.out.2 (HJ2.out.keep hb) hv' hu')
      clear hj2 hx2 hb2 hbw2 q0 q1 q2 q3 a2 b2 ax bx a3 b3 ac0 ac1 ac2 ac3 bd0 bd1 bd2 bd3 jc0
      go_wp2_with fail
      go_region_held3 (fun w' => (w'.cell? ⟨va, 3, none⟩ = some (.slice (some ⟨ca, co, none⟩) a.bs.length cm) ∧ w'.cell? ⟨vb, 3, none⟩ = some (.slice (some ⟨da, doo, none⟩) b.bs.length dm)) ∧
          (w'.cell? ⟨ca, co, none⟩ = some (.int .i64 c.1.k) ∧ w'.cell? ⟨ca, co + 1, none⟩ = some (.int .i64 c.1.n) ∧ w'.cell? ⟨ca, co + 2, none⟩ = some (.slice CS c.1.al.length csc) ∧ w'.cell? ⟨ca, co + 3, none⟩ = some (.pointer cea)) ∧
          (w'.cell? ⟨da, doo, none⟩ = some (.int .i64 d.1.k) ∧ w'.cell? ⟨da, doo + 1, none⟩ = some (.int .i64 d.1.n) ∧ w'.cell? ⟨da, doo + 2, none⟩ = some (.slice DS d.1.al.length dsc) ∧ w'.cell? ⟨da, doo + 3, none⟩ = some (.pointer dea)) ∧ w'.cell? ⟨jb, 0, none⟩ = some (.slice DA ds.length dcap)) (go_keep)
        (first
          | ((go_at_call 60); (with_reducible refine (HW1.out _ _ (by (repeat (first | with_reducible exact Below.refl _ _ | with_reducible refine below_alloc' ?_ _ | with_reducible refine below_step ?_ HL1.out | with_reducible refine below_step ?_ HL2.out | with_reducible refine below_step ?_ HL3.out | with_reducible refine below_step ?_ HL4.out | with_reducible refine below_step ?_ HL5.out | with_reducible refine below_drew ?_))) (by (first | (refine Blk.new' ?_; simp; done) | (refine (Blk.new' ?_).alloc _; simp; done) | (refine (Blk.drew' (Blk.new' ?_)); simp; done) | (refine (Blk.drew' ((Blk.new' ?_).alloc _)); simp; done) | (refine (Blk.drew' (Blk.new' ?_)).alloc _; simp; done) | (refine ((Blk.new' ?_).alloc _).alloc _; simp; done) | (refine (Blk.new' ?_).more HL3.out; simp; done) | (refine ((Blk.new' ?_).alloc _).more HL3.out; simp; done) | (refine ((Blk.drew' (Blk.new' ?_))).more HL3.out; simp; done) | (refine ((Blk.drew' ((Blk.new' ?_).alloc _))).more HL3.out; simp; done) | (refine ((Blk.drew' (Blk.new' ?_)).alloc _).more HL3.out; simp; done) | (refine (((Blk.new' ?_).alloc _).alloc _).more HL3.out; simp; done) | (refine ((Blk.new' ?_).more HL3.out).alloc _; simp; done) | (refine (((Blk.new' ?_).alloc _).more HL3.out).alloc _; simp; done) | (refine (((Blk.drew' (Blk.new' ?_))).more HL3.out).alloc _; simp; done)))).mono ?_); rintro e3 w3 ⟨vp, rfl, hv3, hb3⟩; (obtain ⟨vpb, rfl⟩ := hv3.form); (have HL3 := Lib.hid hb3); (have hbw : Below w2.heap.size w2 w3 := by (repeat (first | with_reducible exact Below.refl _ _ | with_reducible refine below_alloc' ?_ _ | with_reducible refine below_step ?_ HL1.out | with_reducible refine below_step ?_ HL2.out | with_reducible refine below_step ?_ HL3.out | with_reducible refine below_step ?_ HL4.out | with_reducible refine below_step ?_ HL5.out | with_reducible refine below_drew ?_))); (have HV3 := Lib.hid hv3); (have x0 := cell_keep hbw HSS.out.1.1); (have x1 := cell_keep hbw HSS.out.1.2); (have x2 := cell_keep hbw HSS.out.2.1.1); (have x3 := cell_keep hbw HSS.out.2.1.2.1); (have x4 := cell_keep hbw HSS.out.2.1.2.2.1); (have x5 := cell_keep hbw HSS.out.2.1.2.2.2); (have x6 := cell_keep hbw HSS.out.2.2.1.1); (have x7 := cell_keep hbw HSS.out.2.2.1.2.1); (have x8 := cell_keep hbw HSS.out.2.2.1.2.2.1); (have x9 := cell_keep hbw HSS.out.2.2.1.2.2.2); (have x10 := cell_keep hbw HSS.out.2.2.2); clear hv3 hb3 hbw)
          | ((go_at_call 60); (with_reducible refine (HW2.out _ _ (by (repeat (first | with_reducible exact Below.refl _ _ | with_reducible refine below_alloc' ?_ _ | with_reducible refine below_step ?_ HL1.out | with_reducible refine below_step ?_ HL2.out | with_reducible refine below_step ?_ HL3.out | with_reducible refine below_step ?_ HL4.out | with_reducible refine below_step ?_ HL5.out | with_reducible refine below_drew ?_))) (by (first | (refine Blk.new' ?_; simp; done) | (refine (Blk.new' ?_).alloc _; simp; done) | (refine (Blk.drew' (Blk.new' ?_)); simp; done) | (refine (Blk.drew' ((Blk.new' ?_).alloc _)); simp; done) | (refine (Blk.drew' (Blk.new' ?_)).alloc _; simp; done) | (refine ((Blk.new' ?_).alloc _).alloc _; simp; done) | (refine (Blk.new' ?_).more HL3.out; simp; done) | (refine ((Blk.new' ?_).alloc _).more HL3.out; simp; done) | (refine ((Blk.drew' (Blk.new' ?_))).more HL3.out; simp; done) | (refine ((Blk.drew' ((Blk.new' ?_).alloc _))).more HL3.out; simp; done) | (refine ((Blk.drew' (Blk.new' ?_)).alloc _).more HL3.out; simp; done) | (refine (((Blk.new' ?_).alloc _).alloc _).more HL3.out; simp; done) | (refine ((Blk.new' ?_).more HL3.out).alloc _; simp; done) | (refine (((Blk.new' ?_).alloc _).more HL3.out).alloc _; simp; done) | (refine (((Blk.drew' (Blk.new' ?_))).more HL3.out).alloc _; simp; done)))).mono ?_); rintro e4 w4 ⟨up, rfl, hv4, hb4⟩; (obtain ⟨upb, rfl⟩ := hv4.form); (have HL4 := Lib.hid hb4); (have hbw : Below w2.heap.size w2 w4 := by (repeat (first | with_reducible exact Below.refl _ _ | with_reducible refine below_alloc' ?_ _ | with_reducible refine below_step ?_ HL1.out | with_reducible refine below_step ?_ HL2.out | with_reducible refine below_step ?_ HL3.out | with_reducible refine below_step ?_ HL4.out | with_reducible refine below_step ?_ HL5.out | with_reducible refine below_drew ?_))); (have HV4 := Lib.hid hv4); (have y0 := cell_keep hbw HSS.out.1.1); (have y1 := cell_keep hbw HSS.out.1.2); (have y2 := cell_keep hbw HSS.out.2.1.1); (have y3 := cell_keep hbw HSS.out.2.1.2.1); (have y4 := cell_keep hbw HSS.out.2.1.2.2.1); (have y5 := cell_keep hbw HSS.out.2.1.2.2.2); (have y6 := cell_keep hbw HSS.out.2.2.1.1); (have y7 := cell_keep hbw HSS.out.2.2.1.2.1); (have y8 := cell_keep hbw HSS.out.2.2.1.2.2.1); (have y9 := cell_keep hbw HSS.out.2.2.1.2.2.2); (have y10 := cell_keep hbw HSS.out.2.2.2); clear hv4 hb4 hbw)
          | ((go_at_call 157); (with_reducible refine (HSQ.out _ (by (repeat (first | with_reducible exact Below.refl _ _ | with_reducible refine below_alloc' ?_ _ | with_reducible refine below_step ?_ HL1.out | with_reducible refine below_step ?_ HL2.out | with_reducible refine below_step ?_ HL3.out | with_reducible refine below_step ?_ HL4.out | with_reducible refine below_step ?_ HL5.out | with_reducible refine below_drew ?_))) _ _ (HV3.out.keep (by (repeat (first | with_reducible exact Below.refl _ _ | with_reducible refine below_alloc' ?_ _ | with_reducible refine below_step ?_ HL1.out | with_reducible refine below_step ?_ HL2.out | with_reducible refine below_step ?_ HL3.out | with_reducible refine below_step ?_ HL4.out | with_reducible refine below_step ?_ HL5.out | with_reducible refine below_drew ?_)))) (HV4.out.keep (by (repeat (first | with_reducible exact Below.refl _ _ | with_reducible refine below_alloc' ?_ _ | with_reducible refine below_step ?_ HL1.out | with_reducible refine below_step ?_ HL2.out | with_reducible refine below_step ?_ HL3.out | with_reducible refine below_step ?_ HL4.out | with_reducible refine below_step ?_ HL5.out | with_reducible refine below_drew ?_))))).mono ?_); rintro e5 w5 ⟨rfl, hb5⟩; (have HL5 := Lib.hid hb5); (have hbw : Below w2.heap.size w2 w5 := by (repeat (first | with_reducible exact Below.refl _ _ | with_reducible refine below_alloc' ?_ _ | with_reducible refine below_step ?_ HL1.out | with_reducible refine below_step ?_ HL2.out | with_reducible refine below_step ?_ HL3.out | with_reducible refine below_step ?_ HL4.out | with_reducible refine below_step ?_ HL5.out | with_reducible refine below_drew ?_))); (have z0 := cell_keep hbw HSS.out.1.1); (have z1 := cell_keep hbw HSS.out.1.2); (have z2 := cell_keep hbw HSS.out.2.1.1); (have z3 := cell_keep hbw HSS.out.2.1.2.1); (have z4 := cell_keep hbw HSS.out.2.1.2.2.1); (have z5 := cell_keep hbw HSS.out.2.1.2.2.2); (have z6 := cell_keep hbw HSS.out.2.2.1.1); (have z7 := cell_keep hbw HSS.out.2.2.1.2.1); (have z8 := cell_keep hbw HSS.out.2.2.1.2.2.1); (have z9 := cell_keep hbw HSS.out.2.2.1.2.2.2); (have z10 := cell_keep hbw HSS.out.2.2.2); clear hb5 hbw)
          | fail)
      all_goals go_wp2_with fail
      all_goals go_ret
      all_goals exact ⟨rfl, by (repeat (first | with_reducible exact Below.refl _ _ | with_reducible refine below_alloc' ?_ _ | with_reducible refine below_step ?_ HL1.out | with_reducible refine below_step ?_ HL2.out | with_reducible refine below_step ?_ HL3.out | with_reducible refine below_step ?_ HL4.out | with_reducible refine below_step ?_ HL5.out | with_reducible refine below_drew ?_))⟩

theorem sorts_any (ds : List ND) : ∀ f, SortsC ds f := by
  intro f
  induction f with
  | zero => intro l a b r w jp pa pb h; rw [sortsP] at h; cases h
  | succ f ih => exact sorts_step ds f ih

theorem Sorts_any (ds : List ND) (f : Nat) (l : List Val) (a b : Val) (r : Bool) (w : World) (D lv pa pb : Value) (hr : sortsP (ds.map Prod.snd) f l.length a b = some r) (hl : l.length + f ≤ 90000) (hD : DeclsAt w ds D) (hv : ValsIn w l lv) (ha : ValAt w a pa) (hb : ValAt w b pb) :
    Calls Tryz.prog 136 #[D, lv, pa, pb] w (StrPost (.bool r) w) := by
  have hbn := below_alloc' (Below.refl w.heap.size w) (.cells #[D, lv] 209)
  have HC := Lib.hid (sorts_any ds f l a b r (w.alloc (.cells #[D, lv] 209)) _ _ _ hr hl (JudgeAt.new hD hv) (ha.keep hbn) (hb.keep hbn))
  have HB := Lib.hid hbn
  obtain ⟨DA, dcap, rfl, -⟩ := hD
  obtain ⟨A, m, rfl, -⟩ := hv
  obtain ⟨pab, rfl⟩ := ha.form
  obtain ⟨pbb, rfl⟩ := hb.form
  clear ha hb hbn
  go_enter Tryz.func136, Tryz.ntmps136
  go_wp2_with fail
  refine HC.out.mono ?_
  rintro e1 w1 ⟨rfl, hb1⟩
  go_wp2_with fail
  go_ret
  exact ⟨rfl, below_step HB.out hb1⟩
end Go.Proofs.YtjboibbgigkhkaaGreatDoor

/- canon.Numeral, number, Number. -/
namespace Go.Proofs.YtjboibbgigkhkaaGreatDoor
open Go.RowKit
set_option maxRecDepth 100000

theorem numberP_pos : ∀ (f : Nat) (v : Val) (r : Int × Bool), numberP f v = some r → 0 ≤ r.1 := by
  intro f
  induction f with
  | zero => intro v r h; cases h
  | succ f ih =>
    intro v r h
    rw [numberP] at h
    split at h
    · simp only [Option.bind_eq_some_iff] at h
      obtain ⟨m, -, q, hq, h⟩ := h
      cases h
      have := ih m q hq
      show 0 ≤ q.1 + 1
      omega
    · cases h; exact Int.le_refl _

theorem number_any (f : Nat) (v : Val) (n : Int) (b : Bool) (hn : numberP f v = some (n, b)) (hn1 : n ≤ 1000000000) (w : World) (p : Value) (hv : ValAt w v p) :
    Calls Tryz.prog 28 #[p] w (StrPost (.tuple #[.int .i64 n, .bool b]) w) := by
  have HV := Lib.hid (And.intro hn hv)
  have hn0 : 0 ≤ n := numberP_pos f v _ hn
  obtain ⟨pb0, rfl⟩ := hv.form
  clear hn hv
  go_enter Tryz.func28, Tryz.ntmps28
  go_wp2_with fail
  go_loopw [0, 4] (fun vp iv wr => ∃ (k f' : Nat) (u : Val), (k : Int) ≤ n ∧ iv = .int .i64 k ∧ Hid (numberP f' u = some (n - k, b)) ∧ Hid (ValAt w u vp) ∧ wr = w) (fun _ iv _ => n.toNat - (intOf iv).toNat)
  case atStart => exact ⟨0, f, v, hn0, rfl, Lib.hid (by simpa using HV.out.1), Lib.hid HV.out.2, rfl⟩
  case round =>
    obtain ⟨k, f', u, hk, rfl, hnu, hvu, rfl⟩ := hrel
    cases f' with
    | zero => exact absurd hnu.out (by simp [numberP])
    | succ f' =>
    obtain ⟨ub, rfl, c0, c1⟩ := val_kn hvu.out
    by_cases h16 : u.k = 16
    · have h := hnu.out
      rw [numberP, if_pos h16] at h
      simp only [Option.bind_eq_some_iff] at h
      obtain ⟨m, hm, q, hq, h⟩ := h
      obtain ⟨b', ab, ao, mm, qb, e, d1, d2, d3, d4⟩ := val_arg0 hvu.out hm
      cases e
      have hq2 : q = (n - k - 1, b) := by
        obtain ⟨q1, q2⟩ := q
        simp only [Option.some.injEq, Prod.mk.injEq] at h
        obtain ⟨h1, h2⟩ := h
        rw [h2, show n - (k : Int) - 1 = q1 by omega]
      have hk2 : (k : Int) + 1 ≤ n := by have := numberP_pos f' m q hq; rw [hq2] at this; simp at this; omega
      have HN := Lib.hid (show numberP f' m = some (n - ((k + 1 : Nat) : Int), b) from by rw [hq, hq2]; congr 2; push_cast; omega)
      have HM := Lib.hid d4
      have h16b : (u.k == 16) = true := by simpa using h16
      clear hnu hvu hm hq h hq2 d4 h16
      have d2' : (0 : Int) < (u.args.length : Int) := by omega
      go_wp2_with fail
      go_roundw
      case rel => exact ⟨k + 1, f', m, by omega, by go_num, HN, HM, by first | rfl | trivial⟩
      case measure => simp [intOf]; omega
    · have h := hnu.out
      rw [numberP, if_neg h16] at h
      have h16b : (u.k == 16) = false := by simpa using h16
      simp only [Option.some.injEq, Prod.mk.injEq] at h
      obtain ⟨h1, h2⟩ := h
      have hkn : (k : Int) = n := by omega
      have HB := Lib.hid h2
      have HKN := Lib.hid hkn
      clear hnu hvu h1 h2 h16 hkn
      go_wp2_with fail
      go_region
      go_wp2_with fail
      go_ret2
      exact ⟨by rw [← HB.out, ← HKN.out]; rfl, (Below.refl _ _).drew⟩
end Go.Proofs.YtjboibbgigkhkaaGreatDoor

/- canon.Numeral: a number's term. -/
namespace Go.Proofs.YtjboibbgigkhkaaGreatDoor
open Go.RowKit
set_option maxRecDepth 100000

theorem blk_set3 {w : World} {g : Nat} {t : TypeId} {a b c x y z : Value} (h : Blk w g t #[a, b, c]) : Blk (((w.setCell ⟨g, 0, none⟩ x).setCell ⟨g, 1, none⟩ y).setCell ⟨g, 2, none⟩ z) g t #[x, y, z] := by
  have := ((h.set_ 0 x).set_ 1 y).set_ 2 z
  simpa using this
theorem argsS_one {w : World} {S : Nat → Prop} {g : Nat} {ty : TypeId} {x : T} {s : Value} {k n : Int} (hB : Blk w g ty #[.int .i64 x.k, .int .i64 x.n, s]) (hg : S g) (hx : argsInS w S x s) : argsInS w S (.mk k n [x]) (.slice (some ⟨g, 0, none⟩) 1 1) :=
  argsInS_iff.2 ⟨_, 1, rfl, Nat.le_refl _, by unfold maxLen; omega, fun _ => ⟨g, 0, rfl, hg, cellsInS.mk_ fun i t hi => by
    match i, hi with
    | 0, hi =>
      cases hi
      exact ⟨s, hB.cell 0, hB.cell 1, hB.cell 2, hx⟩
    | i + 1, hi => simp [T.al] at hi⟩⟩
theorem argsS_two {w : World} {S : Nat → Prop} {g : Nat} {ty : TypeId} {x y : T} {s s' : Value} {k n : Int} (hB : Blk w g ty #[.int .i64 x.k, .int .i64 x.n, s, .int .i64 y.k, .int .i64 y.n, s']) (hg : S g) (hx : argsInS w S x s) (hy : argsInS w S y s') : argsInS w S (.mk k n [x, y]) (.slice (some ⟨g, 0, none⟩) 2 2) :=
  argsInS_iff.2 ⟨_, 2, rfl, Nat.le_refl _, by unfold maxLen; omega, fun _ => ⟨g, 0, rfl, hg, cellsInS.mk_ fun i t hi => by
    match i, hi with
    | 0, hi =>
      cases hi
      exact ⟨s, hB.cell 0, hB.cell 1, hB.cell 2, hx⟩
    | 1, hi =>
      cases hi
      exact ⟨s', hB.cell 3, hB.cell 4, hB.cell 5, hy⟩
    | i + 2, hi => simp [T.al] at hi⟩⟩

/-- behind a block: in new blocks -/
def behind (g : Nat) (w : World) : Nat → Prop := fun b => g < b ∧ b < w.heap.size
theorem num_round {w wr : World} {g : Nat} {x : T} {s : Value} (hg : w.heap.size ≤ g) (hB : Blk wr g 30 #[.int .i64 x.k, .int .i64 x.n, s]) (hx : argsInS wr (behind g wr) x s) (hb : Below w.heap.size w wr) :
    Blk ((((wr.alloc (.cells #[.int .i64 x.k, .int .i64 x.n, s] 30)).setCell ⟨g, 0, none⟩ (.int .i64 16)).setCell ⟨g, 1, none⟩ (.int .i64 0)).setCell ⟨g, 2, none⟩ (.slice (some ⟨wr.heap.size, 0, none⟩) 1 1)) g 30 #[.int .i64 16, .int .i64 0, .slice (some ⟨wr.heap.size, 0, none⟩) 1 1] ∧
    argsInS ((((wr.alloc (.cells #[.int .i64 x.k, .int .i64 x.n, s] 30)).setCell ⟨g, 0, none⟩ (.int .i64 16)).setCell ⟨g, 1, none⟩ (.int .i64 0)).setCell ⟨g, 2, none⟩ (.slice (some ⟨wr.heap.size, 0, none⟩) 1 1))
      (behind g ((((wr.alloc (.cells #[.int .i64 x.k, .int .i64 x.n, s] 30)).setCell ⟨g, 0, none⟩ (.int .i64 16)).setCell ⟨g, 1, none⟩ (.int .i64 0)).setCell ⟨g, 2, none⟩ (.slice (some ⟨wr.heap.size, 0, none⟩) 1 1))) (.mk 16 0 [x]) (.slice (some ⟨wr.heap.size, 0, none⟩) 1 1) ∧
    Below w.heap.size w ((((wr.alloc (.cells #[.int .i64 x.k, .int .i64 x.n, s] 30)).setCell ⟨g, 0, none⟩ (.int .i64 16)).setCell ⟨g, 1, none⟩ (.int .i64 0)).setCell ⟨g, 2, none⟩ (.slice (some ⟨wr.heap.size, 0, none⟩) 1 1)) := by
  have hlt := hB.lt
  have hsz : ∀ (v : World) (a : Addr) (u : Value), (v.setCell a u).heap.size = v.heap.size := fun v a u => by simp [World.setCell]
  refine ⟨blk_set3 (hB.alloc _), ?_, (((hb.alloc hb.size _).setCell hg _).setCell hg _).setCell hg _⟩
  refine argsS_one ((((Blk.new wr 30 #[.int .i64 x.k, .int .i64 x.n, s]).far (p := ⟨g, 0, none⟩) (by simp; omega) _).far (p := ⟨g, 1, none⟩) (by simp; omega) _).far (p := ⟨g, 2, none⟩) (by simp; omega) _) ⟨hlt, by rw [hsz, hsz, hsz]; simp⟩ ?_
  refine hx.keep (fun b hb => ⟨hb.1, by rw [hsz, hsz, hsz]; have := hb.2; simp; omega⟩) fun p hp => ?_
  have h1 := hp.1
  have h2 := hp.2
  refine World.cell?_of_block ?_
  rw [Below.heap_setCell _ _ _ _ (by simp; omega), Below.heap_setCell _ _ _ _ (by simp; omega), Below.heap_setCell _ _ _ _ (by simp; omega)]
  exact Below.heap_alloc _ _ _ h2

/-- behind a call that answers a term -/
def TPost (t : T) (w : World) (e : Ending) (w' : World) : Prop := ∃ s, e = .returned (.agg #[.int .i64 t.k, .int .i64 t.n, s]) ∧ argsInS w' (newFrom w w') t s ∧ Below w.heap.size w w'
theorem new_in {w w' : World} {t : T} {s : Value} (h : argsInS w' (newFrom w w') t s) : argsIn w' w'.heap.size t s := argsInS.keep h (fun _ h => h.2) fun _ _ => rfl

theorem term_put {w wr : World} {x : T} {s a b c : Value} {g g' : Nat} (hg : w.heap.size ≤ g') (hgg : g' ≤ g) (hx : argsInS wr (behind g wr) x s) (hb : Below w.heap.size w wr) :
    argsInS (((wr.setCell ⟨g', 0, none⟩ a).setCell ⟨g', 1, none⟩ b).setCell ⟨g', 2, none⟩ c) (newFrom w (((wr.setCell ⟨g', 0, none⟩ a).setCell ⟨g', 1, none⟩ b).setCell ⟨g', 2, none⟩ c)) x s ∧ Below w.heap.size w (((wr.setCell ⟨g', 0, none⟩ a).setCell ⟨g', 1, none⟩ b).setCell ⟨g', 2, none⟩ c) := by
  have hsz : ∀ (v : World) (a : Addr) (u : Value), (v.setCell a u).heap.size = v.heap.size := fun v a u => by simp [World.setCell]
  refine ⟨argsInS.keep hx (fun b hb => ⟨by have := hb.1; omega, by rw [hsz, hsz, hsz]; exact hb.2⟩) fun p hp => ?_, ((hb.setCell hg _).setCell hg _).setCell hg _⟩
  have h1 := hp.1
  refine World.cell?_of_block ?_
  rw [Below.heap_setCell _ _ _ _ (by simp; omega), Below.heap_setCell _ _ _ _ (by simp; omega), Below.heap_setCell _ _ _ _ (by simp; omega)]

theorem numeral_any (n : Nat) (hn : n ≤ 1000000) (w : World) : Calls Tryz.prog 11 #[.int .i64 n] w (TPost (numeralP n) w) := by
  go_enter Tryz.func11, Tryz.ntmps11
  go_wp2_with fail
  go_loopw [6] (fun iv wr => ∃ (k : Nat) (x : T), k ≤ n ∧ iv = .int .i64 k ∧ Hid (numeralP k = x) ∧ ∃ A cap, (Blk wr w.heap.size 30 #[.int .i64 0, .int .i64 0, .slice none 0 0] ∧ Blk wr (w.heap.size + 1) 30 #[.int .i64 x.k, .int .i64 x.n, .slice A x.al.length cap]) ∧
    argsInS wr (behind (w.heap.size + 1) wr) x (.slice A x.al.length cap) ∧ Below w.heap.size w wr) (fun iv _ => n - (intOf iv).toNat)
  case atStart =>
    exact ⟨0, .mk 15 0 [], Nat.zero_le _, rfl, Lib.hid rfl, none, 0, ⟨(Blk.new' rfl).alloc _, Blk.new' (by simp)⟩, args_none _ _ _ _, below_alloc' (below_alloc' (Below.refl _ _) _) _⟩
  case round =>
    obtain ⟨k, x, hk, rfl, hxk, A, cap, ⟨hB0, hB1⟩, hx, hb⟩ := hrel
    have HR := Lib.hid (num_round (g := w.heap.size + 1) (by omega) hB1 hx hb)
    have HX := Lib.hid (And.intro hx hb)
    have HB0 := Lib.hid hB0
    have HLT := Lib.hid hB1.lt
    obtain ⟨⟨c0, c1, c2⟩, f0, f1, f2⟩ := hB1.tri
    obtain ⟨⟨e0, e1, e2⟩, g0, g1, g2⟩ := hB0.tri
    obtain ⟨⟨a0, a1, a2⟩, h0, h1, h2⟩ := (hB1.alloc (.cells #[.int .i64 x.k, .int .i64 x.n, .slice A x.al.length cap] 30)).tri
    clear hx hb hB0 hB1
    by_cases hlt : k < n
    · go_wp2_with fail
      go_roundw
      case rel => exact ⟨k + 1, .mk 16 0 [x], by omega, by go_num, Lib.hid (by rw [numeralP, hxk.out]), _, _, ⟨(((HB0.out.alloc _).far (by simp) _).far (by simp) _).far (by simp) _, HR.out.1⟩, HR.out.2.1, HR.out.2.2⟩
      case measure => simp [intOf]; omega
    · obtain rfl : k = n := by omega
      go_wp2_with fail
      rw [hxk.out]
      refine bodyPost_ret (v := .agg #[.int .i64 x.k, .int .i64 x.n, .slice A x.al.length cap]) (by simp [results, Tryz.results11, go_sem, e0, e1, e2]) rfl ?_
      exact ⟨_, rfl, term_put (g := w.heap.size + 1) (g' := w.heap.size) (Nat.le_refl _) (by omega) HX.out.1 HX.out.2⟩
end Go.Proofs.YtjboibbgigkhkaaGreatDoor

/- canon.Number: the number that a term comes to. -/
namespace Go.Proofs.YtjboibbgigkhkaaGreatDoor
open Go.RowKit
set_option maxRecDepth 100000

theorem Number_any (ds : List ND) (f f' : Nat) (t : T) (n : Int) (b : Bool) (hn : (evalP (ds.map Prod.snd) f (.value t [])).bind (numberP f') = some (n, b)) (hn1 : n ≤ 1000000000) (w : World) (D s : Value) (hD : DeclsAt w ds D) (hs : argsIn w w.heap.size t s) :
    Calls Tryz.prog 9 #[D, .agg #[.int .i64 t.k, .int .i64 t.n, s]] w (StrPost (.tuple #[.int .i64 n, .bool b]) w) := by
  simp only [Option.bind_eq_some_iff] at hn
  obtain ⟨v, hv, hn⟩ := hn
  obtain ⟨DA, dcap, rfl, -⟩ := id hD
  obtain ⟨SA, scap, rfl, -⟩ := argsIn_iff.1 hs
  have hba := below_alloc' (Below.refl w.heap.size w) (.cells #[.int .i64 t.k, .int .i64 t.n, .slice SA t.al.length scap] 30)
  have HC := Lib.hid ((eval_any ds f).1 t [] v (w.alloc (.cells #[.int .i64 t.k, .int .i64 t.n, .slice SA t.al.length scap] 30)) _ _ _ hv (hD.keep hba) (hs.keep hba.size hba) (EnvAt.nil _))
  have HB := Lib.hid (And.intro hba hn)
  obtain ⟨k0, k1, k2⟩ := (Blk.new w 30 #[.int .i64 t.k, .int .i64 t.n, .slice SA t.al.length scap]).tri.1
  clear hD hs hba hn hv
  go_enter Tryz.func9, Tryz.ntmps9
  go_wp2_with fail
  refine HC.out.mono ?_
  rintro e w2 ⟨p, rfl, hp, hb2⟩
  have HP := Lib.hid (And.intro hp (below_step HB.out.1 hb2))
  obtain ⟨pb, rfl⟩ := hp.form
  clear hp hb2
  go_wp2_with fail
  refine (number_any f' v n b HB.out.2 hn1 w2 _ HP.out.1).mono ?_
  rintro e w3 ⟨rfl, hb3⟩
  have HB3 := Lib.hid (below_step HP.out.2 hb3)
  clear hb3
  go_wp2_with fail
  go_ret2
  exact ⟨rfl, HB3.out⟩
end Go.Proofs.YtjboibbgigkhkaaGreatDoor

/- sktop.app: a declaration of numbers. -/
namespace Go.Proofs.YtjboibbgigkhkaaGreatDoor
open Go.RowKit
set_option maxRecDepth 100000

theorem app_round {w wr w3 : World} {g r : Nat} {x y : T} {s s' : Value} (hg : w.heap.size ≤ g) (hB : Blk wr g 30 #[.int .i64 x.k, .int .i64 x.n, s]) (h3 : Below wr.heap.size wr w3)
    (hR : Blk w3 r 30 #[.int .i64 x.k, .int .i64 x.n, s, .int .i64 y.k, .int .i64 y.n, s']) (hr : g < r) (hx : argsInS wr (behind g wr) x s) (hy : argsInS w3 (behind g w3) y s') (hb : Below w.heap.size w wr) :
    Blk (((w3.setCell ⟨g, 0, none⟩ (.int .i64 5)).setCell ⟨g, 1, none⟩ (.int .i64 0)).setCell ⟨g, 2, none⟩ (.slice (some ⟨r, 0, none⟩) 2 2)) g 30 #[.int .i64 5, .int .i64 0, .slice (some ⟨r, 0, none⟩) 2 2] ∧
    argsInS (((w3.setCell ⟨g, 0, none⟩ (.int .i64 5)).setCell ⟨g, 1, none⟩ (.int .i64 0)).setCell ⟨g, 2, none⟩ (.slice (some ⟨r, 0, none⟩) 2 2))
      (behind g (((w3.setCell ⟨g, 0, none⟩ (.int .i64 5)).setCell ⟨g, 1, none⟩ (.int .i64 0)).setCell ⟨g, 2, none⟩ (.slice (some ⟨r, 0, none⟩) 2 2))) (.mk 5 0 [x, y]) (.slice (some ⟨r, 0, none⟩) 2 2) ∧
    Below w.heap.size w (((w3.setCell ⟨g, 0, none⟩ (.int .i64 5)).setCell ⟨g, 1, none⟩ (.int .i64 0)).setCell ⟨g, 2, none⟩ (.slice (some ⟨r, 0, none⟩) 2 2)) := by
  have hlt := hB.lt
  have hsz : ∀ (v : World) (a : Addr) (u : Value), (v.setCell a u).heap.size = v.heap.size := fun v a u => by simp [World.setCell]
  refine ⟨blk_set3 (hB.more h3), ?_, (((below_step hb h3).setCell hg _).setCell hg _).setCell hg _⟩
  have hS : ∀ b, behind g w3 b → behind g (((w3.setCell ⟨g, 0, none⟩ (.int .i64 5)).setCell ⟨g, 1, none⟩ (.int .i64 0)).setCell ⟨g, 2, none⟩ (.slice (some ⟨r, 0, none⟩) 2 2)) b := fun b hb => ⟨hb.1, by rw [hsz, hsz, hsz]; exact hb.2⟩
  have hc : ∀ p : Addr, behind g w3 p.block → (((w3.setCell ⟨g, 0, none⟩ (.int .i64 5)).setCell ⟨g, 1, none⟩ (.int .i64 0)).setCell ⟨g, 2, none⟩ (.slice (some ⟨r, 0, none⟩) 2 2)).cell? p = w3.cell? p := fun p hp => by
    have h1 := hp.1
    refine World.cell?_of_block ?_
    rw [Below.heap_setCell _ _ _ _ (by simp; omega), Below.heap_setCell _ _ _ _ (by simp; omega), Below.heap_setCell _ _ _ _ (by simp; omega)]
  have hx3 : argsInS w3 (behind g w3) x s := hx.keep (fun b hb => ⟨hb.1, Nat.lt_of_lt_of_le hb.2 h3.size⟩) fun p hp => h3.cell hp.2
  exact argsS_two (((hR.far (p := ⟨g, 0, none⟩) (by simp; omega) _).far (p := ⟨g, 1, none⟩) (by simp; omega) _).far (p := ⟨g, 2, none⟩) (by simp; omega) _) (hS r ⟨hr, hR.lt⟩) (hx3.keep hS hc) (hy.keep hS hc)

theorem appP_take {d : Int} {l : List Nat} {k n : Nat} (h : l[k]? = some n) : appP d (l.take (k + 1)) = tAp (appP d (l.take k)) (numeralP n) := by
  rw [List.take_add_one, h]
  simp [appP]

set_option maxHeartbeats 1600000 in
theorem app_any (d : Int) (l : List Nat) (hl0 : l.length ≤ 100) (w : World) (g0 cap : Nat) (hl : ∀ (j : Nat) n, l[j]? = some n → w.cell? ⟨g0, j, none⟩ = some (.int .i64 (n : Nat)) ∧ n ≤ 1000000) :
    Calls Tryz.prog 10 #[.int .i64 d, .slice (some ⟨g0, 0, none⟩) l.length cap] w (TPost (appP d l) w) := by
  have HL := Lib.hid hl
  clear hl
  go_enter Tryz.func10, Tryz.ntmps10
  go_wp2_with fail
  go_loopw [12] (fun iv wr => ∃ (k : Nat) (x : T), k ≤ l.length ∧ iv = .int .i64 k ∧ Hid (appP d (l.take k) = x) ∧ ∃ A cap, (Blk wr w.heap.size 30 #[.int .i64 0, .int .i64 0, .slice none 0 0] ∧ Blk wr (w.heap.size + 1) 30 #[.int .i64 x.k, .int .i64 x.n, .slice A x.al.length cap]) ∧
    argsInS wr (behind (w.heap.size + 1) wr) x (.slice A x.al.length cap) ∧ Below w.heap.size w wr) (fun iv _ => l.length - (intOf iv).toNat)
  case atStart =>
    exact ⟨0, tD d, Nat.zero_le _, rfl, Lib.hid rfl, none, 0, ⟨(Blk.new' rfl).alloc _, Blk.new' (by simp)⟩, args_none _ _ _ _, below_alloc' (below_alloc' (Below.refl _ _) _) _⟩
  case round =>
    obtain ⟨k, x, hk, rfl, hxk, A, cap', ⟨hB0, hB1⟩, hx, hb⟩ := hrel
    have HX := Lib.hid (And.intro hx hb)
    have HB0 := Lib.hid hB0
    have HB1 := Lib.hid hB1
    have HLT := Lib.hid hB1.lt
    by_cases hlt : k < l.length
    · obtain ⟨n, hn⟩ : ∃ n, l[k]? = some n := ⟨_, List.getElem?_eq_getElem hlt⟩
      obtain ⟨hc, hn1⟩ := HL.out k n hn
      have hck := cell_keep hb hc
      have HAP := Lib.hid (show appP d (l.take (k + 1)) = tAp x (numeralP n) from by rw [appP_take hn, hxk.out])
      obtain ⟨y, hy⟩ : ∃ y, numeralP n = y := ⟨_, rfl⟩
      have HNU := Lib.hid (show ∀ w' : World, Calls Tryz.prog 11 #[.int .i64 n] w' (TPost y w') from fun w' => by rw [← hy]; exact numeral_any n hn1 w')
      have HAP2 := Lib.hid (show appP d (l.take (k + 1)) = tAp x y from by rw [HAP.out, hy])
      obtain ⟨⟨c0, c1, c2⟩, f0, f1, f2⟩ := hB1.tri
      clear hx hb hB0 hB1 hc hn hy HAP
      go_wp2_with fail
      go_region_law
        (first
          | (go_simp; (with_reducible refine (HNU.out _).mono ?_); rintro e2 w2 ⟨s2, rfl, hy2, hb2⟩; (have hbd := drew_trans hb2); (obtain ⟨A2, cap2, rfl, -⟩ := argsInS_iff.1 hy2); (have HY2 := Lib.hid (And.intro hy2 hbd)); (have hB2 := HB1.out.more hbd); (obtain ⟨⟨d0, d1, d2⟩, g0', g1', g2'⟩ := hB2.tri); (obtain ⟨⟨e0, e1, e2⟩, h0, h1, h2⟩ := (hB2.alloc (.cells #[.int .i64 x.k, .int .i64 x.n, .slice A x.al.length cap', .int .i64 y.k, .int .i64 y.n, .slice A2 y.al.length cap2] 30)).tri); clear hy2 hb2 hbd hB2; go_wp2_with fail)
          | fail)
      all_goals (
        go_wp2_with fail
        have hlt2 : w.heap.size + 1 < w2.heap.size := Nat.lt_of_lt_of_le HLT.out HY2.out.2.size
        have HR := Lib.hid (app_round (g := w.heap.size + 1) (r := w2.heap.size) (by omega) HB1.out (below_alloc' HY2.out.2 _) (Blk.new w2 30 #[.int .i64 x.k, .int .i64 x.n, .slice A x.al.length cap', .int .i64 y.k, .int .i64 y.n, .slice A2 y.al.length cap2]) hlt2 HX.out.1
          (HY2.out.1.keep (S' := behind (w.heap.size + 1) (w2.alloc (.cells #[.int .i64 x.k, .int .i64 x.n, .slice A x.al.length cap', .int .i64 y.k, .int .i64 y.n, .slice A2 y.al.length cap2] 30))) (fun b hb => ⟨Nat.lt_of_lt_of_le HLT.out hb.1, by have := hb.2; simp; omega⟩) fun p hp => World.cell?_alloc_lt _ _ _ hp.2) HX.out.2)
        go_roundw
        case rel => exact ⟨k + 1, tAp x y, by omega, by go_num, HAP2, _, _, ⟨((((HB0.out.more HY2.out.2).alloc _).far (by simp) _).far (by simp) _).far (by simp) _, HR.out.1⟩, HR.out.2.1, HR.out.2.2⟩
        case measure => simp [intOf]; omega)
    · obtain rfl : k = l.length := by omega
      obtain ⟨⟨c0, c1, c2⟩, f0, f1, f2⟩ := hB1.tri
      obtain ⟨⟨e0, e1, e2⟩, g0, g1, g2⟩ := hB0.tri
      have hxk2 := hxk.out
      rw [List.take_length] at hxk2
      have HXK := Lib.hid hxk2
      clear hx hb hB0 hB1 hxk hxk2
      go_wp2_with fail
      rw [HXK.out]
      refine bodyPost_ret (v := .agg #[.int .i64 x.k, .int .i64 x.n, .slice A x.al.length cap']) (by simp [results, Tryz.results10, go_sem, e0, e1, e2]) rfl ?_
      exact ⟨_, rfl, term_put (g := w.heap.size + 1) (g' := w.heap.size) (Nat.le_refl _) (by omega) HX.out.1 HX.out.2⟩
end Go.Proofs.YtjboibbgigkhkaaGreatDoor

