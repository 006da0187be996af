/- Lemmas for text.Print. -/
import Derived.Test.YtjboibbgigkhkaaDoorPParse
namespace Go.Proofs.YtjboibbgigkhkaaDoor
open Go.RowKit
set_option maxRecDepth 100000

theorem alloc_le (w : World) (o : Obj) : w.heap.size ≤ (w.alloc o).heap.size := by simp

theorem bytes_cat (a b : Str) : (⟨a.toArray⟩ : ByteArray) ++ (⟨b.toArray⟩ : ByteArray) = ⟨(a ++ b).toArray⟩ := by
  apply ByteArray.ext
  rw [ByteArray.data_append]
  simp
theorem cat_br (l : Str) : (⟨#[40]⟩ : ByteArray) ++ (⟨l.toArray⟩ : ByteArray) ++ (⟨#[41]⟩ : ByteArray) = ⟨(40 :: (l ++ [41])).toArray⟩ := by
  have h := bytes_cat [40] l
  have h2 := bytes_cat ([40] ++ l) [41]
  rw [show (⟨#[40]⟩ : ByteArray) = ⟨([40] : Str).toArray⟩ from rfl, h, show (⟨#[41]⟩ : ByteArray) = ⟨([41] : Str).toArray⟩ from rfl, h2]
  simp

theorem join_joinB : ∀ l : List Str, Lib.join l [32] = joinB l := by
  intro l
  induction l with
  | nil => rfl
  | cons a r ih =>
    rw [Lib.join_cons]
    cases r with
    | nil => simp [Lib.joinTail, joinB]
    | cons b r =>
      rw [Lib.join_cons] at ih
      rw [joinB, ← ih]
      simp [Lib.joinTail]

theorem itoa_dig {n : Int} (h0 : 0 ≤ n) (h1 : n < 4) : Lib.itoa n = dig n := by
  unfold Lib.itoa
  rw [if_neg (by omega), Lib.decDigits]
  simp only [show n.toNat < 10 by omega, dite_true, if_true]
  unfold dig
  try rfl
theorem u_dig {n : Int} (h0 : 0 ≤ n) (h1 : n < 4) : ((⟨#[85]⟩ : ByteArray) ++ (⟨(dig n).toArray⟩ : ByteArray)) = ⟨(85 :: dig n).toArray⟩ := by
  have : n = 0 ∨ n = 1 ∨ n = 2 ∨ n = 3 := by omega
  rcases this with rfl | rfl | rfl | rfl <;> rfl

/-- behind Print: the text -/
def PrintPost (s : Str) (w : World) (e : Ending) (w' : World) : Prop := e = .returned (.string ⟨s.toArray⟩) ∧ Below w.heap.size w w'

theorem Strs.at_ {w : World} {R : Nat} {l : List Str} {A : Option Addr} {cap : Nat} (h : Strs w R l (.slice A l.length cap)) {i : Nat} (hi : i < l.length) : ∃ b off, A = some ⟨b, off, none⟩ ∧ w.cell? ⟨b, off + i, none⟩ = some (.string ⟨((l[i]?).getD []).toArray⟩) ∧ b < w.heap.size := by
  obtain ⟨A0, cap0, e, h2, h3, h4⟩ := h
  cases e
  obtain ⟨b, off, e, hlt, -, hc⟩ := h4 (by intro h0; subst h0; simp at hi)
  refine ⟨b, off, e, hc i _ ?_, hlt⟩
  rw [List.getElem?_eq_getElem hi]
  rfl

theorem words_cells {w w' : World} (h : w' = w.alloc (.cells (strc W18).toArray 9)) (j : Nat) (x : Str) (hx : W18[j]? = some x) : w'.cell? ⟨w.heap.size, 0 + j, none⟩ = some (.string ⟨x.toArray⟩) := by
  subst h
  rw [Nat.zero_add, World.cell?_alloc_at _ _ _ _ rfl]
  have := strc_get W18 j
  rw [hx] at this
  simpa using this

/-- a kind's word, where the program has it -/
theorem word_at {k : Int} (h : 3 ≤ k) (h2 : k ≤ 17) (h5 : k ≠ 5) : W18[(k - 1).toNat]? = some (word k.toNat) := by
  have : k = 3 ∨ k = 4 ∨ k = 6 ∨ k = 7 ∨ k = 8 ∨ k = 9 ∨ k = 10 ∨ k = 11 ∨ k = 12 ∨ k = 13 ∨ k = 14 ∨ k = 15 ∨ k = 16 ∨ k = 17 := by omega
  rcases this with rfl | rfl | rfl | rfl | rfl | rfl | rfl | rfl | rfl | rfl | rfl | rfl | rfl | rfl <;> rfl

/-- the kinds' words lie in a new block -/
def Words18 (w : World) (e : Ending) (w' : World) : Prop := e = .returned (.slice (some ⟨w.heap.size, 0, none⟩) 18 18) ∧ (∀ (k : Int), 3 ≤ k → k ≤ 17 → k ≠ 5 → w'.cell? ⟨w.heap.size, 0 + (k - 1).toNat, none⟩ = some (.string ⟨(word k.toNat).toArray⟩)) ∧ Below w.heap.size w w' ∧ w'.heap.size = w.heap.size + 1
theorem pwords18 (w : World) : Calls Tryd.prog 35 #[] w (Words18 w) :=
  (pwords_any w).mono fun e w' ⟨h1, h2⟩ => ⟨h1, fun k h3 h4 h5 => words_cells h2 _ _ (word_at h3 h4 h5), h2 ▸ (Below.refl _ _).alloc (Nat.le_refl _) _, by rw [h2]; simp⟩

theorem own_below {w w' : World} {base size : Nat} {e : TypeId} {n : Nat} {V : Value} {xs : List Value} (h : w.ownsRow base e size V n xs) (hb : Below w.heap.size w w') : w'.ownsRow base e size V n xs :=
  h.kept (row_grown_of_below hb none) (by cases V.ownBlock <;> simp)
/-- another row grows -/
theorem own_apart {w w' : World} {base size : Nat} {e : TypeId} {n : Nat} {V V2 V2' : Value} {xs : List Value} (h : w.ownsRow base e size V n xs) (hg : w.grownBy w' V2.ownBlock) (hne : ∀ g, V.ownBlock = some g → V2.ownBlock ≠ some g) (hloc : V2'.ownBlock = V2.ownBlock ∨ V2'.ownBlock = some w.heap.size) :
    w'.ownsRow base e size V n xs ∧ ∀ g, V.ownBlock = some g → V2'.ownBlock ≠ some g := by
  refine ⟨h.kept hg ?_, fun g hgv => ?_⟩
  · cases hV : V.ownBlock with
    | none => exact .inl rfl
    | some g => exact .inr (fun e => hne g hV e.symm)
  · rcases hloc with e | e
    · rw [e]; exact hne g hgv
    · rw [e]
      intro e2
      injection e2 with e2
      have := (h.lt g hgv).2
      omega

/-- what a loop of Print leaves: the numbers of names, the term's box, and what was there -/
def PKeep (w : World) (lo hi : Nat) (sh : List Nat) (NS : Value) (z : Array Value) (w' : World) : Prop := intsB lo hi w' sh NS ∧ Blk w' w.heap.size 24 z ∧ Below w.heap.size w w' ∧ hi ≤ w'.heap.size ∧ w.heap.size < lo ∧ lo ≤ hi
theorem PKeep.same {w w1 w2 : World} {lo hi : Nat} {sh : List Nat} {NS : Value} {z : Array Value} (h : PKeep w lo hi sh NS z w1) (hb : Below w.heap.size w1 w2) (hh : ∀ b, w.heap.size ≤ b → b < hi → b = w.heap.size ∨ lo ≤ b → w2.heap[b]? = w1.heap[b]?) : PKeep w lo hi sh NS z w2 := by
  obtain ⟨h1, h2, h3, h4, h5, h6⟩ := h
  exact ⟨h1.keep fun b hb1 hb2 => hh b (by omega) hb2 (.inr hb1), (hh _ (Nat.le_refl _) (by omega) (.inl rfl)).trans h2, h3.trans hb, Nat.le_trans h4 hb.size, h5, h6⟩
theorem PKeep.below {w w1 w2 : World} {lo hi : Nat} {sh : List Nat} {NS : Value} {z : Array Value} (h : PKeep w lo hi sh NS z w1) (hb : Below w1.heap.size w1 w2) : PKeep w lo hi sh NS z w2 :=
  h.same (hb.mono h.2.2.1.size) fun b _ hb2 _ => hb.block b (by have := h.2.2.2.1; omega)
theorem PKeep.alloc {w w1 : World} {lo hi : Nat} {sh : List Nat} {NS : Value} {z : Array Value} (h : PKeep w lo hi sh NS z w1) (o : Obj) : PKeep w lo hi sh NS z (w1.alloc o) := h.below ((Below.refl _ _).alloc (Nat.le_refl _) o)
theorem PKeep.grown {w w1 w2 : World} {lo hi : Nat} {sh : List Nat} {NS : Value} {z : Array Value} {row : Option Nat} (h : PKeep w lo hi sh NS z w1) (hg : w1.grownBy w2 row) (hr : ∀ g, row = some g → w.heap.size < g ∧ (g < lo ∨ hi ≤ g)) : PKeep w lo hi sh NS z w2 :=
  h.same ((Below.refl _ _).grown hg h.2.2.1.size (fun g hgr => Nat.le_of_lt (hr g hgr).1)) fun b hb1 hb2 hb3 => hg.block b (by have := h.2.2.2.1; omega) (fun e => by have := hr b e.symm; omega)

/-- the row of texts: its own, apart from the numbers -/
def PRow (w : World) (lo hi : Nat) (w' : World) (V : Value) (l : List Str) : Prop := w'.ownsRow (w.heap.size + 1) 9 1 V l.length (strc l) ∧ ∀ g, V.ownBlock = some g → g < lo ∨ hi ≤ g
theorem PRow.row {w w' : World} {lo hi : Nat} {V : Value} {l : List Str} (h : PRow w lo hi w' V l) : ∀ g, V.ownBlock = some g → w.heap.size < g ∧ (g < lo ∨ hi ≤ g) := fun g hg => ⟨(h.1.lt g hg).1, h.2 g hg⟩
theorem PRow.below {w w1 w2 : World} {lo hi : Nat} {V : Value} {l : List Str} (h : PRow w lo hi w1 V l) (hb : Below w1.heap.size w1 w2) : PRow w lo hi w2 V l := ⟨own_below h.1 hb, h.2⟩
theorem PRow.form {w w' : World} {lo hi : Nat} {V : Value} {l : List Str} (h : PRow w lo hi w' V l) : ∃ A cap, V = .slice A l.length cap := by
  rcases h.1.2 with ⟨h1, h0⟩ | ⟨g, c, cur, h1, -⟩
  · exact ⟨_, _, by rw [h0]; exact h1⟩
  · exact ⟨_, _, h1⟩
theorem own_form {w : World} {base : Nat} {e : TypeId} {V : Value} {n : Nat} {xs : List Value} (h : w.ownsRow base e 1 V n xs) : ∃ A cap, V = .slice A n cap := by
  rcases h.2 with ⟨h1, h0⟩ | ⟨g, c, cur, h1, -⟩
  · exact ⟨_, _, by rw [h0]; exact h1⟩
  · exact ⟨_, _, h1⟩
/-- one text more in it -/
theorem PRow.more {w w1 w2 : World} {lo hi : Nat} {V V' : Value} {l : List Str} {x : Str} (h : PRow w lo hi w1 V l) (hi1 : hi ≤ w1.heap.size) (ho : w2.ownsRow (w.heap.size + 1) 9 1 V' (l.length + 1) (strc l ++ [.string ⟨x.toArray⟩])) (hloc : V'.ownBlock = V.ownBlock ∨ V'.ownBlock = some w1.heap.size) : PRow w lo hi w2 V' (l ++ [x]) := by
  refine ⟨by simpa [strc] using ho, fun g hg => ?_⟩
  rcases hloc with e | e
  · exact h.2 g (e.symm.trans hg)
  · rw [e] at hg
    injection hg with hg
    omega

def Apart (V1 V2 : Value) : Prop := ∀ g, V1.ownBlock = some g → V2.ownBlock ≠ some g
theorem Apart.symm {a b : Value} (h : Apart a b) : Apart b a := fun g hb ha => h g ha hb
theorem own_last {w : World} {base : Nat} {e : TypeId} {A : Option Addr} {n cap : Nat} {xs : List Value} {v : Value} (h : w.ownsRow base e 1 (.slice A (n + 1) cap) (n + 1) (xs ++ [v])) (hl : xs.length = n) : ∃ g, A = some ⟨g, 0, none⟩ ∧ w.cell? ⟨g, n, none⟩ = some v := by
  rcases id h.2 with ⟨h1, h0⟩ | ⟨g, c, cur, h1, -⟩
  · omega
  · cases h1
    refine ⟨g, rfl, ?_⟩
    have := h.cells (g := g) rfl n v (by rw [List.getElem?_append_right (by omega)]; simp [hl])
    rw [Go.WideShapes.add_plain] at this
    simpa using this
theorem lookL_at {d : Int} : ∀ {al : List T} {l : List Nat} {b : Int} {f j y : Nat} {x : T}, lookL d al l b f = 0 → al[j]? = some x → l[j]? = some y → look d x (b + (y : Nat)) f = 0 := by
  intro al
  induction al with
  | nil => intro l b f j y x _ h; simp at h
  | cons a r ih =>
    intro l b f j y x h hx hy
    obtain ⟨h1, h2⟩ := lookL_cons h
    cases l with
    | nil => simp at hy
    | cons z l =>
      cases j with
      | zero =>
        simp only [List.getElem?_cons_zero, Option.some.injEq] at hx hy
        subst hx hy
        exact h1
      | succ j => exact ih h2 (by simpa using hx) (by simpa using hy)
theorem argsIn.keep' {w w' : World} {B : Nat} {t : T} {s : Value} (h : argsIn w B t s) (hb : Below B w w') (hB : B ≤ w'.heap.size) : argsIn w' w'.heap.size t s := h.keep hB hb
theorem Strs.keep' {w w' : World} {l : List Str} {v : Value} (h : Strs w w.heap.size l v) (hb : Below w.heap.size w w') : Strs w' w'.heap.size l v := (h.any (R' := w'.heap.size) hb.size).but (but_of hb)

/-- strings.Join at a row of the call's own, with blanks -/
theorem pjoin_any {base : Nat} (us : List Str) (V : Value) (w : World) (h : w.ownsRow base 9 1 V us.length (strc us)) (hlen : (joinB us).length ≤ 100000000000000) (hul : us.length ≤ 1000000) :
    Calls Tryd.prog 38 #[V, .string ⟨#[32]⟩] w (PrintPost (joinB us) w) := by
  rcases id h.2 with ⟨rfl, h0⟩ | ⟨g, cap, cur, rfl, hgb, hh, hle, hm, -⟩
  · have : us = [] := List.eq_nil_of_length_eq_zero h0
    subst this
    refine (Tryd.strings_Join_none none 0 ⟨#[32]⟩ w).mono ?_
    rintro e w' ⟨rfl, rfl⟩
    exact ⟨rfl, Below.refl _ _⟩
  · have hm2 : (us.map fun s => (⟨s.toArray⟩ : ByteArray)).map (·.data.toList) = us := by
      rw [List.map_map]
      exact List.map_id _
    have hj := Tryd.strings_Join g 0 cap (us.map fun s => (⟨s.toArray⟩ : ByteArray)) ⟨#[32]⟩ w (fun j x hx => by
      rw [List.getElem?_map] at hx
      cases hu : us[j]? with
      | none => rw [hu] at hx; cases hx
      | some s =>
        rw [hu] at hx
        simp only [Option.map_some, Option.some.injEq] at hx
        subst hx
        have := h.cells (g := g) rfl j (.string ⟨s.toArray⟩) (by rw [strc_get, hu]; rfl)
        rwa [Go.WideShapes.add_plain] at this) (h.lt g rfl).2 (by rw [List.length_map]; omega) (by rw [List.length_map]; exact hle) (by rw [hm2, show (⟨#[32]⟩ : ByteArray).data.toList = [32] from rfl, join_joinB]; omega)
    rw [hm2, show (⟨#[32]⟩ : ByteArray).data.toList = [32] from rfl, join_joinB, List.length_map] at hj
    exact hj

/-- what the walk reckons for a new name -/
theorem xname_enc (l : Nat) : ∃ (r : Nat) (c : UInt8), (l : Int).tmod 26 = (r : Int) ∧ (l : Int) % 26 = (r : Int) ∧ r < 26 ∧ IntKind.i32.wrap (97 + (r : Int)) = 97 + (r : Int) ∧ Utf8.encode (97 + (r : Int)) = ⟨#[c]⟩ ∧ xname l = [120, c] := by
  have key : ∀ a < 26, IntKind.i32.wrap (97 + ((a : Nat) : Int)) = 97 + ((a : Nat) : Int) ∧ Utf8.encode (97 + ((a : Nat) : Int)) = ⟨#[UInt8.ofNat (97 + a)]⟩ := by decide
  obtain ⟨h1, h2⟩ := key (l % 26) (Nat.mod_lt _ (by decide))
  exact ⟨l % 26, _, by rw [Int.tmod_eq_emod_of_nonneg (by omega)]; omega, by omega, Nat.mod_lt _ (by decide), h1, h2, rfl⟩

theorem printL_at {decls : List Str} {al : List T} {sh : List Nat} {j : Nat} {x : T} {y : Nat} {b : List Str} (hx : al[j]? = some x) (hy : sh[j]? = some y) :
    printL decls (al.drop j) (sh.drop j) b = fresh y b.length ++ printT decls x (b ++ fresh y b.length) :: printL decls (al.drop (j + 1)) (sh.drop (j + 1)) b := by
  obtain ⟨hj, rfl⟩ := List.getElem?_eq_some_iff.1 hx
  obtain ⟨hj2, rfl⟩ := List.getElem?_eq_some_iff.1 hy
  rw [List.drop_eq_getElem_cons hj, List.drop_eq_getElem_cons hj2, printL]
  rfl

theorem joinB_ge : ∀ (l : List Str) (x : Str), x ∈ l → x.length ≤ (joinB l).length := by
  intro l
  induction l with
  | nil => intro x h; cases h
  | cons a r ih =>
    intro x h
    cases r with
    | nil =>
      cases h with
      | head => exact Nat.le_refl _
      | tail _ h => cases h
    | cons b r =>
      rw [joinB, List.length_append, List.length_cons]
      cases h with
      | head => omega
      | tail _ h => have := ih x h; omega

end Go.Proofs.YtjboibbgigkhkaaDoor
