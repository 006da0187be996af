/- How a term lies in memory: its kind, its number, and a slice of its arguments, each three cells; and that this stays where what lay below stays. -/
import Derived.Test.YtjboibbgigkhkaaGreatDoorYBase
import Derived.Test.YtjboibbgigkhkaaGreatDoorYGA
import Derived.Deep.Draws
import Derived.StillTailTactics
namespace Go.Proofs.YtjboibbgigkhkaaGreatDoor
open Go.RowKit

mutual
/-- the slice value s holds the arguments of the term, in blocks of the set S -/
def argsInS (w : World) (S : Nat → Prop) : T → Value → Prop
  | .mk _ _ al, s => ∃ (A : Option Addr) (cap : Nat), s = .slice A al.length cap ∧ al.length ≤ cap ∧ cap ≤ maxLen ∧ (al ≠ [] → ∃ b off, A = some ⟨b, off, none⟩ ∧ S b ∧ cellsInS w S b al off)
/-- the terms lie in block b, from a place on, three cells each -/
def cellsInS (w : World) (S : Nat → Prop) (b : Nat) : List T → Nat → Prop
  | [], _ => True
  | t :: r, off => (∃ s, w.cell? ⟨b, off, none⟩ = some (.int .i64 t.k) ∧ w.cell? ⟨b, off + 1, none⟩ = some (.int .i64 t.n) ∧ w.cell? ⟨b, off + 2, none⟩ = some s ∧ argsInS w S t s) ∧ cellsInS w S b r (off + 3)
end

/-- in blocks below B -/
def argsIn (w : World) (B : Nat) (t : T) (s : Value) : Prop := argsInS w (fun b => b < B) t s
def cellsIn (w : World) (B : Nat) (b : Nat) (al : List T) (off : Nat) : Prop := cellsInS w (fun b => b < B) b al off
/-- in new blocks, from lo on -/
def newFrom (w w' : World) : Nat → Prop := fun b => w.heap.size ≤ b ∧ b < w'.heap.size

theorem argsInS_iff {w : World} {S : Nat → Prop} {t : T} {s : Value} : argsInS w S t s ↔ ∃ (A : Option Addr) (cap : Nat), s = .slice A t.al.length cap ∧ t.al.length ≤ cap ∧ cap ≤ maxLen ∧ (t.al ≠ [] → ∃ b off, A = some ⟨b, off, none⟩ ∧ S b ∧ cellsInS w S b t.al off) := by
  cases t with
  | mk k n al => rw [argsInS]; rfl
theorem argsIn_iff {w : World} {B : Nat} {t : T} {s : Value} : argsIn w B t s ↔ ∃ (A : Option Addr) (cap : Nat), s = .slice A t.al.length cap ∧ t.al.length ≤ cap ∧ cap ≤ maxLen ∧ (t.al ≠ [] → ∃ b off, A = some ⟨b, off, none⟩ ∧ b < B ∧ cellsIn w B b t.al off) := argsInS_iff

theorem cellsInS_keep {w w' : World} {S S' : Nat → Prop} (hS : ∀ b, S b → S' b) (hk : ∀ p : Addr, S p.block → w'.cell? p = w.cell? p) :
    (∀ t : T, ∀ s, argsInS w S t s → argsInS w' S' t s) ∧ (∀ (al : List T) (b off : Nat), S b → cellsInS w S b al off → cellsInS w' S' b al off) := by
  refine T.ind (P := fun t => ∀ s, argsInS w S t s → argsInS w' S' t s) (Q := fun al => ∀ (b off : Nat), S b → cellsInS w S b al off → cellsInS w' S' b al off) ?_ ?_ ?_
  · intro k n al h s hs
    rw [argsInS] at hs ⊢
    obtain ⟨A, cap, h1, h2, h3, h4⟩ := hs
    refine ⟨A, cap, h1, h2, h3, fun hne => ?_⟩
    obtain ⟨b, off, e, hb, hc⟩ := h4 hne
    exact ⟨b, off, e, hS b hb, h b off hb hc⟩
  · intro b off _ _; rw [cellsInS]; trivial
  · intro t r ht hr b off hb h
    rw [cellsInS] at h ⊢
    obtain ⟨⟨s, h1, h2, h3, h4⟩, h5⟩ := h
    exact ⟨⟨s, (hk _ hb).trans h1, (hk _ hb).trans h2, (hk _ hb).trans h3, ht s h4⟩, hr b _ hb h5⟩

theorem argsInS.keep {w w' : World} {S S' : Nat → Prop} {t : T} {s : Value} (h : argsInS w S t s) (hS : ∀ b, S b → S' b) (hk : ∀ p : Addr, S p.block → w'.cell? p = w.cell? p) : argsInS w' S' t s :=
  (cellsInS_keep hS hk).1 t s h
theorem argsIn.keep {w w' : World} {B B' : Nat} {t : T} {s : Value} (h : argsIn w B t s) (hB : B ≤ B') (hb : Below B w w') : argsIn w' B' t s :=
  argsInS.keep h (fun _ hlt => Nat.lt_of_lt_of_le hlt hB) fun _ hp => hb.cell hp
theorem cellsIn.keep {w w' : World} {B B' : Nat} {b off : Nat} {al : List T} (h : cellsIn w B b al off) (hlt : b < B) (hB : B ≤ B') (hb : Below B w w') : cellsIn w' B' b al off :=
  (cellsInS_keep (S := fun b => b < B) (S' := fun b => b < B') (fun _ h => Nat.lt_of_lt_of_le h hB) fun _ hp => hb.cell hp).2 al b off hlt h

/-- the i-th of terms that lie in a block -/
theorem cellsInS.at_ {w : World} {S : Nat → Prop} {b : Nat} : ∀ {al : List T} {off i : Nat} {t : T}, cellsInS w S b al off → al[i]? = some t →
    ∃ A cap, w.cell? ⟨b, off + i * 3, none⟩ = some (.int .i64 t.k) ∧ w.cell? ⟨b, off + i * 3 + 1, none⟩ = some (.int .i64 t.n) ∧ w.cell? ⟨b, off + i * 3 + 2, none⟩ = some (.slice A t.al.length cap) ∧ argsInS w S t (.slice A t.al.length cap) := by
  intro al
  induction al with
  | nil => intro off i t _ h; simp at h
  | cons a r ih =>
    intro off i t h hi
    rw [cellsInS] at h
    cases i with
    | zero =>
      simp only [List.getElem?_cons_zero, Option.some.injEq] at hi
      subst hi
      obtain ⟨⟨s, c1, c2, c3, c4⟩, _⟩ := h
      obtain ⟨A, cap, rfl, _⟩ := argsInS_iff.1 c4
      exact ⟨A, cap, by simpa using c1, by simpa using c2, by simpa using c3, c4⟩
    | succ j =>
      simp only [List.getElem?_cons_succ] at hi
      have := ih (off := off + 3) h.2 hi
      rw [show off + (j + 1) * 3 = off + 3 + j * 3 by omega]
      exact this
theorem cellsIn.at_ {w : World} {B b : Nat} {al : List T} {off i : Nat} {t : T} (h : cellsIn w B b al off) (hi : al[i]? = some t) :
    ∃ A cap, w.cell? ⟨b, off + i * 3, none⟩ = some (.int .i64 t.k) ∧ w.cell? ⟨b, off + i * 3 + 1, none⟩ = some (.int .i64 t.n) ∧ w.cell? ⟨b, off + i * 3 + 2, none⟩ = some (.slice A t.al.length cap) ∧ argsIn w B t (.slice A t.al.length cap) := cellsInS.at_ h hi

/-- terms that are laid one behind the other, by their cells -/
theorem cellsInS.mk_ {w : World} {S : Nat → Prop} {b : Nat} : ∀ {al : List T} {off : Nat}, (∀ i t, al[i]? = some t → ∃ s, w.cell? ⟨b, off + i * 3, none⟩ = some (.int .i64 t.k) ∧ w.cell? ⟨b, off + i * 3 + 1, none⟩ = some (.int .i64 t.n) ∧ w.cell? ⟨b, off + i * 3 + 2, none⟩ = some s ∧ argsInS w S t s) → cellsInS w S b al off := by
  intro al
  induction al with
  | nil => intro off _; rw [cellsInS]; trivial
  | cons a r ih =>
    intro off h
    rw [cellsInS]
    refine ⟨by simpa using h 0 a rfl, ih fun i t hi => ?_⟩
    have := h (i + 1) t (by simpa using hi)
    rw [show off + (i + 1) * 3 = off + 3 + i * 3 by omega] at this
    exact this

/-- induction over a term: the arguments first -/
theorem T.ind_args {P : T → Prop} (h : ∀ t : T, (∀ x ∈ t.al, P x) → P t) : ∀ t, P t :=
  (T.ind (P := P) (Q := fun al => ∀ x ∈ al, P x) (fun k n al hq => h (.mk k n al) hq) (fun x hx => by cases hx) (fun t r ht hr x hx => by
    cases hx with
    | head => exact ht
    | tail _ hx => exact hr x hx)).1

theorem sizeL_take_succ {al : List T} {k : Nat} {x : T} (h : al[k]? = some x) : sizeL (al.take (k + 1)) = sizeL (al.take k) + size x := by
  induction al generalizing k with
  | nil => simp at h
  | cons a r ih =>
    cases k with
    | zero => simp only [List.getElem?_cons_zero, Option.some.injEq] at h; subst h; simp [sizeL]
    | succ k => simp only [List.getElem?_cons_succ] at h; simp only [List.take_succ_cons, sizeL, ih h]; omega

theorem sizeL_take_le {al : List T} {k : Nat} : sizeL (al.take k) ≤ sizeL al := by
  induction al generalizing k with
  | nil => simp
  | cons a r ih =>
    cases k with
    | zero => simp [sizeL]
    | succ k => simp only [List.take_succ_cons, sizeL]; have := ih (k := k); omega

theorem size_eq (t : T) : size t = 1 + sizeL t.al := by cases t; simp [size, T.al]

theorem length_le_sizeL (al : List T) : al.length ≤ sizeL al := by
  induction al with
  | nil => simp
  | cons a r ih => have := size_eq a; simp only [sizeL, List.length_cons]; omega

theorem size_at_le {al : List T} {k : Nat} {x : T} (h : al[k]? = some x) : size x ≤ sizeL al := by
  have h1 := sizeL_take_succ h
  have h2 := sizeL_take_le (al := al) (k := k + 1)
  omega

theorem Below.drewN {B : Nat} {a w : World} (h : Below B a w) (n : Nat) : Below B a (w.drewN n) := ⟨h.os, h.tape, h.output, h.size, h.block⟩

/-- a region of which all operations but the last ones read: the law, with the draw written as the walk writes it -/
theorem still_tail {P : Program} {id : Nat} {Q : Exit → Act → World → Prop} {a : Act} {w : World} {l : List Oper} (n : Nat) (hm : P.follows .mixedOrders = true) (hB : Region.lexTailB .any l.toArray n = true)
    (h : wpStill P l.toArray w.drew (fun a' => wpList P l.toArray Q (l.drop n) a' w.drew) (l.take n) a) : (Code.region id l.toArray true).wp P Q a w :=
  wp_region_still_tail n hm hB h

theorem length_getElem {α : Type} {l : List α} {i : Nat} (h : i < l.length) : ∃ x, l[i]? = some x := ⟨l[i], List.getElem?_eq_getElem h⟩
end Go.Proofs.YtjboibbgigkhkaaGreatDoor

