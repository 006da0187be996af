import Derived.Test.YtjboibbgigkhkaaGreatDoorYMem
import Derived.WalkSpells
import Derived.WalkLawsBesides
namespace Go.Proofs.YtjboibbgigkhkaaGreatDoor
open Go.RowKit

/-- the slice value s holds these small numbers, in a block below B -/
def intsAt (w : World) (B : Nat) (l : List Nat) (s : Value) : Prop := ∃ A cap, s = .slice A l.length cap ∧ ∀ i x, l[i]? = some x → ∃ b off, A = some ⟨b, off, none⟩ ∧ b < B ∧ w.cell? ⟨b, off + i, none⟩ = some (.int .i64 (x : Nat))

theorem intsAt.keep {w w' : World} {B B' : Nat} {l : List Nat} {s : Value} (h : intsAt w B l s) (hB : B ≤ B') (hb : Below B w w') : intsAt w' B' l s := by
  obtain ⟨A, cap, h1, h2⟩ := h
  refine ⟨A, cap, h1, fun i x hx => ?_⟩
  obtain ⟨b, off, e, hlt, hc⟩ := h2 i x hx
  exact ⟨b, off, e, by omega, (hb.cell (p := ⟨b, _, none⟩) hlt).trans hc⟩

theorem intsAt_nil (w : World) (B : Nat) : intsAt w B [] (.slice none 0 0) := ⟨none, 0, rfl, fun i x h => by simp at h⟩
theorem intsAt_new (w : World) (l : List Nat) (t : TypeId) : intsAt (w.alloc (.cells (l.map fun x => Value.int .i64 (x : Nat)).toArray t)) (w.alloc (.cells (l.map fun x => Value.int .i64 (x : Nat)).toArray t)).heap.size l (.slice (some ⟨w.heap.size, 0, none⟩) l.length l.length) := by
  refine ⟨_, _, rfl, fun i x hx => ⟨w.heap.size, 0, rfl, by simp, ?_⟩⟩
  rw [World.cell?_alloc_at _ _ _ _ rfl]
  simp [hx]

def BindsPost (k : Int) (w : World) (e : Ending) (w' : World) : Prop := ∃ s, e = .returned (.tuple #[s, .bool (shape k).isSome]) ∧ intsAt w' w'.heap.size ((shape k).getD []) s ∧ Below w.heap.size w w'

theorem shape_out_none {k : Int} (h : k < 1 ∨ 18 < k) : shape k = none := by
  unfold shape
  repeat' split
  all_goals first | omega | rfl

set_option maxHeartbeats 1600000 in
theorem binds_any (k : Int) (w : World) :
    Calls Tryz.prog 76 #[.int .i64 k] w (BindsPost k w) := by
  by_cases h1 : k < 1
  · have hp : ∀ w' : World, Below w.heap.size w w' → BindsPost k w (.returned (.tuple #[.slice none 0 0, .bool false])) w' := fun w' hb => ⟨_, by rw [shape_out_none (.inl h1)]; rfl, by rw [shape_out_none (.inl h1)]; exact intsAt_nil _ _, hb⟩
    go_enter Tryz.func76, Tryz.ntmps76
    go_wp2
    go_ret2
    exact hp _ (Below.refl _ _)
  · by_cases h2 : 18 < k
    · have hp : ∀ w' : World, Below w.heap.size w w' → BindsPost k w (.returned (.tuple #[.slice none 0 0, .bool false])) w' := fun w' hb => ⟨_, by rw [shape_out_none (.inr h2)]; rfl, by rw [shape_out_none (.inr h2)]; exact intsAt_nil _ _, hb⟩
      go_enter Tryz.func76, Tryz.ntmps76
      go_wp2
      go_ret2
      exact hp _ (Below.refl _ _)
    · have hk : k = 1 ∨ k = 2 ∨ k = 3 ∨ k = 4 ∨ k = 5 ∨ k = 6 ∨ k = 7 ∨ k = 8 ∨ k = 9 ∨ k = 10 ∨ k = 11 ∨ k = 12 ∨ k = 13 ∨ k = 14 ∨ k = 15 ∨ k = 16 ∨ k = 17 ∨ k = 18 := by omega
      clear h1 h2
      rcases hk with h | h | h | h | h | h | h | h | h | h | h | h | h | h | h | h | h | h <;> subst h
      all_goals
        go_enter Tryz.func76, Tryz.ntmps76
        go_wp2
        go_ret2
        first
          | exact ⟨_, rfl, intsAt_nil _ _, Below.refl _ _⟩
          | exact ⟨_, rfl, intsAt_new w [0] _, (Below.refl _ _).alloc (Nat.le_refl _) _⟩
          | exact ⟨_, rfl, intsAt_new w [0, 1] _, (Below.refl _ _).alloc (Nat.le_refl _) _⟩
          | exact ⟨_, rfl, intsAt_new w [0, 0] _, (Below.refl _ _).alloc (Nat.le_refl _) _⟩
          | exact ⟨_, rfl, intsAt_new w [0, 1, 0, 0] _, (Below.refl _ _).alloc (Nat.le_refl _) _⟩
          | exact ⟨_, rfl, intsAt_new w [1, 0, 2, 0] _, (Below.refl _ _).alloc (Nat.le_refl _) _⟩
end Go.Proofs.YtjboibbgigkhkaaGreatDoor

