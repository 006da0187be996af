import Derived.Test.YtjboibbgigkhkaaGreatDoorYMem
import Derived.WalkSpells
import Derived.WalkLawsBesides
namespace Go.Proofs.YtjboibbgigkhkaaGreatDoor
open Go.RowKit

/-- the text that Shape answers -/
def shapeBytes (k : Int) : List UInt8 := match shape k with
  | none => [45]
  | some l => l.map fun x => UInt8.ofNat (48 + x)
def shapeText (k : Int) : ByteArray := ⟨(shapeBytes k).toArray⟩

def ShapePost (k : Int) (w : World) (e : Ending) (w' : World) : Prop := e = .returned (.string (shapeText k)) ∧ Below w.heap.size w w'

theorem shape_out {k : Int} (h : k < 1 ∨ 18 < k) : shapeText k = ⟨#[45]⟩ := by
  have hs : shape k = none := by
    unfold shape
    repeat' split
    all_goals first | omega | rfl
  simp [shapeText, shapeBytes, hs]

set_option maxHeartbeats 1600000 in
theorem shape_any (k : Int) (w : World) :
    Calls Tryz.prog 46 #[.int .i64 k] w (ShapePost k w) := by
  by_cases h1 : k < 1
  · have hp : ∀ w' : World, Below w.heap.size w w' → ShapePost k w (.returned (.string ⟨#[45]⟩)) w' := fun w' hb => ⟨by rw [shape_out (.inl h1)], hb⟩
    go_enter Tryz.func46, Tryz.ntmps46
    go_wp2
    go_ret
    exact hp _ (Below.refl _ _)
  · by_cases h2 : 18 < k
    · have hp : ∀ w' : World, Below w.heap.size w w' → ShapePost k w (.returned (.string ⟨#[45]⟩)) w' := fun w' hb => ⟨by rw [shape_out (.inr h2)], hb⟩
      go_enter Tryz.func46, Tryz.ntmps46
      go_wp2
      go_ret
      exact hp _ (Below.refl _ _)
    · have hk : k = 1 ∨ k = 2 ∨ k = 3 ∨ k = 4 ∨ k = 5 ∨ k = 6 ∨ k = 7 ∨ k = 8 ∨ k = 9 ∨ k = 10 ∨ k = 11 ∨ k = 12 ∨ k = 13 ∨ k = 14 ∨ k = 15 ∨ k = 16 ∨ k = 17 ∨ k = 18 := by omega
      clear h1 h2
      rcases hk with h | h | h | h | h | h | h | h | h | h | h | h | h | h | h | h | h | h <;> subst h
      all_goals
        go_enter Tryz.func46, Tryz.ntmps46
        go_wp2
        go_ret
        exact ⟨rfl, (Below.refl _ _).alloc (Nat.le_refl _) _⟩
end Go.Proofs.YtjboibbgigkhkaaGreatDoor

