/- Word and kindOf of the document's answer: a kind's word; a word's kind. -/
import Derived.Test.YtjboibbgigkhkaaDoorRBox
namespace Go.Proofs.YtjboibbgigkhkaaDoor
open Go.RowKit
set_option maxRecDepth 100000

theorem toList_str (l : Str) : (⟨l.toArray⟩ : ByteArray).toList = l := by rw [ByteArray.toList_eq]

def StrPost (v : Value) (w : World) (e : Ending) (w' : World) : Prop := e = .returned v ∧ Below w.heap.size w w'

set_option maxHeartbeats 1600000 in
theorem word_any (k : Nat) (h3 : 3 ≤ k) (h17 : k ≤ 17) (h5 : k ≠ 5) (w : World) :
    Calls Tryd.prog 47 #[.int .i64 k] w (StrPost (.string ⟨(word k).toArray⟩) w) := by
  have hk : k = 3 ∨ k = 4 ∨ k = 6 ∨ k = 7 ∨ k = 8 ∨ k = 9 ∨ k = 10 ∨ k = 11 ∨ k = 12 ∨ k = 13 ∨ k = 14 ∨ k = 15 ∨ k = 16 ∨ k = 17 := by omega
  clear h3 h17 h5
  rcases hk with h | h | h | h | h | h | h | h | h | h | h | h | h | h <;> subst h
  all_goals
    go_enter Tryd.func47, Tryd.ntmps47
    go_wp2
    go_ret
    exact ⟨rfl, (Below.refl _ _).alloc (Nat.le_refl _) _⟩

end Go.Proofs.YtjboibbgigkhkaaDoor
