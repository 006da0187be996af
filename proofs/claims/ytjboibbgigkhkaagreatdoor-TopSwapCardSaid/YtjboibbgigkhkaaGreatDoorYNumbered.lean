import Derived.Test.YtjboibbgigkhkaaGreatDoorYMem
import Derived.WalkSpells
import Derived.WalkLawsBesides
namespace Go.Proofs.YtjboibbgigkhkaaGreatDoor
open Go.RowKit

set_option maxHeartbeats 400000 in
theorem numbered_any (k : Int) (w : World) :
    Calls Tryz.prog 104 #[.int .i64 k] w fun e w' => e = .returned (.bool (numbered k)) ∧ w = w' := by
  have HR := Lib.hid (Eq.refl (numbered k))
  by_cases h1 : k = 1
  · subst h1
    go_enter Tryz.func104, Tryz.ntmps104
    go_wp2
    go_ret
    exact ⟨rfl, rfl⟩
  · by_cases h2 : k = 2
    · subst h2
      go_enter Tryz.func104, Tryz.ntmps104
      go_wp2
      go_ret
      exact ⟨rfl, rfl⟩
    · by_cases h3 : k = 18
      · subst h3
        go_enter Tryz.func104, Tryz.ntmps104
        go_wp2
        go_ret
        exact ⟨rfl, rfl⟩
      · have hR : numbered k = false := by simp [numbered, h1, h2, h3]
        rw [hR]
        have b1 : (k == 1) = false := by simpa using h1
        have b2 : (k == 2) = false := by simpa using h2
        have b3 : (k == 18) = false := by simpa using h3
        clear hR HR
        go_enter Tryz.func104, Tryz.ntmps104
        go_wp2
        go_ret
        exact ⟨rfl, rfl⟩
end Go.Proofs.YtjboibbgigkhkaaGreatDoor

