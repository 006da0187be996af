/- kindOf of the document's answer: a word's kind. -/
import Derived.Test.YtjboibbgigkhkaaDoorWord
namespace Go.Proofs.YtjboibbgigkhkaaDoor
open Go.RowKit
set_option maxRecDepth 100000

theorem kindFrom_step {s : Str} {k f : Nat} : kindFrom s k (f + 1) = if k ≠ 5 ∧ word k = s then k else kindFrom s (k + 1) f := rfl

theorem kindof_any (s : Str) (w : World) :
    Calls Tryd.prog 33 #[.string ⟨s.toArray⟩] w (StrPost (.int .i64 (kindOf s)) w) := by
  go_enter Tryd.func33, Tryd.ntmps33
  go_wp2_with fail
  go_loopw [3] (fun i wr => ∃ k : Nat, 3 ≤ k ∧ k ≤ 18 ∧ i = .int .i64 k ∧ kindFrom s k (18 - k) = kindOf s ∧ Below w.heap.size w wr) (fun i _ => 18 - (intOf i).toNat)
  case atStart => exact ⟨3, by omega, by omega, rfl, rfl, Below.refl _ _⟩
  case round =>
    obtain ⟨k, h3, h18, rfl, hk, hb⟩ := hrel
    by_cases hlt : k < 18
    · obtain ⟨f, hf⟩ : ∃ f, 18 - k = f + 1 := ⟨17 - k, by omega⟩
      rw [hf, kindFrom_step] at hk
      by_cases h5 : k = 5
      · subst h5
        rw [if_neg (by simp)] at hk
        go_wp2_with fail
        go_roundw
        case rel => exact ⟨6, by omega, by omega, rfl, by rw [← hk, show 18 - 6 = f by omega], hb⟩
        case measure => simp [intOf]
      · have h5b : ((k : Int) != 5) = true := by simp; omega
        go_wp2_with fail
        refine (word_any k h3 (by omega) h5 _).mono ?_
        rintro e w1 ⟨rfl, hb1⟩
        have hb2 := hb.trans (hb1.mono hb.size)
        clear hb hb1
        by_cases he : word k = s
        · rw [if_pos ⟨h5, he⟩] at hk
          have heb : (word k == s) = true := by simpa using he
          have HK := Lib.hid hk
          clear he hk
          go_wp2_with fail
          go_ret
          exact ⟨by rw [← HK.out]; rfl, hb2⟩
        · rw [if_neg (fun h => he h.2)] at hk
          have heb : (word k == s) = false := by simpa using he
          have HK := Lib.hid hk
          clear he hk
          go_wp2_with fail
          go_roundw
          case rel => exact ⟨k + 1, by omega, by omega, by go_num, by rw [← HK.out, show 18 - (k + 1) = f by omega], hb2⟩
          case measure => simp [intOf]; omega
    · obtain rfl : k = 18 := by omega
      have HK := Lib.hid hk
      clear hk
      go_wp2_with fail
      go_ret
      exact ⟨by rw [← HK.out]; rfl, hb⟩
end Go.Proofs.YtjboibbgigkhkaaDoor
