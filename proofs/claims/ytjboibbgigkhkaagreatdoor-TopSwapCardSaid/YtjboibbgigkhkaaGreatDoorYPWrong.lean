/- term.Wrong: what is wrong with a term. -/
import Derived.Test.YtjboibbgigkhkaaGreatDoorYForm
import Derived.Test.YtjboibbgigkhkaaGreatDoorYWrong
namespace Go.Proofs.YtjboibbgigkhkaaGreatDoor
open Go.RowKit

set_option maxHeartbeats 400000 in
theorem pwrong_any (t : T) (b d : Int) (hd0 : 0 ≤ d) (hd1 : d ≤ 1000000000000) (w : World) (s : Value) (hs : argsIn w w.heap.size t s) (hb0 : 0 ≤ b) (hb1 : b ≤ 100000000000) :
    Calls Tryz.prog 88 #[.agg #[.int .i64 t.k, .int .i64 t.n, s], .int .i64 b, .int .i64 d] w (LookPost (wrong t b d) w) := by
  obtain ⟨A, cap, rfl, h1, h2, h3⟩ := argsIn_iff.1 hs
  have hR : wrong t b d = if look d t b 24 ≠ 0 then look d t b 24 else if 60 < size t then 4 else 0 := rfl
  have HR := Lib.hid hR
  clear hR
  generalize wrong t b d = R at *
  clear h3
  go_enter Tryz.func88, Tryz.ntmps88
  go_wp2_with fail
  have hb := (Below.refl w.heap.size w).alloc (Nat.le_refl _) (Obj.cells #[Value.int IntKind.i64 t.k, Value.int IntKind.i64 t.n, Value.slice A t.al.length cap] 30)
  refine (form_any d hd0 hd1 24 t b 1 _ _ (hs.keep hb.size hb) hb0 (by omega) (by omega) (by omega)).mono ?_
  rintro e w1 ⟨rfl, hbl⟩
  obtain ⟨q0, q1, q2, hbw⟩ := box3 hbl
  clear hbl hb
  by_cases hz : look d t b 24 = 0
  · have hsz := look_size24 hz
    have hR := HR.out
    rw [if_neg (fun h => h hz)] at hR
    have HR2 := Lib.hid hR
    have hz' : (look d t b 24 != 0) = false := by simpa using hz
    clear hR HR hz
    generalize look d t b 24 = q at *
    go_wp2_with fail
    refine (psize_any t _ _ (hs.keep hbw.size hbw) hsz).mono ?_
    rintro e w2 ⟨rfl, hb2⟩
    have hbw2 := hbw.trans (hb2.mono hbw.size)
    clear hb2
    by_cases hg : 60 < size t
    · have hR := HR2.out
      rw [if_pos hg] at hR
      subst hR
      have hg' : (60 : Int) < (size t : Int) := by omega
      go_wp2_with fail
      go_ret
      exact ⟨rfl, hbw2⟩
    · have hR := HR2.out
      rw [if_neg hg] at hR
      subst hR
      have hg' : ¬ (60 : Int) < (size t : Int) := by omega
      go_wp2_with fail
      go_ret
      exact ⟨rfl, hbw2⟩
  · have hR := HR.out
    rw [if_pos hz] at hR
    subst hR
    have hz' : (look d t b 24 != 0) = true := by simpa using hz
    clear HR hz
    generalize look d t b 24 = q at *
    go_wp2_with fail
    go_ret
    exact ⟨rfl, hbw⟩
end Go.Proofs.YtjboibbgigkhkaaGreatDoor

