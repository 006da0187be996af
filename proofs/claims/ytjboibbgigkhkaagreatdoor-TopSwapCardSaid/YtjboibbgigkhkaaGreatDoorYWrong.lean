import Derived.Test.YtjboibbgigkhkaaGreatDoorYSize
import Derived.Test.YtjboibbgigkhkaaGreatDoorYLook
namespace Go.Proofs.YtjboibbgigkhkaaGreatDoor
open Go.RowKit

theorem look_size (d : Int) : (∀ t : T, ∀ (b : Int) (f : Nat), look d t b f = 0 → 3 * size t + 1 ≤ 4 ^ f) ∧ (∀ (al : List T) (l : List Nat) (b : Int) (f : Nat), lookL d al l b f = 0 → 3 * sizeL al + al.length ≤ al.length * 4 ^ f) := by
  refine T.ind (P := fun t => ∀ (b : Int) (f : Nat), look d t b f = 0 → 3 * size t + 1 ≤ 4 ^ f) (Q := fun al => ∀ (l : List Nat) (b : Int) (f : Nat), lookL d al l b f = 0 → 3 * sizeL al + al.length ≤ al.length * 4 ^ f) ?_ ?_ ?_
  · intro k n al h b f hl
    obtain ⟨g, l, rfl, hs, hlen, _, _, hL⟩ := look_zero hl
    have h1 := h l b g hL
    have h4 := shape_len hs
    have h3 : 0 < 4 ^ g := Nat.pow_pos (by omega)
    rw [size, Nat.pow_succ]
    have h5 : al.length = 0 ∨ al.length = 1 ∨ al.length = 2 ∨ al.length = 3 ∨ al.length = 4 := by omega
    rcases h5 with h5 | h5 | h5 | h5 | h5 <;> rw [h5] at h1 <;> omega
  · intro l b f _; simp [sizeL]
  · intro t r ht hr l b f hL
    obtain ⟨h1, h2⟩ := lookL_cons hL
    have a1 := ht _ _ h1
    have a2 := hr _ _ _ h2
    rw [sizeL, List.length_cons, Nat.add_mul]
    omega

theorem look_size24 {d b : Int} {t : T} (h : look d t b 24 = 0) : size t ≤ 140737488355328 := by
  have := (look_size d).1 t b 24 h
  have e : (4 : Nat) ^ 24 = 281474976710656 := by decide
  omega

set_option maxHeartbeats 400000 in
theorem wrong_any (t : T) (b d : Int) (w : World) (s : Value) (hs : argsIn w w.heap.size t s) (hb0 : 0 ≤ b) (hb1 : b ≤ 1000000000000000) :
    Calls Tryz.prog 21 #[.agg #[.int .i64 t.k, .int .i64 t.n, s], .int .i64 b, .int .i64 d] w (LookPost (wrong t b d) w) := by
  obtain ⟨A, cap, rfl, h1, h2, h3⟩ := argsIn_iff.1 hs
  have hR : wrong t b d = if look d t b 24 ≠ 0 then look d t b 24 else if 60 < size t then 4 else 0 := rfl
  have HR := Lib.hid hR
  clear hR
  generalize wrong t b d = R at *
  clear h3
  go_enter Tryz.func21, Tryz.ntmps21
  go_wp2_with fail
  have hb := (Below.refl w.heap.size w).alloc (Nat.le_refl _) (Obj.cells #[Value.int IntKind.i64 t.k, Value.int IntKind.i64 t.n, Value.slice A t.al.length cap] 30)
  refine (look_any d t b 24 1 _ _ (hs.keep hb.size hb) hb0 (by omega) (by omega)).mono ?_
  rintro e w1 ⟨rfl, hbl⟩
  obtain ⟨q0, q1, q2, hbw⟩ := box3 hbl
  clear hbl hb
  by_cases hz : look d t b 24 = 0
  · have hsz := look_size24 hz
    have hR := HR.out
    rw [if_neg (fun h => h hz)] at hR
    have HR2 := Lib.hid hR
    have hz' : (look d t b 24 == 0) = true := by simpa using hz
    clear hR HR hz
    generalize look d t b 24 = q at *
    go_wp2_with fail
    refine (size_any t _ _ (hs.keep hbw.size hbw) hsz).mono ?_
    rintro e w2 ⟨rfl, hb2⟩
    have hbw2 := hbw.trans (hb2.mono hbw.size)
    clear hb2
    by_cases hg : 60 < size t
    · have hR := HR2.out
      rw [if_pos hg] at hR
      subst hR
      have hg' : (60 : Int) < (size t : Int) := by omega
      go_wp2_with fail
      go_ret
      exact ⟨rfl, hbw2⟩
    · have hR := HR2.out
      rw [if_neg hg] at hR
      subst hR
      have hg' : ¬ (60 : Int) < (size t : Int) := by omega
      go_wp2_with fail
      go_ret
      exact ⟨rfl, hbw2⟩
  · have hR := HR.out
    rw [if_pos hz] at hR
    subst hR
    have hz' : (look d t b 24 == 0) = false := by simpa using hz
    clear HR hz
    generalize look d t b 24 = q at *
    go_wp2_with fail
    go_ret
    exact ⟨rfl, hbw⟩
end Go.Proofs.YtjboibbgigkhkaaGreatDoor

