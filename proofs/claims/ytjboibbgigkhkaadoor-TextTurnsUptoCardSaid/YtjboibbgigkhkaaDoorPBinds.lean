/- term.Binds: the numbers lie in a new row; text.names. -/
import Derived.Test.YtjboibbgigkhkaaDoorPNm
namespace Go.Proofs.YtjboibbgigkhkaaDoor
open Go.RowKit
set_option maxRecDepth 100000

/-- the slice value s holds these small numbers, in a block from lo on -/
def intsN (lo : Nat) (w : World) (l : List Nat) (s : Value) : Prop := ∃ A cap, s = .slice A l.length cap ∧ ∀ i x, l[i]? = some x → ∃ b off, A = some ⟨b, off, none⟩ ∧ lo ≤ b ∧ b < w.heap.size ∧ w.cell? ⟨b, off + i, none⟩ = some (.int .i64 (x : Nat))

theorem intsN.but {lo R n : Nat} {w w' : World} {l : List Nat} {s : Value} (h : intsN lo w l s) (hR : R < lo) (hn : w.heap.size ≤ n) (hb : But R n w w') : intsN lo w' l s := by
  obtain ⟨A, cap, h1, h2⟩ := h
  refine ⟨A, cap, h1, fun i x hx => ?_⟩
  obtain ⟨b, off, e, hlo, hlt, hc⟩ := h2 i x hx
  exact ⟨b, off, e, hlo, Nat.lt_of_lt_of_le hlt hb.size, (hb.cell (p := ⟨b, _, none⟩) (Nat.lt_of_lt_of_le hlt hn) (by simp; omega)).trans hc⟩
theorem intsN_nil (w : World) (lo : Nat) : intsN lo w [] (.slice none 0 0) := ⟨none, 0, rfl, fun i x h => by simp at h⟩
theorem intsN_new (w : World) (l : List Nat) (t : TypeId) : intsN w.heap.size (w.alloc (.cells (l.map fun x => Value.int .i64 (x : Nat)).toArray t)) l (.slice (some ⟨w.heap.size, 0, none⟩) l.length l.length) := by
  refine ⟨_, _, rfl, fun i x hx => ⟨w.heap.size, 0, rfl, Nat.le_refl _, by simp, ?_⟩⟩
  rw [World.cell?_alloc_at _ _ _ _ rfl]
  simp [hx]

def BindsNew (k : Int) (w : World) (e : Ending) (w' : World) : Prop := ∃ s, e = .returned (.tuple #[s, .bool (shape k).isSome]) ∧ intsN w.heap.size w' ((shape k).getD []) s ∧ Below w.heap.size w w'

set_option maxHeartbeats 1600000 in
theorem binds_new (k : Int) (w : World) :
    Calls Tryd.prog 20 #[.int .i64 k] w (BindsNew k w) := by
  by_cases h1 : k < 1
  · have hp : ∀ w' : World, Below w.heap.size w w' → BindsNew k w (.returned (.tuple #[.slice none 0 0, .bool false])) w' := fun w' hb => ⟨_, by rw [shape_out_none (.inl h1)]; rfl, by rw [shape_out_none (.inl h1)]; exact intsN_nil _ _, hb⟩
    go_enter Tryd.func20, Tryd.ntmps20
    go_wp2
    go_ret2
    exact hp _ (Below.refl _ _)
  · by_cases h2 : 18 < k
    · have hp : ∀ w' : World, Below w.heap.size w w' → BindsNew k w (.returned (.tuple #[.slice none 0 0, .bool false])) w' := fun w' hb => ⟨_, by rw [shape_out_none (.inr h2)]; rfl, by rw [shape_out_none (.inr h2)]; exact intsN_nil _ _, hb⟩
      go_enter Tryd.func20, Tryd.ntmps20
      go_wp2
      go_ret2
      exact hp _ (Below.refl _ _)
    · have hk : k = 1 ∨ k = 2 ∨ k = 3 ∨ k = 4 ∨ k = 5 ∨ k = 6 ∨ k = 7 ∨ k = 8 ∨ k = 9 ∨ k = 10 ∨ k = 11 ∨ k = 12 ∨ k = 13 ∨ k = 14 ∨ k = 15 ∨ k = 16 ∨ k = 17 ∨ k = 18 := by omega
      clear h1 h2
      rcases hk with h | h | h | h | h | h | h | h | h | h | h | h | h | h | h | h | h | h <;> subst h
      all_goals
        go_enter Tryd.func20, Tryd.ntmps20
        go_wp2
        go_ret2
        first
          | exact ⟨_, rfl, intsN_nil _ _, Below.refl _ _⟩
          | exact ⟨_, rfl, intsN_new w [0] _, (Below.refl _ _).alloc (Nat.le_refl _) _⟩
          | exact ⟨_, rfl, intsN_new w [0, 1] _, (Below.refl _ _).alloc (Nat.le_refl _) _⟩
          | exact ⟨_, rfl, intsN_new w [0, 0] _, (Below.refl _ _).alloc (Nat.le_refl _) _⟩
          | exact ⟨_, rfl, intsN_new w [0, 1, 0, 0] _, (Below.refl _ _).alloc (Nat.le_refl _) _⟩
          | exact ⟨_, rfl, intsN_new w [1, 0, 2, 0] _, (Below.refl _ _).alloc (Nat.le_refl _) _⟩
theorem pnames_new (k : Int) (w : World) : Calls Tryd.prog 36 #[.int .i64 k] w (fun e w' => ∃ s, e = .returned s ∧ intsN w.heap.size w' ((shape k).getD []) s ∧ Below w.heap.size w w') := by
  have HC := Lib.hid (binds_new k w)
  go_enter Tryd.func36, Tryd.ntmps36
  go_wp2_with fail
  refine HC.out.mono ?_
  rintro e w1 ⟨s, rfl, hi, hb⟩
  have HI := Lib.hid hi
  obtain ⟨A, cap, rfl, -⟩ := hi
  clear HC
  go_wp2_with fail
  go_ret
  exact ⟨_, rfl, HI.out, hb⟩

end Go.Proofs.YtjboibbgigkhkaaDoor
