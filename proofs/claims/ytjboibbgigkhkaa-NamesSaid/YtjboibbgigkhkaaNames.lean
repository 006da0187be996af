/- The closed law Names answers true: each constant has its value. No condition. -/
import Derived.Test.YtjboibbgigkhkaaRows
import Derived.WalkKit
import Derived.WalkSpells
import Derived.WalkLawsBesides
import Derived.Deep.QuietTactic
import Derived.BigQuiet
import Derived.Lib.Hide
namespace Go.Proofs.Ytjboibbgigkhkaa
open Go.RowKit

def errsCells : Array Value := #[Value.int IntKind.i64 0, Value.int IntKind.i64 1, Value.int IntKind.i64 2, Value.int IntKind.i64 3, Value.int IntKind.i64 4, Value.int IntKind.i64 5, Value.int IntKind.i64 6, Value.int IntKind.i64 7, Value.int IntKind.i64 8, Value.int IntKind.i64 9, Value.int IntKind.i64 10, Value.int IntKind.i64 11, Value.int IntKind.i64 12, Value.int IntKind.i64 13]
def wantList : List Int := [1, 2, 3, 4, 5, 6, 7, 8, 9, 10, 11, 12, 13, 14, 15, 16, 17, 18, 60, 3, 12, 8, 1500, 24, 8]
def wantCells : Array Value := #[Value.int IntKind.i64 1, Value.int IntKind.i64 2, Value.int IntKind.i64 3, Value.int IntKind.i64 4, Value.int IntKind.i64 5, Value.int IntKind.i64 6, Value.int IntKind.i64 7, Value.int IntKind.i64 8, Value.int IntKind.i64 9, Value.int IntKind.i64 10, Value.int IntKind.i64 11, Value.int IntKind.i64 12, Value.int IntKind.i64 13, Value.int IntKind.i64 14, Value.int IntKind.i64 15, Value.int IntKind.i64 16, Value.int IntKind.i64 17, Value.int IntKind.i64 18, Value.int IntKind.i64 60, Value.int IntKind.i64 3, Value.int IntKind.i64 12, Value.int IntKind.i64 8, Value.int IntKind.i64 1500, Value.int IntKind.i64 24, Value.int IntKind.i64 8]

theorem errs_at : ∀ k : Nat, k < 14 → errsCells[k]? = some (.int .i64 k) := by
  intro k hk
  have : k = 0 ∨ k = 1 ∨ k = 2 ∨ k = 3 ∨ k = 4 ∨ k = 5 ∨ k = 6 ∨ k = 7 ∨ k = 8 ∨ k = 9 ∨ k = 10 ∨ k = 11 ∨ k = 12 ∨ k = 13 := by omega
  rcases this with h | h | h | h | h | h | h | h | h | h | h | h | h | h <;> subst h <;> rfl
theorem want_at : ∀ k : Nat, k < 25 → wantCells[k]? = some (.int .i64 (wantList.getD k 0)) := by
  intro k hk
  have e : wantCells = (wantList.map (Value.int .i64)).toArray := rfl
  have hl : k < wantList.length := hk
  rw [e, List.getElem?_toArray, List.getElem?_map, List.getElem?_eq_getElem hl, List.getD_eq_getElem?_getD, List.getElem?_eq_getElem hl]
  rfl

set_option maxHeartbeats 400000 in
theorem names_walk (w : World) : Calls Try.prog 4 #[] w fun e w' => e = .returned (.bool true) ∧ Below w.heap.size w w' := by
  have hc : ∀ k : Nat, k < 14 → (w.alloc (Obj.cells errsCells 29)).cell? ⟨w.heap.size, k, none⟩ = some (.int .i64 k) := by
    intro k hk
    rw [World.cell?_alloc_at _ _ _ _ rfl]
    exact errs_at k hk
  have hd : ∀ k : Nat, k < 25 → (((w.alloc (Obj.cells errsCells 29)).alloc (Obj.cells wantCells 3)).alloc (Obj.cells wantCells 3)).cell? ⟨w.heap.size + 1 + 1, k, none⟩ = some (.int .i64 (wantList.getD k 0)) := by
    intro k hk
    rw [World.cell?_alloc_at _ _ _ _ (by simp)]
    exact want_at k hk
  have he : ∀ k : Nat, k < 25 → (((w.alloc (Obj.cells errsCells 29)).alloc (Obj.cells wantCells 3)).alloc (Obj.cells wantCells 3)).cell? ⟨w.heap.size + 1, k, none⟩ = some (.int .i64 (wantList.getD k 0)) := by
    intro k hk
    rw [World.cell?_alloc_past _ _ _ (by simp), World.cell?_alloc_at _ _ _ _ (by simp)]
    exact want_at k hk
  have hb : Below w.heap.size w (((w.alloc (Obj.cells errsCells 29)).alloc (Obj.cells wantCells 3)).alloc (Obj.cells wantCells 3)) :=
    (((Below.refl _ _).alloc (Nat.le_refl _) _).alloc (by simp) _).alloc (by simp; omega) _
  have HD := Lib.hid hd
  have HE := Lib.hid he
  clear hd he
  unfold errsCells at hc
  go_enter Try.func4, Try.ntmps4
  go_wp2
  go_loop [10] (fun i => ∃ k : Nat, k ≤ 14 ∧ i = .int .i64 k) (fun i => 14 - (intOf i).toNat)
  case atStart => exact ⟨0, by omega, rfl⟩
  case round =>
    obtain ⟨k, hk, rfl⟩ := hrel
    by_cases hlt : k < 14
    · have hck := hc k hlt
      go_wp2
      go_round
      case rel => exact ⟨k + 1, by omega, by go_num⟩
      case measure => simp [intOf]; omega
    · obtain rfl : k = 14 := by omega
      clear hc
      go_wp2
      go_loopw [23] (fun i wr => ∃ k : Nat, k ≤ 25 ∧ i = .int .i64 k ∧ (∀ k : Nat, k < 25 → wr.cell? ⟨w.heap.size + 1 + 1, k, none⟩ = some (.int .i64 (wantList.getD k 0))) ∧ (∀ k : Nat, k < 25 → wr.cell? ⟨w.heap.size + 1, k, none⟩ = some (.int .i64 (wantList.getD k 0))) ∧ Below w.heap.size w wr) (fun i _ => 25 - (intOf i).toNat)
      case atStart => exact ⟨0, by omega, rfl, HD.out, HE.out, hb⟩
      case round =>
        obtain ⟨k, hk, rfl, h1, h2, h3⟩ := hrel
        clear hb HD HE
        by_cases hlt : k < 25
        · have hck := h1 k hlt
          have hck2 := h2 k hlt
          have H1 := Lib.hid h1
          have H2 := Lib.hid h2
          clear h1 h2
          generalize wantList.getD k 0 = c at *
          go_wp2
          go_quiet (fail)
          go_wp2
          go_roundw
          case rel => exact ⟨k + 1, by omega, by go_num, H1.out, H2.out, ⟨h3.os, h3.tape, h3.output, h3.size, h3.block⟩⟩
          case measure => simp [intOf]; omega
        · obtain rfl : k = 25 := by omega
          clear h1 h2
          go_wp2
          go_ret
          exact ⟨rfl, h3⟩
end Go.Proofs.Ytjboibbgigkhkaa
