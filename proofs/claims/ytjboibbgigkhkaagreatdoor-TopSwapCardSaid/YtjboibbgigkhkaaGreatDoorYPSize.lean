import Derived.Test.YtjboibbgigkhkaaGreatDoorYMem
import Derived.WalkSpells
import Derived.WalkLawsBesides
namespace Go.Proofs.YtjboibbgigkhkaaGreatDoor
open Go.RowKit

set_option maxHeartbeats 400000 in
theorem psize_any (t : T) : ∀ (w : World) (s : Value), argsIn w w.heap.size t s → size t ≤ 140737488355328 →
    Calls Tryz.prog 108 #[.agg #[.int .i64 t.k, .int .i64 t.n, s]] w fun e w' => e = .returned (.int .i64 (size t)) ∧ Below w.heap.size w w' := by
  induction t using T.ind_args with
  | _ t ih =>
  intro w s hs hz
  obtain ⟨A, cap, rfl, h1, h2, h3⟩ := argsIn_iff.1 hs
  have hse := size_eq t
  have hll := length_le_sizeL t.al
  have HS := Lib.hid hse
  have IH := Lib.hid ih
  have H3 := Lib.hid h3
  have hbig : sizeL t.al ≤ 140737488355327 := by omega
  clear hse ih h3 hs hz
  generalize hal : t.al = al at *
  clear hal
  go_enter Tryz.func108, Tryz.ntmps108
  go_wp2_with fail
  go_loopw [3, 9] (fun n i wr => ∃ k : Nat, k ≤ al.length ∧ i = .int .i64 k ∧ n = .int .i64 (1 + sizeL (al.take k) : Nat) ∧ Below w.heap.size w wr) (fun _ i _ => al.length - (intOf i).toNat)
  case atStart => exact ⟨0, by omega, rfl, by simp [sizeL], (Below.refl _ _).alloc (Nat.le_refl _) _⟩
  case round =>
    obtain ⟨k, hk, rfl, rfl, hb⟩ := hrel
    have hle := sizeL_take_le (al := al) (k := k)
    by_cases hlt : k < al.length
    · obtain ⟨x, hx⟩ := length_getElem hlt
      obtain ⟨b, off, rfl, hbb, hc⟩ := H3.out (by intro e; subst e; simp at hlt)
      obtain ⟨A1, cap1, c1, c2, c3, c4⟩ := hc.at_ hx
      rw [← hb.cell (p := ⟨b, _, none⟩) hbb] at c1 c2 c3
      go_wp2_with fail
      have hb1 := hb.alloc hb.size (Obj.cells #[Value.int IntKind.i64 x.k, Value.int IntKind.i64 x.n, Value.slice A1 x.al.length cap1] 30)
      have hsx := size_at_le hx
      have hst := sizeL_take_succ hx
      have hsl := sizeL_take_le (al := al) (k := k + 1)
      have HST := Lib.hid hst
      refine (IH.out x (List.mem_of_getElem? hx) _ _ (c4.keep hb1.size hb1) (by omega)).mono ?_
      rintro e w2 ⟨rfl, hb2⟩
      have hb3 := hb1.trans (hb2.mono hb1.size)
      clear hb1 hb2 c1 c2 c3 c4 hc hst
      go_wp2_with fail
      go_roundw
      case rel => exact ⟨k + 1, by omega, by go_num, by rw [HST.out]; go_num, hb3⟩
      case measure => simp [intOf]; omega
    · obtain rfl : k = al.length := by omega
      go_wp2_with fail
      go_ret
      exact ⟨by rw [HS.out, List.take_length]; rfl, hb⟩
end Go.Proofs.YtjboibbgigkhkaaGreatDoor

