import Derived.Test.YtjboibbgigkhkaaGet
namespace Go.Proofs.Ytjboibbgigkhkaa
open Go.RowKit

set_option maxHeartbeats 1000000 in
theorem get1_any (l : List UInt8) (w : World) (v : Value) (hv : bytesIn w w.heap.size l v) (hl : l.length ≤ 140737488355328) :
    Calls Try.prog 7 #[v] w (GetPost (getT 24 l) w) := by
  have hget := fun w h1 h2 => get_any 24 l 1 w v h1 (by omega) h2 hl
  generalize getT 24 l = R at hget ⊢
  go_enter Try.func7, Try.ntmps7
  go_wp2_with fail
  have hb := (Below.refl w.heap.size w).alloc (Nat.le_refl _) (.cells #[.int .i64 0, .int .i64 0, .slice none 0 0] 24)
  refine (hget _ (hv.keep hb.size hb) (by omega)).mono ?_
  intro e w1 hpost
  clear hget
  cases R with
  | error c =>
    obtain ⟨rfl, hbe⟩ := hpost
    have hB := (Blk.new w 24 #[.int .i64 0, .int .i64 0, .slice none 0 0]).below hbe (by simp)
    obtain ⟨⟨c0, c1, c2⟩, f0, f1, f2⟩ := hB.three
    have hb1 := hb.trans (hbe.mono hb.size)
    unfold noTerm
    clear hv hb hbe
    go_wp2_with fail
    refine bodyPost_ret (v := noTerm c) (by simp [results, Try.results7, go_sem, noTerm, c0, c1, c2]) rfl ⟨rfl, ?_⟩
    exact ((hb1.setCell (Nat.le_refl _) _).setCell (Nat.le_refl _) _).setCell (Nat.le_refl _) _
  | ok tr =>
    obtain ⟨t, r⟩ := tr
    obtain ⟨s, v1, rfl, ht, hr, hbe⟩ := hpost
    obtain ⟨A, cap, rfl, -⟩ := argsInS_iff.1 ht
    have hB := (Blk.new w 24 #[.int .i64 0, .int .i64 0, .slice none 0 0]).below hbe (by simp)
    obtain ⟨⟨c0, c1, c2⟩, f0, f1, f2⟩ := hB.three
    have hb1 := hb.trans (hbe.mono hb.size)
    have HT := Lib.hid ht
    have HR := Lib.hid hr
    clear hv hb hbe ht hr
    go_wp2_with fail
    have hsz : (((w1.setCell ⟨w.heap.size, 0, none⟩ (.int .i64 t.k)).setCell ⟨w.heap.size, 1, none⟩ (.int .i64 t.n)).setCell ⟨w.heap.size, 2, none⟩ (.slice A t.al.length cap)).heap.size = w1.heap.size := by simp [World.setCell]
    have hS : ∀ b, newFrom (w.alloc (.cells #[.int .i64 0, .int .i64 0, .slice none 0 0] 24)) w1 b → newFrom w (((w1.setCell ⟨w.heap.size, 0, none⟩ (.int .i64 t.k)).setCell ⟨w.heap.size, 1, none⟩ (.int .i64 t.n)).setCell ⟨w.heap.size, 2, none⟩ (.slice A t.al.length cap)) b := by
      intro b hb
      obtain ⟨h1, h2⟩ := hb
      simp at h1
      exact ⟨by omega, by rw [hsz]; exact h2⟩
    have hc : ∀ p : Addr, newFrom (w.alloc (.cells #[.int .i64 0, .int .i64 0, .slice none 0 0] 24)) w1 p.block → (((w1.setCell ⟨w.heap.size, 0, none⟩ (.int .i64 t.k)).setCell ⟨w.heap.size, 1, none⟩ (.int .i64 t.n)).setCell ⟨w.heap.size, 2, none⟩ (.slice A t.al.length cap)).cell? p = w1.cell? p := by
      intro p hp
      have hne : p.block ≠ w.heap.size := by have := hp.1; simp at this; omega
      exact World.cell?_of_block (by rw [Below.heap_setCell _ _ _ _ hne, Below.heap_setCell _ _ _ _ hne, Below.heap_setCell _ _ _ _ hne])
    refine bodyPost_ret (v := .tuple #[.agg #[.int .i64 t.k, .int .i64 t.n, .slice A t.al.length cap], v1, .int .i64 0]) (by simp [results, Try.results7, go_sem, c0, c1, c2]) rfl ⟨_, _, rfl, HT.out.keep hS hc, HR.out.keep hS hc, ?_⟩
    exact ((hb1.setCell (Nat.le_refl _) _).setCell (Nat.le_refl _) _).setCell (Nat.le_refl _) _
end Go.Proofs.Ytjboibbgigkhkaa
