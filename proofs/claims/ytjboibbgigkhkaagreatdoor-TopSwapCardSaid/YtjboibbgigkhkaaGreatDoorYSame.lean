import Derived.Test.YtjboibbgigkhkaaGreatDoorYMem
import Derived.WalkSpells
import Derived.WalkLawsBesides
namespace Go.Proofs.YtjboibbgigkhkaaGreatDoor
set_option maxRecDepth 100000
open Go.RowKit

mutual
def sameT : T → T → Bool
  | .mk k n al, .mk k' n' al' => k == k' && n == n' && al.length == al'.length && sameL al al'
def sameL : List T → List T → Bool
  | [], _ => true
  | a :: r, l => match l with
    | [] => true
    | b :: s => sameT a b && sameL r s
end

theorem sameT_eq (a b : T) : sameT a b = (a.k == b.k && a.n == b.n && a.al.length == b.al.length && sameL a.al b.al) := by
  cases a; cases b; rfl

theorem same_iff : (∀ a b : T, sameT a b = true ↔ a = b) ∧ (∀ (al bl : List T), al.length = bl.length → (sameL al bl = true ↔ al = bl)) := by
  refine T.ind (P := fun a => ∀ b, sameT a b = true ↔ a = b) (Q := fun al => ∀ bl, al.length = bl.length → (sameL al bl = true ↔ al = bl)) ?_ ?_ ?_
  · intro k n al h b
    obtain ⟨k', n', bl⟩ := b
    simp only [sameT, Bool.and_eq_true, beq_iff_eq, T.mk.injEq]
    constructor
    · rintro ⟨⟨⟨rfl, rfl⟩, h3⟩, h4⟩; exact ⟨rfl, rfl, (h bl h3).1 h4⟩
    · rintro ⟨rfl, rfl, rfl⟩; exact ⟨⟨⟨rfl, rfl⟩, rfl⟩, (h al rfl).2 rfl⟩
  · intro bl h
    cases bl with
    | nil => simp [sameL]
    | cons b s => simp at h
  · intro t r ht hr bl h
    cases bl with
    | nil => simp at h
    | cons b s =>
      simp only [sameL, Bool.and_eq_true, List.cons.injEq]
      rw [ht b, hr s (by simpa using h)]

theorem same_refl (a : T) : sameT a a = true := (same_iff.1 a a).2 rfl

theorem sameL_step {al bl : List T} {k : Nat} {x y : T} (hx : al[k]? = some x) (hy : bl[k]? = some y) :
    sameL (al.drop k) (bl.drop k) = (sameT x y && sameL (al.drop (k + 1)) (bl.drop (k + 1))) := by
  have h1 : k < al.length := (List.getElem?_eq_some_iff.1 hx).1
  have h2 : k < bl.length := (List.getElem?_eq_some_iff.1 hy).1
  rw [List.drop_eq_getElem_cons h1, List.drop_eq_getElem_cons h2, (List.getElem?_eq_some_iff.1 hx).2, (List.getElem?_eq_some_iff.1 hy).2, sameL]

/-- the world behind a call that answers a bool -/
def BoolPost (r : Bool) (w : World) (e : Ending) (w' : World) : Prop := e = .returned (.bool r) ∧ Below w.heap.size w w'

theorem box33 {w : World} {a b c a' b' c' : Value} {t : TypeId} :
    ((w.alloc (.cells #[a, b, c] t)).alloc (.cells #[a', b', c'] t)).cell? ⟨w.heap.size, 2, none⟩ = some c ∧ ((w.alloc (.cells #[a, b, c] t)).alloc (.cells #[a', b', c'] t)).cell? ⟨w.heap.size + 1, 2, none⟩ = some c' := by
  constructor
  · rw [World.cell?_alloc_past _ _ _ (by simp), World.cell?_alloc_at _ _ _ _ rfl]; rfl
  · rw [World.cell?_alloc_at _ _ _ _ (by simp)]; rfl

set_option maxHeartbeats 1000000 in
theorem same_any (a : T) : ∀ (b : T) (w : World) (s s' : Value), argsIn w w.heap.size a s → argsIn w w.heap.size b s' →
    Calls Tryz.prog 20 #[.agg #[.int .i64 a.k, .int .i64 a.n, s], .agg #[.int .i64 b.k, .int .i64 b.n, s']] w (BoolPost (sameT a b) w) := by
  induction a using T.ind_args with
  | _ a ih =>
  intro b w s s' hs hs'
  obtain ⟨A, cap, rfl, h1, h2, h3⟩ := argsIn_iff.1 hs
  obtain ⟨A', cap', rfl, h1', h2', h3'⟩ := argsIn_iff.1 hs'
  unfold maxLen at h2 h2'
  have IH := Lib.hid ih
  have H3 := Lib.hid h3
  have H3' := Lib.hid h3'
  have hR := sameT_eq a b
  generalize sameT a b = R at *
  clear ih h3 h3' hs hs'
  by_cases ck : a.k = b.k
  · have ckb : (a.k == b.k) = true := by simpa using ck
    by_cases cn : a.n = b.n
    · have cnb : (a.n == b.n) = true := by simpa using cn
      by_cases cl : a.al.length = b.al.length
      · have clb : (a.al.length == b.al.length) = true := by simpa using cl
        rw [ckb, cnb, clb] at hR
        simp only [Bool.true_and] at hR
        have HR := Lib.hid hR
        have HCL := Lib.hid cl
        have ckb2 : (a.k != b.k) = false := by simp [ck]
        have cnb2 : (a.n != b.n) = false := by simp [cn]
        have clb3 : ((a.al.length : Int) != (b.al.length : Int)) = false := by simp [cl]
        clear hR ck cn cl clb
        go_enter Tryz.func20, Tryz.ntmps20
        go_wp2_with fail
        go_loopw [30] (fun i wr => ∃ k : Nat, k ≤ a.al.length ∧ i = .int .i64 k ∧ Hid (sameL (a.al.drop k) (b.al.drop k) = R) ∧ wr.cell? ⟨w.heap.size, 2, none⟩ = some (.slice A a.al.length cap) ∧ wr.cell? ⟨w.heap.size + 1, 2, none⟩ = some (.slice A' b.al.length cap') ∧ w.heap.size + 2 ≤ wr.heap.size ∧ Below w.heap.size w wr) (fun i _ => a.al.length - (intOf i).toNat)
        case atStart => exact ⟨0, by omega, rfl, HR.out.symm, box33.1, box33.2, by simp, ((Below.refl _ _).alloc (Nat.le_refl _) _).alloc (by simp) _⟩
        case round =>
          obtain ⟨k, hk, rfl, hL, q1, q2, hsz, hb⟩ := hrel
          by_cases hlt : k < a.al.length
          · have hlt' : k < b.al.length := by rw [← HCL.out]; exact hlt
            obtain ⟨x, hx⟩ := length_getElem hlt
            obtain ⟨y, hy⟩ := length_getElem hlt'
            obtain ⟨bl, off, hA, hbb, hc⟩ := H3.out (by intro e; rw [e] at hx; simp at hx)
            obtain ⟨bl', off', hA', hbb', hc'⟩ := H3'.out (by intro e; rw [e] at hy; simp at hy)
            obtain ⟨A1, cap1, c1, c2, c3, c4⟩ := hc.at_ hx
            obtain ⟨A2, cap2, d1, d2, d3, d4⟩ := hc'.at_ hy
            rw [← hb.cell (p := ⟨bl, _, none⟩) hbb] at c1 c2 c3
            rw [← hb.cell (p := ⟨bl', _, none⟩) hbb'] at d1 d2 d3
            subst hA hA'
            have hxm := List.mem_of_getElem? hx
            have hLs := sameL_step hx hy
            rw [hL.out] at hLs
            have HLS := Lib.hid hLs
            clear hc hc' hx hy hLs hL
            go_wp2_with fail
            refine still_tail 10 (by kernel_rfl) (by kernel_rfl) ?_
            simp only [List.take_succ_cons, List.take_zero, List.drop_succ_cons, List.drop_zero]
            repeat still_step
            try refine wpStill_nil ?_
            go_wp2_with fail
            refine (IH.out x hxm y _ _ _ (c4.keep hb.drew.size hb.drew) (d4.keep hb.drew.size hb.drew)).mono ?_
            rintro e w2 ⟨rfl, hb2⟩
            have hb3 : Below w.heap.size w w2 := hb.drew.trans (hb2.mono hb.size)
            have p1 := (hb2.cell (p := ⟨w.heap.size, 2, none⟩) (show w.heap.size < wr.heap.size by omega)).trans q1
            have p2 := (hb2.cell (p := ⟨w.heap.size + 1, 2, none⟩) (show w.heap.size + 1 < wr.heap.size by omega)).trans q2
            have hsz3 : w.heap.size + 2 ≤ w2.heap.size := by have := hb2.size; simp at this; omega
            clear hb2 c1 c2 c3 c4 d1 d2 d3 d4 q1 q2
            by_cases hz : sameT x y = true
            · have hLs := HLS.out
              rw [hz, Bool.true_and] at hLs
              have HLs2 := Lib.hid hLs
              clear hLs HLS
              generalize sameT x y = q at *
              subst hz
              go_wp2_with fail
              go_roundw
              case rel => exact ⟨k + 1, by omega, by go_num, HLs2.out.symm, p1, p2, hsz3, hb3⟩
              case measure => simp [intOf]; omega
            · have hz2 : sameT x y = false := by simpa using hz
              have hLs := HLS.out
              rw [hz2, Bool.false_and] at hLs
              clear HLS hz
              generalize sameT x y = q at *
              subst hz2 hLs
              go_wp2_with fail
              go_ret
              exact ⟨rfl, hb3⟩
          · obtain rfl : k = a.al.length := by omega
            have hR : R = true := by rw [← hL.out, List.drop_eq_nil_of_le (Nat.le_refl _)]; rfl
            subst hR
            clear hL
            go_wp2_with fail
            go_ret
            exact ⟨rfl, hb⟩
      · have clb : (a.al.length == b.al.length) = false := by simpa using cl
        rw [clb] at hR
        simp only [Bool.and_false, Bool.false_and] at hR
        subst hR
        have clb2 : ((a.al.length : Int) == (b.al.length : Int)) = false := by simp; omega
        have ckb2 : (a.k != b.k) = false := by simp [ck]
        have cnb2 : (a.n != b.n) = false := by simp [cn]
        have clb3 : ((a.al.length : Int) != (b.al.length : Int)) = true := by simp; omega
        clear ck cn cl clb
        go_enter Tryz.func20, Tryz.ntmps20
        go_wp2_with fail
        go_ret
        exact ⟨rfl, ((Below.refl _ _).alloc (Nat.le_refl _) _).alloc (by simp) _⟩
    · have cnb : (a.n == b.n) = false := by simpa using cn
      rw [cnb] at hR
      simp only [Bool.and_false, Bool.false_and] at hR
      subst hR
      have ckb2 : (a.k != b.k) = false := by simp [ck]
      have cnb2 : (a.n != b.n) = true := by simp [cn]
      clear ck cn
      go_enter Tryz.func20, Tryz.ntmps20
      go_wp2_with fail
      go_ret
      exact ⟨rfl, ((Below.refl _ _).alloc (Nat.le_refl _) _).alloc (by simp) _⟩
  · have ckb : (a.k == b.k) = false := by simpa using ck
    rw [ckb] at hR
    simp only [Bool.false_and] at hR
    subst hR
    have ckb2 : (a.k != b.k) = true := by simp [ck]
    clear ck
    go_enter Tryz.func20, Tryz.ntmps20
    go_wp2_with fail
    go_ret
    exact ⟨rfl, ((Below.refl _ _).alloc (Nat.le_refl _) _).alloc (by simp) _⟩
end Go.Proofs.YtjboibbgigkhkaaGreatDoor

