/- slices.Backward over texts: the iterator's contract (the shelf's worked text over slices.All, turned to it). -/
import Derived.Test.YtjboibbgigkhkaaDoorPWords
import Derived.RangeFuncBox
import Derived.RangeFuncLeaves
import Derived.RangeFuncNested
import Derived.RangeFuncBound
import Derived.Shelf.Abstract
import Derived.WalkKit
import Derived.OwnWalkIn
import Derived.TacticsInMore
import Derived.LoopNIn
import Derived.LoopIn
namespace Go.Proofs.YtjboibbgigkhkaaDoor
open Go.RowKit
open Go.Shelf

attribute [local go_sem] Oper.semAt_some

/-- what has come when k rounds are over -/
def upto {α : Type} (f : Nat → α) (k : Nat) : List α := (List.range k).map f
theorem upto_succ {α : Type} (f : Nat → α) (k : Nat) : upto f (k + 1) = upto f k ++ [f k] := by simp [upto, List.range_succ]
theorem upto_length {α : Type} (f : Nat → α) (k : Nat) : (upto f k).length = k := by simp [upto]

/-- what comes of a list, the last one first, each with its place -/
def backOf (zs : List Str) (k : Nat) : Nat × Str := (zs.length - 1 - k, zs[zs.length - 1 - k]?.getD [])

def encB (x : Nat × Str) : Array Value := #[Value.int .i64 (x.1 : Int), Value.string ⟨x.2.toArray⟩]

set_option maxRecDepth 100000 in
set_option maxHeartbeats 2000000 in
theorem back1_in (F : Fence) (n : Nat) (h9 : F.fn 90) (hro : F.round = none) (hn : 1 ≤ n) (l Bs n₀ : Nat) (A : Option Addr) (cap : Nat) (zs : List Str) (hreach : zs.length ≤ 1000000000000)
    (J Jx : List (Nat × Str) → World → Prop)
    (hY : ∀ pre x W, J pre W → pre.length < zs.length → YieldAt F (n - 1) Tryd.prog l #[.int .i64 (x.1 : Int), .string ⟨x.2.toArray⟩] W fun e W' =>
      (e = .returned (.bool true) ∧ J (pre ++ [x]) W' ∧ Below n₀ W W') ∨ (e = .returned (.bool false) ∧ Jx (pre ++ [x]) W'))
    (W : World) (hBs : W.cell? ⟨Bs, 0, none⟩ = some (.slice A zs.length cap)) (hBn : Bs < n₀ ) (hc : zs ≠ [] → ∃ b off, A = some ⟨b, off, none⟩ ∧ b < n₀ ∧ ∀ j s, zs[j]? = some s → W.cell? ⟨b, off + j, none⟩ = some (.string ⟨s.toArray⟩)) (h0 : J [] W) :
    CallsIn F n Tryd.prog 90 #[.func (.yield l) #[] #[], .pointer (some ⟨Bs, 0, none⟩)] W fun e W' => (∃ v, e = .returned v) ∧
      ((∃ ys, ys = upto (backOf zs) zs.length ∧ J ys W') ∨ (∃ pre, (∃ k, k ≤ zs.length ∧ pre = upto (backOf zs) k) ∧ Jx pre W')) := by
  refine callsIn_of_wp Tryd.func90 rfl h9 ?_ hro
  simp only [Tryd.ntmps90, List.size_toArray, List.length_cons, List.length_nil, Nat.reduceAdd, Nat.reduceSub, Array.replicate_succ, Array.replicate_zero, List.push_toArray, List.append_toArray, List.nil_append, List.cons_append]
  have HC := Lib.hid hc
  clear hc
  gi_wp2
  gi_loopw [3] (fun i wr => ∃ m : Nat, m ≤ zs.length ∧ i = .int .i64 ((m : Int) - 1) ∧ J (upto (backOf zs) (zs.length - m)) wr ∧ Below n₀ W wr)
    (fun i _ => (intOf i + 1).toNat)
  case atStart => exact ⟨zs.length, Nat.le_refl _, by go_num, by rw [Nat.sub_self]; exact h0, Below.refl _ _⟩
  case round =>
    obtain ⟨m, hm, hi, hJs, hnx⟩ := hrel
    have hBs2 := (hnx.cell (p := ⟨Bs, 0, none⟩) hBn).trans hBs
    cases m with
    | zero =>
      obtain rfl := hi
      gi_wp2
      go_end0
      exact ⟨⟨_, rfl⟩, .inl ⟨_, rfl, by simpa using hJs⟩⟩
    | succ i =>
      have hv := hi.trans (show Value.int .i64 (((i + 1 : Nat) : Int) - 1) = .int .i64 (i : Int) by congr 1; omega)
      clear hi
      subst hv
      obtain ⟨b, off, hA, hb, hcs⟩ := HC.out (by intro e; rw [e] at hm; simp at hm)
      subst hA
      have hlt : i < zs.length := by omega
      have hcx := (hnx.cell (p := ⟨b, off + i, none⟩) hb).trans (hcs i zs[i] (List.getElem?_eq_getElem hlt))
      obtain ⟨fn, tmps, assign, body, hy, hR⟩ := hY _ (i, zs[i]) wr hJs (by rw [upto_length]; omega)
      dsimp only at hy
      have HU := Lib.hid (show upto (backOf zs) (zs.length - (i + 1)) ++ [(i, zs[i])] = upto (backOf zs) (zs.length - i) from by
        rw [show zs.length - i = (zs.length - (i + 1)) + 1 by omega, upto_succ]
        congr 2
        unfold backOf
        rw [show zs.length - 1 - (zs.length - (i + 1)) = i by omega, List.getElem?_eq_getElem hlt]; rfl)
      clear hcs
      gi_wp2
      refine hR.mono ?_
      rintro e W3 (⟨rfl, hJ3, hk3⟩ | ⟨rfl, hJx3⟩)
      · gi_wp2
        go_roundw
        case rel => exact ⟨i, by omega, by go_num, by rw [← HU.out]; exact hJ3, hnx.trans hk3⟩
        case measure => simp [intOf]
      · gi_wp2
        refine bodyPost_ret (results_none rfl _ _ _) rfl ?_
        exact ⟨⟨_, rfl⟩, .inr ⟨_, ⟨zs.length - i, by omega, HU.out⟩, hJx3⟩⟩

set_option maxHeartbeats 1000000 in
theorem back_in (F : Fence) (n : Nat) (h5 : F.fn 73) (hro : F.round = none) (a : Option Addr) (len cap : Nat) (w : World) :
    CallsIn F n Tryd.prog 73 #[.slice a len cap] w fun e w' => e = .returned (.func (.func 90) #[] #[.pointer (some ⟨w.heap.size, 0, none⟩)]) ∧ w' = w.alloc (.cells #[.slice a len cap] 36) := by
  refine callsIn_of_wp Tryd.func73 rfl h5 ?_ hro
  simp only [Tryd.ntmps73, List.size_toArray, List.length_cons, List.length_nil, Nat.reduceAdd, Nat.reduceSub, Array.replicate_succ, Array.replicate_zero, List.push_toArray, List.append_toArray, List.nil_append, List.cons_append]
  gi_wp2
  go_ret
  exact ⟨rfl, rfl⟩

theorem back_stops (F : Fence) (n : Nat) (h9 : F.fn 90) (hro : F.round = none) (hn : 1 ≤ n) (Bs n₀ : Nat) (A : Option Addr) (cap : Nat) (zs : List Str) (hreach : zs.length ≤ 1000000000000) (w : World) (hBs : Bs < n₀) (hn₀ : n₀ ≤ w.heap.size)
    (hc : w.cell? ⟨Bs, 0, none⟩ = some (.slice A zs.length cap)) (hI : zs ≠ [] → ∃ b off, A = some ⟨b, off, none⟩ ∧ b < n₀ ∧ ∀ j s, zs[j]? = some s → w.cell? ⟨b, off + j, none⟩ = some (.string ⟨s.toArray⟩)) :
    SeqStopsK F n Tryd.prog 90 #[.pointer (some ⟨Bs, 0, none⟩)] encB (Below n₀) (fun ys => ys = upto (backOf zs) zs.length)
      (fun pre => ∃ k, k ≤ zs.length ∧ pre = upto (backOf zs) k) zs.length w := fun l J Jx W hW _ _ hY h0 => by
  have hW' := hW.mono hn₀
  refine back1_in F n h9 hro hn l Bs n₀ A cap zs hreach J Jx hY W ((hW'.cell (p := ⟨Bs, 0, none⟩) hBs).trans hc) hBs (fun hne => ?_) h0
  obtain ⟨b, off, hA, hb, hcs⟩ := hI hne
  exact ⟨b, off, hA, hb, fun j s hj => (hW'.cell (p := ⟨b, off + j, none⟩) hb).trans (hcs j s hj)⟩
end Go.Proofs.YtjboibbgigkhkaaDoor
