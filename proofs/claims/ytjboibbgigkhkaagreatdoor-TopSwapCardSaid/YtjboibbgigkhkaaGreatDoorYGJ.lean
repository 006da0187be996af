/- slices.Backward over texts: the iterator's contract (the shelf's worked text over slices.All, turned to it). -/
import Derived.Test.YtjboibbgigkhkaaGreatDoorYGI
import Derived.RangeFuncBox
import Derived.RangeFuncLeaves
import Derived.RangeFuncNested
import Derived.RangeFuncBound
import Derived.Shelf.Abstract
import Derived.WalkKit
import Derived.OwnWalkIn
import Derived.TacticsInMore
import Derived.LoopNIn
import Derived.LoopIn
namespace Go.Proofs.YtjboibbgigkhkaaGreatDoor
open Go.RowKit
open Go.Shelf

attribute [local go_sem] Oper.semAt_some

/-- what has come when k rounds are over -/
def upto {α : Type} (f : Nat → α) (k : Nat) : List α := (List.range k).map f
theorem upto_succ {α : Type} (f : Nat → α) (k : Nat) : upto f (k + 1) = upto f k ++ [f k] := by simp [upto, List.range_succ]
theorem upto_length {α : Type} (f : Nat → α) (k : Nat) : (upto f k).length = k := by simp [upto]

/-- what comes of a list, the last one first, each with its place -/
def backOf (zs : List Str) (k : Nat) : Nat × Str := (zs.length - 1 - k, zs[zs.length - 1 - k]?.getD [])

def encB (x : Nat × Str) : Array Value := #[Value.int .i64 (x.1 : Int), Value.string ⟨x.2.toArray⟩]

set_option maxRecDepth 100000 in
set_option maxHeartbeats 2000000 in
theorem back1_in (F : Fence) (n : Nat) (h9 : F.fn 123) (hro : F.round = none) (hn : 1 ≤ n) (l Bs n₀ : Nat) (A : Option Addr) (cap : Nat) (zs : List Str) (hreach : zs.length ≤ 1000000000000)
    (J Jx : List (Nat × Str) → World → Prop)
    (hY : ∀ pre x W, J pre W → pre.length < zs.length → YieldAt F (n - 1) Tryz.prog l #[.int .i64 (x.1 : Int), .string ⟨x.2.toArray⟩] W fun e W' =>
      (e = .returned (.bool true) ∧ J (pre ++ [x]) W' ∧ Below n₀ W W') ∨ (e = .returned (.bool false) ∧ Jx (pre ++ [x]) W'))
    (W : World) (hBs : W.cell? ⟨Bs, 0, none⟩ = some (.slice A zs.length cap)) (hBn : Bs < n₀ ) (hc : zs ≠ [] → ∃ b off, A = some ⟨b, off, none⟩ ∧ b < n₀ ∧ ∀ j s, zs[j]? = some s → W.cell? ⟨b, off + j, none⟩ = some (.string ⟨s.toArray⟩)) (h0 : J [] W) :
    CallsIn F n Tryz.prog 123 #[.func (.yield l) #[] #[], .pointer (some ⟨Bs, 0, none⟩)] W fun e W' => (∃ v, e = .returned v) ∧
      ((∃ ys, ys = upto (backOf zs) zs.length ∧ J ys W') ∨ (∃ pre, (∃ k, k ≤ zs.length ∧ pre = upto (backOf zs) k) ∧ Jx pre W')) := by
  refine callsIn_of_wp Tryz.func123 rfl h9 ?_ hro
  simp only [Tryz.ntmps123, List.size_toArray, List.length_cons, List.length_nil, Nat.reduceAdd, Nat.reduceSub, Array.replicate_succ, Array.replicate_zero, List.push_toArray, List.append_toArray, List.nil_append, List.cons_append]
  have HC := Lib.hid hc
  clear hc
  gi_wp2
  gi_loopw [3] (fun i wr => ∃ m : Nat, m ≤ zs.length ∧ i = .int .i64 ((m : Int) - 1) ∧ J (upto (backOf zs) (zs.length - m)) wr ∧ Below n₀ W wr)
    (fun i _ => (intOf i + 1).toNat)
  case atStart => exact ⟨zs.length, Nat.le_refl _, by go_num, by rw [Nat.sub_self]; exact h0, Below.refl _ _⟩
  case round =>
    obtain ⟨m, hm, hi, hJs, hnx⟩ := hrel
    have hBs2 := (hnx.cell (p := ⟨Bs, 0, none⟩) hBn).trans hBs
    cases m with
    | zero =>
      obtain rfl := hi
      gi_wp2
      go_end0
      exact ⟨⟨_, rfl⟩, .inl ⟨_, rfl, by simpa using hJs⟩⟩
    | succ i =>
      have hv := hi.trans (show Value.int .i64 (((i + 1 : Nat) : Int) - 1) = .int .i64 (i : Int) by congr 1; omega)
      clear hi
      subst hv
      obtain ⟨b, off, hA, hb, hcs⟩ := HC.out (by intro e; rw [e] at hm; simp at hm)
      subst hA
      have hlt : i < zs.length := by omega
      have hcx := (hnx.cell (p := ⟨b, off + i, none⟩) hb).trans (hcs i zs[i] (List.getElem?_eq_getElem hlt))
      obtain ⟨fn, tmps, assign, body, hy, hR⟩ := hY _ (i, zs[i]) wr hJs (by rw [upto_length]; omega)
      dsimp only at hy
      have HU := Lib.hid (show upto (backOf zs) (zs.length - (i + 1)) ++ [(i, zs[i])] = upto (backOf zs) (zs.length - i) from by
        rw [show zs.length - i = (zs.length - (i + 1)) + 1 by omega, upto_succ]
        congr 2
        unfold backOf
        rw [show zs.length - 1 - (zs.length - (i + 1)) = i by omega, List.getElem?_eq_getElem hlt]; rfl)
      clear hcs
      gi_wp2
      refine hR.mono ?_
      rintro e W3 (⟨rfl, hJ3, hk3⟩ | ⟨rfl, hJx3⟩)
      · gi_wp2
        go_roundw
        case rel => exact ⟨i, by omega, by go_num, by rw [← HU.out]; exact hJ3, hnx.trans hk3⟩
        case measure => simp [intOf]
      · gi_wp2
        refine bodyPost_ret (results_none rfl _ _ _) rfl ?_
        exact ⟨⟨_, rfl⟩, .inr ⟨_, ⟨zs.length - i, by omega, HU.out⟩, hJx3⟩⟩

set_option maxHeartbeats 1000000 in
theorem back_in (F : Fence) (n : Nat) (h5 : F.fn 98) (hro : F.round = none) (a : Option Addr) (len cap : Nat) (w : World) :
    CallsIn F n Tryz.prog 98 #[.slice a len cap] w fun e w' => e = .returned (.func (.func 123) #[] #[.pointer (some ⟨w.heap.size, 0, none⟩)]) ∧ w' = w.alloc (.cells #[.slice a len cap] 35) := by
  refine callsIn_of_wp Tryz.func98 rfl h5 ?_ hro
  simp only [Tryz.ntmps98, List.size_toArray, List.length_cons, List.length_nil, Nat.reduceAdd, Nat.reduceSub, Array.replicate_succ, Array.replicate_zero, List.push_toArray, List.append_toArray, List.nil_append, List.cons_append]
  gi_wp2
  go_ret
  exact ⟨rfl, rfl⟩

theorem back_stops (F : Fence) (n : Nat) (h9 : F.fn 123) (hro : F.round = none) (hn : 1 ≤ n) (Bs n₀ : Nat) (A : Option Addr) (cap : Nat) (zs : List Str) (hreach : zs.length ≤ 1000000000000) (w : World) (hBs : Bs < n₀) (hn₀ : n₀ ≤ w.heap.size)
    (hc : w.cell? ⟨Bs, 0, none⟩ = some (.slice A zs.length cap)) (hI : zs ≠ [] → ∃ b off, A = some ⟨b, off, none⟩ ∧ b < n₀ ∧ ∀ j s, zs[j]? = some s → w.cell? ⟨b, off + j, none⟩ = some (.string ⟨s.toArray⟩)) :
    SeqStopsK F n Tryz.prog 123 #[.pointer (some ⟨Bs, 0, none⟩)] encB (Below n₀) (fun ys => ys = upto (backOf zs) zs.length)
      (fun pre => ∃ k, k ≤ zs.length ∧ pre = upto (backOf zs) k) zs.length w := fun l J Jx W hW _ _ hY h0 => by
  have hW' := hW.mono hn₀
  refine back1_in F n h9 hro hn l Bs n₀ A cap zs hreach J Jx hY W ((hW'.cell (p := ⟨Bs, 0, none⟩) hBs).trans hc) hBs (fun hne => ?_) h0
  obtain ⟨b, off, hA, hb, hcs⟩ := hI hne
  exact ⟨b, off, hA, hb, fun j s hj => (hW'.cell (p := ⟨b, off + j, none⟩) hb).trans (hcs j s hj)⟩
end Go.Proofs.YtjboibbgigkhkaaGreatDoor

/- parser.name: what a name means, the last one that was bound first. -/
namespace Go.Proofs.YtjboibbgigkhkaaGreatDoor
open Go.RowKit
open Go.Shelf

attribute [local go_sem] Oper.semAt_some

def named (decls bound : List Str) (x : Str) (p : PS) : T × PS := match fromEnd bound x with
  | some i => (.mk 1 i [], p)
  | none => match fromEnd decls x with
    | some i => (.mk 18 ((decls.length : Int) - 1 - i) [], p)
    | none => (T0, p.fail 6)

def atomV (t : T) : Value := .agg #[.int .i64 t.k, .int .i64 t.n, .slice none 0 0]

theorem named_bound {decls bound : List Str} {x : Str} {p : PS} {i : Nat} (h : fromEnd bound x = some i) : named decls bound x p = (.mk 1 i [], p) := by unfold named; rw [h]
theorem named_decl {decls bound : List Str} {x : Str} {p : PS} {i : Nat} (h : fromEnd bound x = none) (h2 : fromEnd decls x = some i) : named decls bound x p = (.mk 18 ((decls.length : Int) - 1 - i) [], p) := by unfold named; rw [h]; dsimp only; rw [h2]
theorem named_none {decls bound : List Str} {x : Str} {p : PS} (h : fromEnd bound x = none) (h2 : fromEnd decls x = none) : named decls bound x p = (T0, p.fail 6) := by unfold named; rw [h]; dsimp only; rw [h2]

/-- none of those that have come is the name: none is -/
theorem back_none {zs : List Str} {x : Str} (h : ∀ q ∈ upto (backOf zs) zs.length, q.2 ≠ x) : fromEnd zs x = none := by
  refine fromEnd_none fun j hj e => ?_
  have hm : backOf zs (zs.length - 1 - j) ∈ upto (backOf zs) zs.length := by
    simp only [upto, List.mem_map, List.mem_range]
    exact ⟨_, by omega, rfl⟩
  refine h _ hm ?_
  unfold backOf
  rw [show zs.length - 1 - (zs.length - 1 - j) = j by omega, List.getElem?_eq_getElem hj]
  exact e
/-- the last that has come is the name, the others are not -/
theorem back_some {zs : List Str} {x : Str} {k : Nat} {ini : List (Nat × Str)} {last : Nat × Str} (hk : k ≤ zs.length) (e : upto (backOf zs) k = ini ++ [last]) (h : ∀ q ∈ ini, q.2 ≠ x) (hl : last.2 = x) :
    last.1 < zs.length ∧ fromEnd zs x = some (zs.length - 1 - last.1) := by
  obtain ⟨k', rfl⟩ : ∃ k', k = k' + 1 := by
    cases k with
    | zero => simp [upto] at e
    | succ k' => exact ⟨k', rfl⟩
  rw [upto_succ] at e
  obtain ⟨rfl, e5⟩ := List.append_inj' e rfl
  obtain rfl : backOf zs k' = last := by simpa using e5
  have hlt : zs.length - 1 - k' < zs.length := by omega
  refine ⟨hlt, ?_⟩
  have hx : zs[zs.length - 1 - k'] = x := by
    unfold backOf at hl
    rw [List.getElem?_eq_getElem hlt] at hl
    exact hl
  refine fromEnd_some (i := zs.length - 1 - k') hlt hx fun j hj hjl e => ?_
  have hm : backOf zs (zs.length - 1 - j) ∈ upto (backOf zs) k' := by
    simp only [upto, List.mem_map, List.mem_range]
    exact ⟨_, by omega, rfl⟩
  refine h _ hm ?_
  unfold backOf
  rw [show zs.length - 1 - (zs.length - 1 - j) = j by omega, List.getElem?_eq_getElem hjl]
  exact e

theorem blk_kept {g : Nat} {t : TypeId} {z : Array Value} {A B : World} {row : Option Nat} (h : Blk A g t z) (hg : A.grownBy B row) (hr : ∀ r, row = some r → ∃ o : Obj, A.heap[r]? = some o ∧ o.isCells = false) : Blk B g t z := by
  refine h.grown hg fun e => ?_
  obtain ⟨o, ho, hc⟩ := hr g e.symm
  unfold Blk at h
  rw [h] at ho
  cases ho
  cases hc

theorem heap_own {β : Type} {B k : Nat} {o : Obj} (hk : k < B) : OwnFrom B (fun (_ : β) (X : World) => X.heap[k]? = some o) := fun _ X Y row hs hg hr => by
  refine (hg.block k (Array.getElem?_eq_some_iff.1 hs).1 fun e => ?_).trans hs
  have := (hr k e.symm).1
  omega

def NmBoxes (W : World) (g : Nat) (x : Str) (bv : Value) (z : Array Value) : Prop := Blk W g 9 #[.string ⟨x.toArray⟩] ∧ Blk W (g + 1) 35 #[bv] ∧ Blk W (g + 1 + 1) 30 z
theorem NmBoxes.kept {g : Nat} {x : Str} {bv : Value} {z : Array Value} {A B : World} {row : Option Nat} (h : NmBoxes A g x bv z) (hg : A.grownBy B row) (hr : ∀ r, row = some r → ∃ o : Obj, A.heap[r]? = some o ∧ o.isCells = false) : NmBoxes B g x bv z :=
  ⟨blk_kept h.1 hg hr, blk_kept h.2.1 hg hr, blk_kept h.2.2 hg hr⟩

def z0 : Array Value := #[.int .i64 0, .int .i64 0, .slice none 0 0]

set_option maxRecDepth 100000 in
set_option maxHeartbeats 4000000 in
theorem pname_any (decls bound : List Str) (R L : Nat) (DA : Option Addr) (dcap : Nat) (x : Str) (p : PS) (w : World) (BA : Option Addr) (bcap : Nat) (hR : PBox w R L (.slice DA decls.length dcap) p) (hD : Strs w R decls (.slice DA decls.length dcap)) (hb : Strs w R bound (.slice BA bound.length bcap))
    (hdl : decls.length ≤ 1000000000000) (hbl : bound.length ≤ 1000000000000) :
    Calls Tryz.prog 73 #[.pointer (some ⟨R, 0, none⟩), .string ⟨x.toArray⟩, .slice BA bound.length bcap] w (PPost (atomV (named decls bound x p).1) (named decls bound x p).2 R L (.slice DA decls.length dcap) w) := by
  have HR := Lib.hid (And.intro hR (And.intro hD hb))
  have hRl := hR.lt
  have hLl := hR.ltL
  clear hR hD hb
  refine (callsIn_wide (n := 5)).1 ?_
  refine callsIn_of_wp_marks Tryz.func73 rfl trivial ?_ rfl
  simp only [Tryz.ntmps73, List.size_toArray, List.length_cons, List.length_nil, Nat.reduceAdd, Nat.reduceSub, Array.replicate_succ, Array.replicate_zero, List.push_toArray, List.append_toArray, List.nil_append, List.cons_append]
  gi_wp2_with (refine ⟨trivial, ?_⟩; gi_at_call 98; refine (back_in Fence.wide _ trivial rfl _ _ _ _).mono ?_; rintro e w' ⟨rfl, rfl⟩)
  obtain ⟨BA', bcap', hbv, -, -, hbc⟩ := HR.out.2.2
  cases hbv
  have bX := Blk.new w 9 #[.string ⟨x.toArray⟩]
  have bB := Blk.new (w.alloc (.cells #[.string ⟨x.toArray⟩] 9)) 35 #[.slice BA bound.length bcap]
  have bZ := Blk.new ((w.alloc (.cells #[.string ⟨x.toArray⟩] 9)).alloc (.cells #[.slice BA bound.length bcap] 35)) 30 z0
  have bS := Blk.new (((w.alloc (.cells #[.string ⟨x.toArray⟩] 9)).alloc (.cells #[.slice BA bound.length bcap] 35)).alloc (.cells z0 30)) 35 #[.slice BA bound.length bcap]
  simp only [World.size_alloc] at bB bZ bS
  have hN : NmBoxes ((((w.alloc (.cells #[.string ⟨x.toArray⟩] 9)).alloc (.cells #[.slice BA bound.length bcap] 35)).alloc (.cells z0 30)).alloc (.cells #[.slice BA bound.length bcap] 35)) w.heap.size x (.slice BA bound.length bcap) z0 :=
    ⟨((bX.alloc _).alloc _).alloc _, (bB.alloc _).alloc _, bZ.alloc _⟩
  have hB0 : Below w.heap.size w ((((w.alloc (.cells #[.string ⟨x.toArray⟩] 9)).alloc (.cells #[.slice BA bound.length bcap] 35)).alloc (.cells z0 30)).alloc (.cells #[.slice BA bound.length bcap] 35)) :=
    ((((Below.refl _ w).alloc (Nat.le_refl _) _).alloc (by simp) _).alloc (by simp; omega) _).alloc (by simp; omega) _
  obtain ⟨W0, hW0⟩ : ∃ W0, ((((w.alloc (.cells #[.string ⟨x.toArray⟩] 9)).alloc (.cells #[.slice BA bound.length bcap] 35)).alloc (.cells z0 30)).alloc (.cells #[.slice BA bound.length bcap] 35)) = W0 := ⟨_, rfl⟩
  have hsz : W0.heap.size = w.heap.size + 4 := by rw [← hW0]; simp
  rw [hW0] at bS hN hB0
  unfold z0 at hW0
  rw [hW0]
  clear hW0 bX bB bZ
  refine wpIn_rangeFunc_ownG rfl (by omega) (gf := 123) (lb := #[.pointer (some ⟨w.heap.size + 1 + 1 + 1, 0, none⟩)]) rfl trivial (enters_of Tryz.func123 (by kernel_rfl) rfl)
    (back_stops Fence.wide _ trivial rfl (by omega) (w.heap.size + 1 + 1 + 1) (w.heap.size + 4) BA bcap bound hbl W0 (by omega) (by omega) (bS.cell 0) (fun hne => by
      obtain ⟨b, off, e, hlt, -, hc⟩ := hbc hne
      exact ⟨b, off, e, by omega, fun j s hj => (hB0.cell (p := ⟨b, off + j, none⟩) hlt).trans (hc j s hj)⟩)) belowK_t (belowK_b (by omega)) (Below.refl _ _) (fun _ => rfl)
    (fun pre W => ((∀ q ∈ pre, q.2 ≠ x) ∧ NmBoxes W w.heap.size x (.slice BA bound.length bcap) z0) ∧ Below w.heap.size w W)
    (fun c pre W => (c = .ret ∧ ∃ ini last, pre = ini ++ [last] ∧ (∀ q ∈ ini, q.2 ≠ x) ∧ last.2 = x ∧ Blk W (w.heap.size + 1 + 1) 30 #[.int .i64 1, .int .i64 (wrap64 ((bound.length : Int) - 1 - last.1)), .slice none 0 0]) ∧ Below w.heap.size w W)
    (OwnFrom.and (Own.from (fun s A B row hs hg hr => ⟨hs.1, hs.2.kept hg hr⟩) _) (ownFrom_below (Nat.le_refl _) (by omega)))
    (fun c => OwnFrom.and (Own.from (fun s A B row hs hg hr => by obtain ⟨hc, ini, last, e1, e2, e3, e4⟩ := hs; exact ⟨hc, ini, last, e1, e2, e3, blk_kept e4 hg hr⟩) _) (ownFrom_below (Nat.le_refl _) (by omega)))
    ⟨⟨by simp, hN⟩, hB0⟩
    (fun y => { tmps := #[.pointer (some ⟨R, 0, none⟩), .string ⟨x.toArray⟩, .slice BA bound.length bcap, undef, .pointer (some ⟨w.heap.size, 0, none⟩), .pointer (some ⟨w.heap.size + 1, 0, none⟩), .pointer (some ⟨w.heap.size + 1 + 1, 0, none⟩), .int .i64 (y.1 : Int), .string ⟨y.2.toArray⟩, undef, undef, .slice BA bound.length bcap, .func (.func 123) #[] #[.pointer (some ⟨w.heap.size + 1 + 1 + 1, 0, none⟩)], .int .i64 (y.1 : Int), .string ⟨y.2.toArray⟩, undef, undef, undef, undef, undef, undef, undef, undef, undef, undef, undef, undef, undef, undef, undef, undef, undef, undef, undef, undef, undef, undef, undef], defers := [] }) ?assign ?body ?done ?stop
  case assign =>
    intro l y W K hK
    simp only [encB]
    gi_wp2
    exact hK
  case body =>
    rintro l pre y W ⟨⟨hp, hN⟩, hB⟩ _
    have c0 := hN.1.cell 0
    have c1 := hN.2.1.cell 0
    have ⟨⟨d0, d1, d2⟩, e0, e1, e2⟩ := Blk.tri hN.2.2
    simp only [List.getElem?_toArray, List.getElem?_cons_zero] at c0 c1
    have HN := Lib.hid (And.intro hp (And.intro hN hB))
    clear hp hN hB
    by_cases he : y.2 = x
    · have heb : (y.2 == x) = true := by simpa using he
      have HE := Lib.hid he
      clear he
      gi_wp2
      refine ⟨(KeepsOthers.trans (KeepsOthers.trans (KeepsOthers.setCell _ _ _) (KeepsOthers.setCell _ _ _)) (KeepsOthers.setCell _ _ _)).from _, ⟨rfl, pre, y, rfl, HN.out.1, HE.out, ?_⟩, ?_⟩
      · have h := ((HN.out.2.1.2.2.set_ 0 (.int .i64 1)).set_ 1 (.int .i64 (wrap64 ((bound.length : Int) - 1 - y.1)))).set_ 2 (.slice none 0 0)
        simpa [z0] using h
      · exact ((HN.out.2.2.setCell (p := ⟨w.heap.size + 1 + 1, 0, none⟩) (by simp; omega) _).setCell (p := ⟨w.heap.size + 1 + 1, 1, none⟩) (by simp; omega) _).setCell (p := ⟨w.heap.size + 1 + 1, 2, none⟩) (by simp; omega) _
    · have heb : (y.2 == x) = false := by simpa using he
      have HE := Lib.hid he
      clear he
      gi_wp2
      exact ⟨KeepsFrom.refl _ _, Below.refl _ _, ⟨fun q hq => (List.mem_append.1 hq).elim (HN.out.1 q) (fun e => by simp at e; subst e; exact HE.out), HN.out.2.1⟩, HN.out.2.2⟩
  case stop =>
    rintro D c pre W hD0 ⟨k, hk, rfl⟩ ⟨⟨rfl, ini, last, e1, e2, e3, hZ⟩, hB⟩ hK
    obtain ⟨hlt, hfe⟩ := back_some hk e1 e2 e3
    have hw : wrap64 ((bound.length : Int) - 1 - last.1) = ((bound.length - 1 - last.1 : Nat) : Int) := by unfold wrap64; omega
    rw [hw] at hZ
    have hZ2 := blk_kept hZ (grownBy_putObj' _ D (.deferred none)) (fun r e => by cases e; exact ⟨_, hK, rfl⟩)
    obtain ⟨⟨d0, d1, d2⟩, -, -, -⟩ := hZ2.tri
    have HB := Lib.hid (hB.trans (belowK_b (w := w) (Nat.le_refl _) W D _ (.deferred none) (by omega) hK rfl rfl))
    have HN := Lib.hid (named_bound (decls := decls) (p := p) hfe)
    clear e1 e2 e3 hB hfe hZ hZ2
    gi_wp2
    refine ⟨by simp, .inl ⟨_, _, rfl, run_takeDeferred hK, ?_⟩⟩
    refine ⟨.agg #[.int .i64 1, .int .i64 ((bound.length - 1 - last.1 : Nat) : Int), .slice none 0 0], by simp [results, Tryz.f73, go_sem, d0, d1, d2], ?_⟩
    rw [HN.out]
    exact ⟨rfl, HR.out.1.below HB.out, but_of HB.out⟩
  case done =>
    rintro D ys W hD0 rfl ⟨⟨hne, hN⟩, hB⟩ hK
    have hfe := back_none hne
    obtain ⟨DA', dcap', hdv, -, -, hdc⟩ := HR.out.2.1
    cases hdv
    have hRW := HR.out.1.below hB
    obtain ⟨LA, lcap, -, -, hRB⟩ := hRW
    have r1 : W.cell? ⟨R, 1, none⟩ = some (.slice DA decls.length dcap) := hRB.cell 1
    have bS2 := Blk.new W 35 #[.slice DA decls.length dcap]
    have hN2 : NmBoxes (W.alloc (.cells #[.slice DA decls.length dcap] 35)) w.heap.size x (.slice BA bound.length bcap) z0 := ⟨hN.1.alloc _, hN.2.1.alloc _, hN.2.2.alloc _⟩
    have hB2 := hB.alloc hB.size (.cells #[.slice DA decls.length dcap] 35)
    have hDl : D < W.heap.size := (Array.getElem?_eq_some_iff.1 hK).1
    have hK2 : (W.alloc (.cells #[.slice DA decls.length dcap] 35)).heap[D]? = some (.deferred (some [])) := (Below.heap_alloc _ _ _ hDl).trans hK
    have HNE := Lib.hid (And.intro hfe (And.intro hN (And.intro hB (And.intro hN2 hB2))))
    have HK := Lib.hid (And.intro hK hK2)
    clear hne hN hB hfe hN2 hB2 hK hK2 hRB bS hbc
    have hsW := HNE.out.2.2.1.size
    gi_wp2_with (refine ⟨trivial, ?_⟩; gi_at_call 98; refine (back_in Fence.wide _ trivial rfl _ _ _ _).mono ?_; rintro e w' ⟨rfl, rfl⟩)
    obtain ⟨W1, hW1⟩ : ∃ W1, W.alloc (.cells #[.slice DA decls.length dcap] 35) = W1 := ⟨_, rfl⟩
    have hs1 : W1.heap.size = W.heap.size + 1 := by rw [← hW1]; simp
    have hne1 := HNE.out
    have hk1 := HK.out
    rw [hW1] at hne1 hk1 bS2 ⊢
    have HNE := Lib.hid hne1
    have HK := Lib.hid hk1
    clear hne1 hk1 hW1
    refine wpIn_rangeFunc_ownG rfl (by omega) (gf := 123) (lb := #[.pointer (some ⟨W.heap.size, 0, none⟩)]) rfl trivial (enters_of Tryz.func123 (by kernel_rfl) rfl)
      (back_stops Fence.wide _ trivial rfl (by omega) W.heap.size (W.heap.size + 1) DA dcap decls hdl W1 (by omega) (by omega) (bS2.cell 0) (fun hne => by
        obtain ⟨b, off, e, hlt, -, hc⟩ := hdc hne
        exact ⟨b, off, e, by omega, fun j s hj => (HNE.out.2.2.2.2.cell (p := ⟨b, off + j, none⟩) hlt).trans (hc j s hj)⟩)) belowK_t (belowK_b (by omega)) (Below.refl _ _) (fun _ => rfl)
      (fun pre X => (((∀ q ∈ pre, q.2 ≠ x) ∧ NmBoxes X w.heap.size x (.slice BA bound.length bcap) z0) ∧ X.heap[D]? = some (.deferred (some []))) ∧ Below w.heap.size w X)
      (fun c pre X => ((c = .ret ∧ ∃ ini last, pre = ini ++ [last] ∧ (∀ q ∈ ini, q.2 ≠ x) ∧ last.2 = x ∧ Blk X (w.heap.size + 1 + 1) 30 #[.int .i64 18, .int .i64 last.1, .slice none 0 0]) ∧ X.heap[D]? = some (.deferred (some []))) ∧ Below w.heap.size w X)
      (OwnFrom.and (OwnFrom.and (Own.from (fun s A B row hs hg hr => ⟨hs.1, hs.2.kept hg hr⟩) _) (heap_own (by omega))) (ownFrom_below (Nat.le_refl _) (by omega)))
      (fun c => OwnFrom.and (OwnFrom.and (Own.from (fun s A B row hs hg hr => by obtain ⟨hc, ini, last, e1, e2, e3, e4⟩ := hs; exact ⟨hc, ini, last, e1, e2, e3, blk_kept e4 hg hr⟩) _) (heap_own (by omega))) (ownFrom_below (Nat.le_refl _) (by omega)))
      ⟨⟨⟨by simp, HNE.out.2.2.2.1⟩, HK.out.2⟩, HNE.out.2.2.2.2⟩
      (fun y => { tmps := #[.pointer (some ⟨R, 0, none⟩), .string ⟨x.toArray⟩, .slice BA bound.length bcap, undef, .pointer (some ⟨w.heap.size, 0, none⟩), .pointer (some ⟨w.heap.size + 1, 0, none⟩), .pointer (some ⟨w.heap.size + 1 + 1, 0, none⟩), undef, undef, .int .i64 (y.1 : Int), .string ⟨y.2.toArray⟩, .slice BA bound.length bcap, .func (.func 123) #[] #[.pointer (some ⟨w.heap.size + 1 + 1 + 1, 0, none⟩)], undef, undef, undef, undef, undef, undef, undef, undef, undef, undef, undef, .pointer (some ⟨R, 0, none⟩), .pointer (some ⟨R, 0, none⟩), .pointer (some ⟨R, 1, none⟩), .slice DA decls.length dcap, .func (.func 123) #[] #[.pointer (some ⟨W.heap.size, 0, none⟩)], .int .i64 (y.1 : Int), .string ⟨y.2.toArray⟩, undef, undef, undef, undef, undef, undef, undef], defers := [] }) ?assign ?body ?done ?stop
    case assign =>
      intro l y X K hK
      simp only [encB]
      gi_wp2
      exact hK
    case body =>
      rintro l pre y X ⟨⟨⟨hp, hN⟩, hX⟩, hB⟩ _
      have c0 := hN.1.cell 0
      have ⟨⟨d0, d1, d2⟩, e0, e1, e2⟩ := Blk.tri hN.2.2
      simp only [List.getElem?_toArray, List.getElem?_cons_zero] at c0
      have HN := Lib.hid (And.intro hp (And.intro hN (And.intro hB hX)))
      clear hp hN hB hX
      by_cases he : y.2 = x
      · have heb : (y.2 == x) = true := by simpa using he
        have HE := Lib.hid he
        clear he
        gi_wp2
        have hko : KeepsOthers X _ := KeepsOthers.trans (KeepsOthers.trans (KeepsOthers.setCell X ⟨w.heap.size + 1 + 1, 0, none⟩ (.int .i64 18)) (KeepsOthers.setCell _ ⟨w.heap.size + 1 + 1, 1, none⟩ (.int .i64 y.1))) (KeepsOthers.setCell _ ⟨w.heap.size + 1 + 1, 2, none⟩ (.slice none 0 0))
        refine ⟨hko.from _, ⟨⟨rfl, pre, y, rfl, HN.out.1, HE.out, ?_⟩, hko.same D _ HN.out.2.2.2 rfl⟩, ?_⟩
        · have h := ((HN.out.2.1.2.2.set_ 0 (.int .i64 18)).set_ 1 (.int .i64 y.1)).set_ 2 (.slice none 0 0)
          simpa [z0] using h
        · exact ((HN.out.2.2.1.setCell (p := ⟨w.heap.size + 1 + 1, 0, none⟩) (by simp; omega) _).setCell (p := ⟨w.heap.size + 1 + 1, 1, none⟩) (by simp; omega) _).setCell (p := ⟨w.heap.size + 1 + 1, 2, none⟩) (by simp; omega) _
      · have heb : (y.2 == x) = false := by simpa using he
        have HE := Lib.hid he
        clear he
        gi_wp2
        exact ⟨KeepsFrom.refl _ _, Below.refl _ _, ⟨⟨fun q hq => (List.mem_append.1 hq).elim (HN.out.1 q) (fun e => by simp at e; subst e; exact HE.out), HN.out.2.1⟩, HN.out.2.2.2⟩, HN.out.2.2.1⟩
    case stop =>
      rintro D2 c pre X hD2 ⟨k, hk, rfl⟩ ⟨⟨⟨rfl, ini, last, e1, e2, e3, hZ⟩, hX⟩, hB⟩ hK2
      obtain ⟨hlt, hfe⟩ := back_some hk e1 e2 e3
      have hDn : D ≠ D2 := by omega
      have hX2 : (X.putObj D2 (.deferred none)).heap[D]? = some (.deferred (some [])) := ((grownBy_putObj' X D2 (.deferred none)).block D (Array.getElem?_eq_some_iff.1 hX).1 (fun e => hDn (Option.some.inj e))).trans hX
      have hZ2 := blk_kept (blk_kept hZ (grownBy_putObj' _ D2 (.deferred none)) (fun r e => by cases e; exact ⟨_, hK2, rfl⟩)) (grownBy_putObj' _ D (.deferred none)) (fun r e => by cases e; exact ⟨_, hX2, rfl⟩)
      obtain ⟨⟨d0, d1, d2⟩, -, -, -⟩ := hZ2.tri
      have HB := Lib.hid ((hB.trans (belowK_b (w := w) (Nat.le_refl _) X D2 _ (.deferred none) (by omega) hK2 rfl rfl)).trans (belowK_b (w := w) (Nat.le_refl _) (X.putObj D2 (.deferred none)) D _ (.deferred none) (by omega) hX2 rfl rfl))
      have HN := Lib.hid (named_decl (p := p) HNE.out.1 hfe)
      clear e1 e2 e3 hB hfe hZ hZ2
      gi_wp2
      refine ⟨by simp, .inl ⟨_, _, rfl, run_takeDeferred hK2, ⟨by simp, .inl ⟨_, _, rfl, run_takeDeferred hX2, ?_⟩⟩⟩⟩
      refine ⟨.agg #[.int .i64 18, .int .i64 last.1, .slice none 0 0], by simp [results, Tryz.f73, go_sem, d0, d1, d2], ?_⟩
      rw [HN.out]
      refine ⟨?_, HR.out.1.below HB.out, but_of HB.out⟩
      have hv : ((decls.length : Int) - 1 - ((decls.length - 1 - last.1 : Nat) : Int)) = (last.1 : Int) := by omega
      show _ = Ending.returned (.agg #[.int .i64 18, .int .i64 ((decls.length : Int) - 1 - ((decls.length - 1 - last.1 : Nat) : Int)), .slice none 0 0])
      rw [hv]
    case done =>
      rintro D2 ys X hD2 rfl ⟨⟨⟨hne, hN⟩, hX⟩, hB⟩ hK2
      have hfe := back_none hne
      have HN := Lib.hid (named_none (p := p) HNE.out.1 hfe)
      have hRX := HR.out.1.below hB
      have hsX := hB.size
      have hDX : D < X.heap.size := (Array.getElem?_eq_some_iff.1 hX).1
      have hDX2 : D2 < X.heap.size := (Array.getElem?_eq_some_iff.1 hK2).1
      have HX := Lib.hid (And.intro hN (And.intro hX (And.intro hB (And.intro hK2 hRX))))
      have hgX := hN.2.2.lt
      clear hne hN hX hB hfe hK2 hRX
      gi_wp2_with (refine ⟨trivial, ?_⟩; gi_at_call 38; refine (callsIn_wide.2 (pfail_any X R L _ p 6 HX.out.2.2.2.2)).mono ?_; refine Hid.out ?_)
      refine Lib.hid ?_
      rintro e X3 ⟨rfl, hR3, hb3⟩
      have hZ3 := HX.out.1.2.2.but hb3 hgX (by omega)
      obtain ⟨⟨d0, d1, d2⟩, e0, e1, e2⟩ := hZ3.tri
      have hK3 : X3.heap[D]? = some (.deferred (some [])) := (hb3.block D hDX (by omega)).trans HX.out.2.1
      have hK23 : X3.heap[D2]? = some (.deferred (some [])) := (hb3.block D2 hDX2 (by omega)).trans HX.out.2.2.2.1
      have HE := Lib.hid (And.intro hR3 (And.intro hb3 (And.intro hZ3 (And.intro hK3 hK23))))
      clear hR3 hb3 hZ3 hK3 hK23
      gi_wp2
      obtain ⟨X4, hX4⟩ : ∃ X4, ((X3.setCell ⟨w.heap.size + 1 + 1, 0, none⟩ (.int .i64 0)).setCell ⟨w.heap.size + 1 + 1, 1, none⟩ (.int .i64 0)).setCell ⟨w.heap.size + 1 + 1, 2, none⟩ (.slice none 0 0) = X4 := ⟨_, rfl⟩
      have hko : KeepsOthers X3 X4 := by rw [← hX4]; exact KeepsOthers.trans (KeepsOthers.trans (KeepsOthers.setCell X3 ⟨w.heap.size + 1 + 1, 0, none⟩ (.int .i64 0)) (KeepsOthers.setCell _ ⟨w.heap.size + 1 + 1, 1, none⟩ (.int .i64 0))) (KeepsOthers.setCell _ ⟨w.heap.size + 1 + 1, 2, none⟩ (.slice none 0 0))
      have hR4 : PBox X4 R L (.slice DA decls.length dcap) (p.fail 6) := by
        rw [← hX4]
        exact ((HE.out.1.far (a := ⟨w.heap.size + 1 + 1, 0, none⟩) (by simp; omega) (by simp; omega) _).far (a := ⟨w.heap.size + 1 + 1, 1, none⟩) (by simp; omega) (by simp; omega) _).far (a := ⟨w.heap.size + 1 + 1, 2, none⟩) (by simp; omega) (by simp; omega) _
      have hb4 : But R w.heap.size w X4 := by
        rw [← hX4]
        exact ((((but_of HX.out.2.2.1).trans (HE.out.2.1.mono hsX)).setCell (p := ⟨w.heap.size + 1 + 1, 0, none⟩) (by simp; omega) _).setCell (p := ⟨w.heap.size + 1 + 1, 1, none⟩) (by simp; omega) _).setCell (p := ⟨w.heap.size + 1 + 1, 2, none⟩) (by simp; omega) _
      have hZ4 : Blk X4 (w.heap.size + 1 + 1) 30 z0 := by
        rw [← hX4]
        have h := ((HE.out.2.2.1.set_ 0 (.int .i64 0)).set_ 1 (.int .i64 0)).set_ 2 (.slice none 0 0)
        simpa [z0] using h
      have hK24 := hko.same D2 _ HE.out.2.2.2.2 rfl
      have hK4 := hko.same D _ HE.out.2.2.2.1 rfl
      rw [hX4]
      clear hX4
      have hDn : D ≠ D2 := by omega
      have hX2 : (X4.putObj D2 (.deferred none)).heap[D]? = some (.deferred (some [])) := ((grownBy_putObj' X4 D2 (.deferred none)).block D (Array.getElem?_eq_some_iff.1 hK4).1 (fun e => hDn (Option.some.inj e))).trans hK4
      have hZ5 := blk_kept (blk_kept hZ4 (grownBy_putObj' _ D2 (.deferred none)) (fun r e => by cases e; exact ⟨_, hK24, rfl⟩)) (grownBy_putObj' _ D (.deferred none)) (fun r e => by cases e; exact ⟨_, hX2, rfl⟩)
      obtain ⟨⟨d0, d1, d2⟩, -, -, -⟩ := Blk.tri hZ5
      have hbl : Below w.heap.size X4 ((X4.putObj D2 (.deferred none)).putObj D (.deferred none)) := (belowK_b (w := w) (Nat.le_refl _) X4 D2 _ (.deferred none) (by omega) hK24 rfl rfl).trans (belowK_b (w := w) (Nat.le_refl _) (X4.putObj D2 (.deferred none)) D _ (.deferred none) (by omega) hX2 rfl rfl)
      refine ⟨by simp, .inl ⟨_, _, rfl, run_takeDeferred hK24, ⟨by simp, .inl ⟨_, _, rfl, run_takeDeferred hX2, ?_⟩⟩⟩⟩
      refine ⟨.agg #[.int .i64 0, .int .i64 0, .slice none 0 0], by simp [results, Tryz.f73, go_sem, d0, d1, d2], ?_⟩
      rw [HN.out]
      exact ⟨rfl, hR4.same hbl.size (hbl.block R hRl) (hbl.block L hLl), hb4.trans (but_of hbl)⟩
end Go.Proofs.YtjboibbgigkhkaaGreatDoor

