/- sklaw1.alive answers true; read; what Lift, Put and the reader answer lies below the world's end. -/
import Derived.Test.YtjboibbgigkhkaaDoorPut
import Derived.Test.YtjboibbgigkhkaaDoorUses
import Derived.Test.YtjboibbgigkhkaaDoorPWrong
import Derived.Test.YtjboibbgigkhkaaDoorPSame
import Derived.Test.YtjboibbgigkhkaaDoorRParse
namespace Go.Proofs.YtjboibbgigkhkaaDoor
set_option maxRecDepth 100000
open Go.RowKit

/-- behind a call that answers a term -/
def TermIn (t : T) (w : World) (e : Ending) (w' : World) : Prop := ∃ s, e = .returned (.agg #[.int .i64 t.k, .int .i64 t.n, s]) ∧ argsIn w' w'.heap.size t s ∧ Below w.heap.size w w'

theorem TermPost.toIn {t : T} {w w' : World} {e : Ending} (h : TermPost t (fun b => b < w.heap.size) w e w') : TermIn t w e w' := by
  obtain ⟨s, rfl, ha, hb⟩ := h
  exact ⟨s, rfl, ha.keep (fun b hb' => hb'.elim (fun h => Nat.lt_of_lt_of_le h hb.size) (fun h => h.2)) (fun _ _ => rfl), hb⟩

theorem lift_in (by_ last : Int) (h2 : 0 ≤ by_) (h3 : by_ ≤ 1000000000000) (M : Int) (hM : M ≤ 1000000000000) (f : Nat) (t : T) (w : World) (s : Value) (hok : okT M f t) (hs : argsIn w w.heap.size t s) (h0 : 0 ≤ last) (h1 : last + 2 * f ≤ 1000000000000) :
    Calls Tryd.prog 9 #[.agg #[.int .i64 t.k, .int .i64 t.n, s], .int .i64 by_, .int .i64 last] w (TermIn (liftT by_ t last) w) :=
  (lift_any _ by_ last h2 h3 M hM f t w s hok hs (fun b h => h) h0 h1).mono fun _ _ h => h.toIn

theorem put_in (M : Int) (hM : M ≤ 1000000000000) (f fu : Nat) (t u : T) (w : World) (s su : Value) (hok : okT M f t) (hf : 2 * f ≤ 1000000000000) (hu : okT M fu u) (hfu : 2 * fu ≤ 1000000000000) (hs : argsIn w w.heap.size t s) (hsu : argsIn w w.heap.size u su) :
    Calls Tryd.prog 12 #[.agg #[.int .i64 t.k, .int .i64 t.n, s], .agg #[.int .i64 u.k, .int .i64 u.n, su]] w (TermIn (putT u t 0) w) :=
  (put_any _ M hM f fu t u w s su hok hf hu hfu hs hsu (fun b h => h)).mono fun _ _ h => h.toIn

theorem uses_in (m : Int) (M : Int) (hM : M ≤ 1000000000000) (f : Nat) (t : T) (w : World) (s : Value) (hok : okT M f t) (hf : 2 * f ≤ 1000000000000) (hs : argsIn w w.heap.size t s) :
    Calls Tryd.prog 10 #[.agg #[.int .i64 t.k, .int .i64 t.n, s], .int .i64 m] w (BoolPost (usesT m t 0) w) :=
  uses_any _ m M hM f t w s hok hf hs (fun b h => h)

theorem Strs.up {w w' : World} {R R' : Nat} {l : List Str} {v : Value} (h : Strs w R l v) (hb : Below w.heap.size w w') (hR : w.heap.size ≤ R') : Strs w' R' l v := by
  obtain ⟨A, cap, h1, h2, h3, h4⟩ := h
  exact ⟨A, cap, h1, h2, h3, fun hne => by
    obtain ⟨b, off, e, hlt, -, hc⟩ := h4 hne
    exact ⟨b, off, e, Nat.lt_of_lt_of_le hlt hb.size, by omega, fun j s hj => (hb.cell (p := ⟨b, _, none⟩) hlt).trans (hc j s hj)⟩⟩

theorem strs_nil (w : World) (R : Nat) : Strs w R [] (.slice none 0 0) := ⟨none, 0, rfl, Nat.le_refl _, by unfold maxLen; omega, fun h => absurd rfl h⟩

theorem strs_new (w : World) (l : List Str) (t : TypeId) (hl : l.length ≤ 1000000) (hne : l ≠ []) : Strs (w.alloc (.cells (strc l).toArray t)) (w.alloc (.cells (strc l).toArray t)).heap.size l (.slice (some ⟨w.heap.size, 0, none⟩) l.length l.length) := by
  refine ⟨_, _, rfl, Nat.le_refl _, by unfold maxLen; omega, fun _ => ⟨w.heap.size, 0, rfl, by simp, by simp, fun j s hj => ?_⟩⟩
  rw [World.cell?_alloc_at _ _ _ _ rfl]
  simp [strc, hj]

def cn0 : Str → Option Int := fun _ => none

theorem Blk.fill {w1 : World} {g : Nat} {t : TypeId} {x y z : Value} (h : Blk w1 g t #[x, y, z]) (a b c : Value) (o : Obj) :
    ((((w1.setCell ⟨g, 0, none⟩ a).setCell ⟨g, 1, none⟩ b).setCell ⟨g, 2, none⟩ c).alloc o).cell? ⟨g, 0, none⟩ = some a ∧ ((((w1.setCell ⟨g, 0, none⟩ a).setCell ⟨g, 1, none⟩ b).setCell ⟨g, 2, none⟩ c).alloc o).cell? ⟨g, 1, none⟩ = some b ∧
    ((((w1.setCell ⟨g, 0, none⟩ a).setCell ⟨g, 1, none⟩ b).setCell ⟨g, 2, none⟩ c).alloc o).cell? ⟨g, 2, none⟩ = some c := by
  have h3 : Blk (((w1.setCell ⟨g, 0, none⟩ a).setCell ⟨g, 1, none⟩ b).setCell ⟨g, 2, none⟩ c) g t #[a, b, c] := by
    have := ((h.set_ 0 a).set_ 1 b).set_ 2 c
    simpa using this
  exact (h3.alloc o).tri.1

theorem read_in (s : Str) (bound : List Str) (t : T) (e0 : Int) (w : World) (bv : Value) (hp : parse cn0 [] s bound = (t, e0)) (hU : noU ⟨words s, 0⟩) (hs : s.length ≤ 1000000000000) (hb : Strs w w.heap.size bound bv) (hbl : bound.length ≤ 1000000000000) :
    Calls Tryd.prog 21 #[.string ⟨s.toArray⟩, bv] w (TermIn t w) := by
  obtain ⟨BA, bcap, rfl, -⟩ := id hb
  have hb0 := (Below.refl w.heap.size w).alloc (Nat.le_refl _) (.cells #[.int .i64 0, .int .i64 0, .slice none 0 0] 24)
  have hblk := Blk.new w 24 #[.int .i64 0, .int .i64 0, .slice none 0 0]
  have hcall := rparse_any cn0 [] bound s (w.alloc (.cells #[.int .i64 0, .int .i64 0, .slice none 0 0] 24)) (.slice BA bound.length bcap) (.slice none 0 0) (.inr hU) hs (strs_nil _ _) (hb.up hb0 hb0.size) (by simp) hbl
  rw [hp] at hcall
  have HCALL := Lib.hid (show Calls Tryd.prog 41 _ _ (fun e w' => ∃ s, e = .returned (.tuple #[.agg #[.int .i64 t.k, .int .i64 t.n, s], .int .i64 e0]) ∧ argsInS w' (orNew nowhere _ w') t s ∧ Below _ _ w') from hcall)
  clear hcall hb hp hU
  go_enter Tryd.func21, Tryd.ntmps21
  go_wp2_with fail
  refine HCALL.out.mono ?_
  rintro e w1 ⟨s1, rfl, hx, hb1⟩
  obtain ⟨A1, cap1, rfl, -⟩ := argsInS_iff.1 hx
  have hB1 := hblk.below hb1 (by simp)
  have hbw := hb0.trans (hb1.mono hb0.size)
  have hx2 : argsInS w1 (fun b => w.heap.size + 1 ≤ b ∧ b < w1.heap.size) t (.slice A1 t.al.length cap1) := hx.keep (fun b hb => hb.elim (fun h => h.elim) (fun h => ⟨by have := h.1; simpa using this, h.2⟩)) (fun _ _ => rfl)
  have HX := Lib.hid hx2
  have HB := Lib.hid hbw
  obtain ⟨⟨d0, d1, d2⟩, e0, e1, e2⟩ := hB1.tri
  have hs1 := hB1.lt
  have HF := Lib.hid (hB1.fill (.int .i64 t.k) (.int .i64 t.n) (.slice A1 t.al.length cap1) (.cells #[.int .i64 t.k, .int .i64 t.n, .slice A1 t.al.length cap1] 24))
  clear hx hx2 hbw hb1 hB1 HCALL
  go_wp2_with fail
  refine bodyPost_ret (v := .agg #[.int .i64 t.k, .int .i64 t.n, .slice A1 t.al.length cap1]) (by simp [results, Tryd.results21, go_sem, HF.out.1, HF.out.2.1, HF.out.2.2]) rfl ⟨_, rfl, ?_, ?_⟩
  · refine HX.out.keep (fun b hb => by simp; omega) fun p hp => ?_
    have h1 : p.block ≠ w.heap.size := by have := hp.1; omega
    have h2 : p.block < w1.heap.size := hp.2
    refine (World.cell?_alloc_lt _ _ p (by simpa using h2)).trans (World.cell?_of_block ?_)
    rw [Below.heap_setCell _ _ _ _ h1, Below.heap_setCell _ _ _ _ h1, Below.heap_setCell _ _ _ _ h1]
  · exact (((HB.out.setCell (by simp) _).setCell (by simp) _).setCell (by simp) _).alloc (by have := HB.out.size; simp; omega) _
end Go.Proofs.YtjboibbgigkhkaaDoor
