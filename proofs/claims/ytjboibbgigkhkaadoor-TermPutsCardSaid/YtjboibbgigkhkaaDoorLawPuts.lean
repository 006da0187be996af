/- sklaw1.TermPuts answers true. -/
import Derived.Test.YtjboibbgigkhkaaDoorLawLift
import Derived.Test.YtjboibbgigkhkaaDoorSwap
namespace Go.Proofs.YtjboibbgigkhkaaDoor
set_option maxRecDepth 100000
open Go.RowKit

/-- the three terms in their boxes -/
def Thr (w : World) (t u v : T) (A B C : Option Addr) (ca cb cc : Nat) (w1 : World) : Prop := Kept w w.heap.size t A ca w1 ∧ Kept w (w.heap.size + 1) u B cb w1 ∧ Kept w (w.heap.size + 2) v C cc w1

section
variable {w w1 w2 : World} {t u v : T} {A B C : Option Addr} {ca cb cc : Nat}
theorem Thr.more (h : Thr w t u v A B C ca cb cc w1) (hb : Below w1.heap.size w1 w2) : Thr w t u v A B C ca cb cc w2 := ⟨h.1.more hb, h.2.1.more hb, h.2.2.more hb⟩
theorem Thr.drew (h : Thr w t u v A B C ca cb cc w1) : Thr w t u v A B C ca cb cc w1.drew := h.more (Below.refl _ _).drew
theorem Thr.alloc (h : Thr w t u v A B C ca cb cc w1) (o : Obj) : Thr w t u v A B C ca cb cc (w1.alloc o) := h.more ((Below.refl _ _).alloc (Nat.le_refl _) o)
theorem Thr.new (ht : argsIn w w.heap.size t (.slice A t.al.length ca)) (hu : argsIn w w.heap.size u (.slice B u.al.length cb)) (hv : argsIn w w.heap.size v (.slice C v.al.length cc)) :
    Thr w t u v A B C ca cb cc (((w.alloc (.cells #[.int .i64 t.k, .int .i64 t.n, .slice A t.al.length ca] 24)).alloc (.cells #[.int .i64 u.k, .int .i64 u.n, .slice B u.al.length cb] 24)).alloc (.cells #[.int .i64 v.k, .int .i64 v.n, .slice C v.al.length cc] 24)) := by
  have h2 := Two.new ht hu
  have hb := h2.1.2.2.1
  have h3 := Kept.new (w := w) (hv.keep hb.size hb) hb
  have h4 := h2.more ((Below.refl _ _).alloc (Nat.le_refl _) (.cells #[.int .i64 v.k, .int .i64 v.n, .slice C v.al.length cc] 24))
  exact ⟨h4.1, h4.2, by simpa using h3⟩
theorem Thr.cells (h : Thr w t u v A B C ca cb cc w1) :
    (w1.cell? ⟨w.heap.size, 0, none⟩ = some (.int .i64 t.k) ∧ w1.cell? ⟨w.heap.size, 1, none⟩ = some (.int .i64 t.n) ∧ w1.cell? ⟨w.heap.size, 2, none⟩ = some (.slice A t.al.length ca)) ∧
    (w1.cell? ⟨w.heap.size + 1, 0, none⟩ = some (.int .i64 u.k) ∧ w1.cell? ⟨w.heap.size + 1, 1, none⟩ = some (.int .i64 u.n) ∧ w1.cell? ⟨w.heap.size + 1, 2, none⟩ = some (.slice B u.al.length cb)) ∧
    (w1.cell? ⟨w.heap.size + 2, 0, none⟩ = some (.int .i64 v.k) ∧ w1.cell? ⟨w.heap.size + 2, 1, none⟩ = some (.int .i64 v.n) ∧ w1.cell? ⟨w.heap.size + 2, 2, none⟩ = some (.slice C v.al.length cc)) := ⟨h.1.1.tri.1, h.2.1.1.tri.1, h.2.2.1.tri.1⟩
end

/-- a term in hand: what it is made of lies not in block g -/
def InB (g : Nat) (t : T) (s : Value) (w1 : World) : Prop := argsInS w1 (fun b => b < w1.heap.size ∧ b ≠ g) t s
/-- a term in a box -/
def Bx (g k : Nat) (t : T) (A : Option Addr) (c : Nat) (w1 : World) : Prop := Blk w1 k 24 #[.int .i64 t.k, .int .i64 t.n, .slice A t.al.length c] ∧ InB g t (.slice A t.al.length c) w1 ∧ k < w1.heap.size

section
variable {g k : Nat} {t u : T} {s su : Value} {A : Option Addr} {c : Nat} {w1 w2 : World}
theorem InB.more (h : InB g t s w1) (hb : Below w1.heap.size w1 w2) : InB g t s w2 := argsInS.keep h (fun _ h' => ⟨Nat.lt_of_lt_of_le h'.1 hb.size, h'.2⟩) (fun p hp => hb.cell hp.1)
theorem InB.alloc (h : InB g t s w1) (o : Obj) : InB w1.heap.size t s (w1.alloc o) := argsInS.keep h (fun _ h' => ⟨by have := h'.1; simp; omega, by have := h'.1; omega⟩) (fun p hp => World.cell?_alloc_lt _ _ _ hp.1)
theorem InB.set (h : InB g t s w1) (i : Nat) (x : Value) : InB g t s (w1.setCell ⟨g, i, none⟩ x) :=
  argsInS.keep h (fun _ h' => ⟨by simpa [World.setCell] using h'.1, h'.2⟩) (fun p hp => World.cell?_of_block (Below.heap_setCell _ _ _ _ hp.2))
theorem InB.in_ (h : InB g t s w1) : argsIn w1 w1.heap.size t s := argsInS.keep h (fun _ h' => h'.1) (fun _ _ => rfl)
theorem InB.of (h : argsIn w1 g t s) (hg : g ≤ w1.heap.size) : InB g t s w1 := argsInS.keep h (fun _ h' => ⟨Nat.lt_of_lt_of_le h' hg, Nat.ne_of_lt h'⟩) (fun _ _ => rfl)
theorem Bx.more (h : Bx g k t A c w1) (hb : Below w1.heap.size w1 w2) : Bx g k t A c w2 := ⟨h.1.below hb h.2.2, h.2.1.more hb, Nat.lt_of_lt_of_le h.2.2 hb.size⟩
theorem Bx.drew (h : Bx g k t A c w1) : Bx g k t A c w1.drew := h.more (Below.refl _ _).drew
theorem Bx.alloc (h : Bx g k t A c w1) (o : Obj) : Bx w1.heap.size k t A c (w1.alloc o) := ⟨h.1.alloc o, h.2.1.alloc o, by have := h.2.2; simp; omega⟩
theorem Bx.set (h : Bx g k t A c w1) (hk : k ≠ g) (i : Nat) (x : Value) : Bx g k t A c (w1.setCell ⟨g, i, none⟩ x) := ⟨h.1.far (by simpa using hk) _, h.2.1.set i x, by simpa [World.setCell] using h.2.2⟩
theorem Bx.cells (h : Bx g k t A c w1) : w1.cell? ⟨k, 0, none⟩ = some (.int .i64 t.k) ∧ w1.cell? ⟨k, 1, none⟩ = some (.int .i64 t.n) ∧ w1.cell? ⟨k, 2, none⟩ = some (.slice A t.al.length c) := h.1.tri.1

/-- behind a call that answers a term -/
def TermB (g : Nat) (t : T) (w : World) (e : Ending) (w' : World) : Prop := ∃ A c, e = .returned (.agg #[.int .i64 t.k, .int .i64 t.n, .slice A t.al.length c]) ∧ InB g t (.slice A t.al.length c) w' ∧ Below w.heap.size w w'
theorem TermPost.toB {w w' : World} {e : Ending} (hg : g < w.heap.size) (h : TermPost t (fun b => b < w.heap.size ∧ b ≠ g) w e w') : TermB g t w e w' := by
  obtain ⟨s, rfl, ha, hb⟩ := h
  obtain ⟨A, c, rfl, -⟩ := argsInS_iff.1 ha
  exact ⟨A, c, rfl, ha.keep (fun b hb' => hb'.elim (fun h => ⟨Nat.lt_of_lt_of_le h.1 hb.size, h.2⟩) (fun h => ⟨h.2, by have := h.1; omega⟩)) (fun _ _ => rfl), hb⟩
theorem put_b {M : Int} (hM : M ≤ 1000000000000) {f fu : Nat} (hok : okT M f t) (hf : 2 * f ≤ 1000000000000) (hu : okT M fu u) (hfu : 2 * fu ≤ 1000000000000) (hs : InB g t s w1) (hsu : InB g u su w1) (hg : g < w1.heap.size) :
    Calls Tryd.prog 12 #[.agg #[.int .i64 t.k, .int .i64 t.n, s], .agg #[.int .i64 u.k, .int .i64 u.n, su]] w1 (TermB g (putT u t 0) w1) :=
  (put_any _ M hM f fu t u w1 s su hok hf hu hfu hs hsu (fun b h => h.1)).mono fun _ _ h => h.toB hg
theorem lift_b {M : Int} (hM : M ≤ 1000000000000) {f : Nat} (hok : okT M f t) (hf : 2 * f ≤ 1000000000000) (hs : InB g t s w1) (hg : g < w1.heap.size) :
    Calls Tryd.prog 9 #[.agg #[.int .i64 t.k, .int .i64 t.n, s], .int .i64 1, .int .i64 0] w1 (TermB g (liftT 1 t 0) w1) :=
  (lift_any _ 1 0 (by omega) (by omega) M hM f t w1 s hok hs (fun b h => h.1) (by omega) (by omega)).mono fun _ _ h => h.toB hg
theorem swap_b {M : Int} (hM : M ≤ 1000000000000) {f : Nat} (hok : okT M f t) (hf : 2 * f ≤ 1000000000000) (hs : InB g t s w1) (hg : g < w1.heap.size) :
    Calls Tryd.prog 14 #[.agg #[.int .i64 t.k, .int .i64 t.n, s], .int .i64 0] w1 (TermB g (swapT t 0) w1) :=
  (swap_any _ M hM f t 0 w1 s hok hs (fun b h => h.1) (by omega) (by omega)).mono fun _ _ h => h.toB hg
end

/-- the three boxes, none of what they hold in block g -/
def Thr3 (g : Nat) (w : World) (t u v : T) (A B C : Option Addr) (ca cb cc : Nat) (w1 : World) : Prop :=
  Bx g w.heap.size t A ca w1 ∧ Bx g (w.heap.size + 1) u B cb w1 ∧ Bx g (w.heap.size + 2) v C cc w1 ∧ Below w.heap.size w w1 ∧ g < w1.heap.size ∧ w.heap.size + 2 ≤ g

section
variable {g : Nat} {w w1 w2 : World} {t u v y : T} {A B C D : Option Addr} {ca cb cc cd : Nat}
theorem Thr3.of (h : Thr w t u v A B C ca cb cc w1) : Thr3 (w.heap.size + 2) w t u v A B C ca cb cc w1 := by
  have hl := h.2.2.2.2.2.1
  exact ⟨⟨h.1.1, InB.of (h.1.2.1.keep (by omega) (Below.refl _ _)) (by omega), h.1.2.2.2.1⟩, ⟨h.2.1.1, InB.of (h.2.1.2.1.keep (by omega) (Below.refl _ _)) (by omega), h.2.1.2.2.2.1⟩, ⟨h.2.2.1, InB.of h.2.2.2.1 (by omega), hl⟩, h.1.2.2.1, hl, Nat.le_refl _⟩
theorem Thr3.more (h : Thr3 g w t u v A B C ca cb cc w1) (hb : Below w1.heap.size w1 w2) : Thr3 g w t u v A B C ca cb cc w2 :=
  ⟨h.1.more hb, h.2.1.more hb, h.2.2.1.more hb, h.2.2.2.1.trans (hb.mono h.2.2.2.1.size), Nat.lt_of_lt_of_le h.2.2.2.2.1 hb.size, h.2.2.2.2.2⟩
theorem Thr3.drew (h : Thr3 g w t u v A B C ca cb cc w1) : Thr3 g w t u v A B C ca cb cc w1.drew := h.more (Below.refl _ _).drew
theorem Thr3.alloc (h : Thr3 g w t u v A B C ca cb cc w1) (o : Obj) : Thr3 w1.heap.size w t u v A B C ca cb cc (w1.alloc o) :=
  ⟨h.1.alloc o, h.2.1.alloc o, h.2.2.1.alloc o, h.2.2.2.1.alloc h.2.2.2.1.size o, by simp, by have := h.2.2.2.2.1; have := h.2.2.2.2.2; omega⟩
theorem Thr3.cells (h : Thr3 g w t u v A B C ca cb cc w1) :
    (w1.cell? ⟨w.heap.size, 0, none⟩ = some (.int .i64 t.k) ∧ w1.cell? ⟨w.heap.size, 1, none⟩ = some (.int .i64 t.n) ∧ w1.cell? ⟨w.heap.size, 2, none⟩ = some (.slice A t.al.length ca)) ∧
    (w1.cell? ⟨w.heap.size + 1, 0, none⟩ = some (.int .i64 u.k) ∧ w1.cell? ⟨w.heap.size + 1, 1, none⟩ = some (.int .i64 u.n) ∧ w1.cell? ⟨w.heap.size + 1, 2, none⟩ = some (.slice B u.al.length cb)) ∧
    (w1.cell? ⟨w.heap.size + 2, 0, none⟩ = some (.int .i64 v.k) ∧ w1.cell? ⟨w.heap.size + 2, 1, none⟩ = some (.int .i64 v.n) ∧ w1.cell? ⟨w.heap.size + 2, 2, none⟩ = some (.slice C v.al.length cc)) ∧
    (w.heap.size < w1.heap.size ∧ w.heap.size + 1 < w1.heap.size ∧ w.heap.size + 2 < w1.heap.size) := ⟨h.1.cells, h.2.1.cells, h.2.2.1.cells, h.1.2.2, h.2.1.2.2, h.2.2.1.2.2⟩
/-- the answer's box, made ahead, is filled -/
theorem Thr3.fill (h : Thr3 g w t u v A B C ca cb cc w1) {z0 z1 z2 : Value} (hB : Blk w1 g 24 #[z0, z1, z2]) (hy : InB g y (.slice D y.al.length cd) w1) (h3 : w.heap.size + 3 ≤ g) :
    Thr3 g w t u v A B C ca cb cc (((w1.setCell ⟨g, 0, none⟩ (.int .i64 y.k)).setCell ⟨g, 1, none⟩ (.int .i64 y.n)).setCell ⟨g, 2, none⟩ (.slice D y.al.length cd)) ∧
    Bx g g y D cd (((w1.setCell ⟨g, 0, none⟩ (.int .i64 y.k)).setCell ⟨g, 1, none⟩ (.int .i64 y.n)).setCell ⟨g, 2, none⟩ (.slice D y.al.length cd)) := by
  refine ⟨⟨((h.1.set (by omega) _ _).set (by omega) _ _).set (by omega) _ _, ((h.2.1.set (by omega) _ _).set (by omega) _ _).set (by omega) _ _, ((h.2.2.1.set (by omega) _ _).set (by omega) _ _).set (by omega) _ _, ((h.2.2.2.1.setCell (by simp; omega) _).setCell (by simp; omega) _).setCell (by simp; omega) _, by simpa [World.setCell] using h.2.2.2.2.1, h.2.2.2.2.2⟩, ?_, ((hy.set _ _).set _ _).set _ _, by simpa [World.setCell] using h.2.2.2.2.1⟩
  have h4 := ((hB.set_ 0 (.int .i64 y.k)).set_ 1 (.int .i64 y.n)).set_ 2 (.slice D y.al.length cd)
  simpa using h4
/-- the answer's box, made last -/
theorem Thr3.box (h : Thr3 g w t u v A B C ca cb cc w1) (hy : InB g y (.slice D y.al.length cd) w1) :
    Thr3 w1.heap.size w t u v A B C ca cb cc (w1.alloc (.cells #[.int .i64 y.k, .int .i64 y.n, .slice D y.al.length cd] 24)) ∧ Bx w1.heap.size w1.heap.size y D cd (w1.alloc (.cells #[.int .i64 y.k, .int .i64 y.n, .slice D y.al.length cd] 24)) :=
  ⟨h.alloc _, Blk.new _ _ _, hy.alloc _, by simp⟩
theorem Thr3.put_tu (h : Thr3 g w t u v A B C ca cb cc w1) (ho : okT 300 24 t) (hu : okT 300 24 u) : Calls Tryd.prog 12 #[.agg #[.int .i64 t.k, .int .i64 t.n, .slice A t.al.length ca], .agg #[.int .i64 u.k, .int .i64 u.n, .slice B u.al.length cb]] w1 (TermB g (putT u t 0) w1) :=
  put_b (by omega) ho (by omega) hu (by omega) h.1.2.1 h.2.1.2.1 h.2.2.2.2.1
theorem Thr3.put_yv (h : Thr3 g w t u v A B C ca cb cc w1) (ho : okT 300 24 t) (hu : okT 300 24 u) (hv : okT 300 24 v) {s : Value} (hy : InB g (putT u t 0) s w1) :
    Calls Tryd.prog 12 #[.agg #[.int .i64 (putT u t 0).k, .int .i64 (putT u t 0).n, s], .agg #[.int .i64 v.k, .int .i64 v.n, .slice C v.al.length cc]] w1 (TermB g (putT v (putT u t 0) 0) w1) :=
  put_b (M := 400) (by omega) ((okT_put 300 24 u hu 24 t 0 (by omega) ho).mono (by omega) (Nat.le_refl _)) (by omega) (hv.mono (by omega) (Nat.le_refl _)) (by omega) hy h.2.2.1.2.1 h.2.2.2.2.1
end

/-- the boxes behind the first half -/
def Qq (g : Nat) (w : World) (t u v : T) (A B C : Option Addr) (ca cb cc : Nat) (k : Nat) (y : T) (D : Option Addr) (cd : Nat) (k2 : Nat) (tt : T) (E : Option Addr) (ce : Nat) (w1 : World) : Prop :=
  Thr3 g w t u v A B C ca cb cc w1 ∧ Bx g k y D cd w1 ∧ Bx g k2 tt E ce w1

section
variable {g k k2 : Nat} {w w1 w2 : World} {t u v y tt z : T} {A B C D E F : Option Addr} {ca cb cc cd ce cf : Nat}
theorem Qq.more (h : Qq g w t u v A B C ca cb cc k y D cd k2 tt E ce w1) (hb : Below w1.heap.size w1 w2) : Qq g w t u v A B C ca cb cc k y D cd k2 tt E ce w2 := ⟨h.1.more hb, h.2.1.more hb, h.2.2.more hb⟩
theorem Qq.drew (h : Qq g w t u v A B C ca cb cc k y D cd k2 tt E ce w1) : Qq g w t u v A B C ca cb cc k y D cd k2 tt E ce w1.drew := h.more (Below.refl _ _).drew
theorem Qq.alloc (h : Qq g w t u v A B C ca cb cc k y D cd k2 tt E ce w1) (o : Obj) : Qq w1.heap.size w t u v A B C ca cb cc k y D cd k2 tt E ce (w1.alloc o) := ⟨h.1.alloc o, h.2.1.alloc o, h.2.2.alloc o⟩
theorem Qq.cells (h : Qq g w t u v A B C ca cb cc k y D cd k2 tt E ce w1) :
    (w1.cell? ⟨k2, 0, none⟩ = some (.int .i64 tt.k) ∧ w1.cell? ⟨k2, 1, none⟩ = some (.int .i64 tt.n) ∧ w1.cell? ⟨k2, 2, none⟩ = some (.slice E tt.al.length ce)) ∧
    (w1.cell? ⟨w.heap.size + 1, 0, none⟩ = some (.int .i64 u.k) ∧ w1.cell? ⟨w.heap.size + 1, 1, none⟩ = some (.int .i64 u.n) ∧ w1.cell? ⟨w.heap.size + 1, 2, none⟩ = some (.slice B u.al.length cb)) ∧
    (w1.cell? ⟨w.heap.size + 2, 0, none⟩ = some (.int .i64 v.k) ∧ w1.cell? ⟨w.heap.size + 2, 1, none⟩ = some (.int .i64 v.n) ∧ w1.cell? ⟨w.heap.size + 2, 2, none⟩ = some (.slice C v.al.length cc)) ∧
    (k2 < w1.heap.size ∧ w.heap.size + 1 < w1.heap.size ∧ w.heap.size + 2 < w1.heap.size) := ⟨h.2.2.cells, h.1.2.1.cells, h.1.2.2.1.cells, h.2.2.2.2, h.1.2.1.2.2, h.1.2.2.1.2.2⟩
theorem Qq.fill (h : Qq g w t u v A B C ca cb cc k y D cd k2 tt E ce w1) {z0 z1 z2 : Value} (hB : Blk w1 g 24 #[z0, z1, z2]) (hz : InB g z (.slice F z.al.length cf) w1) (hk : k < g) (hk2 : k2 < g) (h3 : w.heap.size + 3 ≤ g) :
    Qq g w t u v A B C ca cb cc k y D cd k2 tt E ce (((w1.setCell ⟨g, 0, none⟩ (.int .i64 z.k)).setCell ⟨g, 1, none⟩ (.int .i64 z.n)).setCell ⟨g, 2, none⟩ (.slice F z.al.length cf)) ∧
    Bx g g z F cf (((w1.setCell ⟨g, 0, none⟩ (.int .i64 z.k)).setCell ⟨g, 1, none⟩ (.int .i64 z.n)).setCell ⟨g, 2, none⟩ (.slice F z.al.length cf)) :=
  ⟨⟨(h.1.fill hB hz h3).1, ((h.2.1.set (by omega) _ _).set (by omega) _ _).set (by omega) _ _, ((h.2.2.set (by omega) _ _).set (by omega) _ _).set (by omega) _ _⟩, (h.1.fill hB hz h3).2⟩
theorem Qq.box (h : Qq g w t u v A B C ca cb cc k y D cd k2 tt E ce w1) (hz : InB g z (.slice F z.al.length cf) w1) :
    Qq w1.heap.size w t u v A B C ca cb cc k y D cd k2 tt E ce (w1.alloc (.cells #[.int .i64 z.k, .int .i64 z.n, .slice F z.al.length cf] 24)) ∧ Bx w1.heap.size w1.heap.size z F cf (w1.alloc (.cells #[.int .i64 z.k, .int .i64 z.n, .slice F z.al.length cf] 24)) :=
  ⟨h.alloc _, (h.1.box hz).2⟩
theorem Qq.lift (h : Qq g w t u v A B C ca cb cc k y D cd k2 tt E ce w1) (hv : okT 300 24 v) : Calls Tryd.prog 9 #[.agg #[.int .i64 v.k, .int .i64 v.n, .slice C v.al.length cc], .int .i64 1, .int .i64 0] w1 (TermB g (liftT 1 v 0) w1) :=
  lift_b (by omega) hv (by omega) h.1.2.2.1.2.1 h.1.2.2.2.2.1
theorem Qq.put1 (h : Qq g w t u v A B C ca cb cc k y D cd k2 tt E ce w1) (hv : okT 300 24 v) (ht : okT 301 24 tt) {s : Value} (hs : InB g (liftT 1 v 0) s w1) :
    Calls Tryd.prog 12 #[.agg #[.int .i64 tt.k, .int .i64 tt.n, .slice E tt.al.length ce], .agg #[.int .i64 (liftT 1 v 0).k, .int .i64 (liftT 1 v 0).n, s]] w1 (TermB g (putT (liftT 1 v 0) tt 0) w1) :=
  put_b (M := 301) (by omega) ht (by omega) (okT_lift 1 300 (by omega) 24 v 0 hv) (by omega) h.2.2.2.1 hs h.1.2.2.2.2.1
theorem Qq.put2 (h : Qq g w t u v A B C ca cb cc k y D cd k2 tt E ce w1) (hu : okT 300 24 u) (hv : okT 300 24 v) :
    Calls Tryd.prog 12 #[.agg #[.int .i64 u.k, .int .i64 u.n, .slice B u.al.length cb], .agg #[.int .i64 v.k, .int .i64 v.n, .slice C v.al.length cc]] w1 (TermB g (putT v u 0) w1) :=
  put_b (M := 300) (by omega) hu (by omega) hv (by omega) h.1.2.1.2.1 h.1.2.2.1.2.1 h.1.2.2.2.2.1
theorem Qq.put3 (h : Qq g w t u v A B C ca cb cc k y D cd k2 tt E ce w1) (hu : okT 300 24 u) (hv : okT 300 24 v) (ht : okT 301 24 tt) {s s' : Value} (hs : InB g (putT (liftT 1 v 0) tt 0) s w1) (hs' : InB g (putT v u 0) s' w1) :
    Calls Tryd.prog 12 #[.agg #[.int .i64 (putT (liftT 1 v 0) tt 0).k, .int .i64 (putT (liftT 1 v 0) tt 0).n, s], .agg #[.int .i64 (putT v u 0).k, .int .i64 (putT v u 0).n, s']] w1 (TermB g (putT (putT v u 0) (putT (liftT 1 v 0) tt 0) 0) w1) :=
  put_b (M := 400) (f := 48) (fu := 48) (by omega) ((okT_put 301 24 (liftT 1 v 0) (okT_lift 1 300 (by omega) 24 v 0 hv) 24 tt 0 (by omega) ht).mono (by omega) (Nat.le_refl _)) (by omega)
    ((okT_put 300 24 v hv 24 u 0 (by omega) hu).mono (by omega) (Nat.le_refl _)) (by omega) hs hs' h.1.2.2.2.2.1
end

theorem bounds_of {g k k2 : Nat} {w w1 : World} {t u v y tt : T} {A B C D E : Option Addr} {ca cb cc cd ce : Nat} (h : Qq g w t u v A B C ca cb cc k y D cd k2 tt E ce w1) (h3 : w.heap.size + 3 ≤ k) : k < w1.heap.size ∧ k2 < w1.heap.size ∧ w.heap.size + 3 ≤ w1.heap.size :=
  ⟨h.2.1.2.2, h.2.2.2.2, by have := h.2.1.2.2; omega⟩

theorem ok_wrong2 {t : T} {b d : Int} (h : wrong t b d = 0) (hb : b ≤ 200) (hd : d ≤ 9) : okT 300 24 t := ok_wrong h hb hd

set_option maxHeartbeats 1600000 in
theorem lawputs_any (t u v : T) (bound : Int) (w : World) (s s' s'' : Value) (ht : argsIn w w.heap.size t s) (hu : argsIn w w.heap.size u s') (hv : argsIn w w.heap.size v s'') :
    Calls Tryd.prog 4 #[.agg #[.int .i64 t.k, .int .i64 t.n, s], .agg #[.int .i64 u.k, .int .i64 u.n, s'], .agg #[.int .i64 v.k, .int .i64 v.n, s''], .int .i64 bound] w (BoolPost true w) := by
  obtain ⟨A, ca, rfl, -⟩ := argsIn_iff.1 ht
  obtain ⟨B, cb, rfl, -⟩ := argsIn_iff.1 hu
  obtain ⟨C, cc, rfl, -⟩ := argsIn_iff.1 hv
  have HK0 := Lib.hid (Thr.new ht hu hv)
  clear ht hu hv
  go_enter Tryd.func4, Tryd.ntmps4
  go_wp2_with fail
  refine (talive_any _).mono ?_
  rintro e w1 ⟨rfl, hb1⟩
  have HK1 := Lib.hid (HK0.out.more hb1)
  clear hb1 HK0
  go_upto_region 3 with fail
  go_cut [39] (fun x wc => ∃ c : Bool, x = .bool c ∧ (c = false → 0 ≤ bound ∧ bound ≤ 100 ∧ wrong t (bound + 2) 9 = 0 ∧ wrong u (bound + 1) 9 = 0 ∧ wrong v bound 9 = 0) ∧ Thr w t u v A B C ca cb cc wc)
  case first =>
    by_cases g1 : bound < 0
    · go_wp2_with fail
      go_meet
      exact ⟨true, rfl, fun h => (by cases h), HK1.out⟩
    · by_cases g2 : 100 < bound
      · go_wp2_with fail
        go_meet
        exact ⟨true, rfl, fun h => (by cases h), HK1.out⟩
      · obtain ⟨k0, k1, k2⟩ := HK1.out.1.1.tri.1
        have e1 : IntKind.i64.wrap (bound + 1) = bound + 1 := IntWalk.i64_in _ (by omega)
        have e2 : IntKind.i64.wrap (bound + 2) = bound + 2 := IntWalk.i64_in _ (by omega)
        go_wp2_with fail
        refine (wrong_any t (bound + 2) 9 w1 _ HK1.out.1.arg (by omega) (by omega)).mono ?_
        rintro e w2 ⟨rfl, hb2⟩
        have HK2 := Lib.hid (HK1.out.more hb2)
        clear hb2 HK1 k0 k1 k2
        obtain ⟨r1, hr1⟩ : ∃ r, wrong t (bound + 2) 9 = r := ⟨_, rfl⟩
        rw [hr1]
        have HR1 := Lib.hid hr1
        clear hr1
        by_cases z1 : r1 = 0
        · have zb1 : (r1 != 0) = false := by simpa using z1
          obtain ⟨k0, k1, k2⟩ := HK2.out.2.1.1.tri.1
          have Z1 := Lib.hid z1
          clear z1
          go_wp2_with fail
          refine (wrong_any u (bound + 1) 9 w2 _ HK2.out.2.1.arg (by omega) (by omega)).mono ?_
          rintro e w3 ⟨rfl, hb3⟩
          have HK3 := Lib.hid (HK2.out.more hb3)
          clear hb3 HK2 k0 k1 k2
          obtain ⟨r2, hr2⟩ : ∃ r, wrong u (bound + 1) 9 = r := ⟨_, rfl⟩
          rw [hr2]
          have HR2 := Lib.hid hr2
          clear hr2
          by_cases z2 : r2 = 0
          · have zb2 : (r2 != 0) = false := by simpa using z2
            obtain ⟨k0, k1, k2⟩ := HK3.out.2.2.1.tri.1
            have Z2 := Lib.hid z2
            clear z2
            go_wp2_with fail
            refine (wrong_any v bound 9 w3 _ HK3.out.2.2.arg (by omega) (by omega)).mono ?_
            rintro e w4 ⟨rfl, hb4⟩
            have HK4 := Lib.hid (HK3.out.more hb4)
            clear hb4 HK3 k0 k1 k2
            obtain ⟨r3, hr3⟩ : ∃ r, wrong v bound 9 = r := ⟨_, rfl⟩
            rw [hr3]
            have HR3 := Lib.hid hr3
            clear hr3
            by_cases z3 : r3 = 0
            · have zb3 : (r3 != 0) = false := by simpa using z3
              have Z3 := Lib.hid z3
              clear z3
              go_wp2_with fail
              go_meet
              exact ⟨false, rfl, fun _ => ⟨by omega, by omega, HR1.out.trans Z1.out, HR2.out.trans Z2.out, HR3.out.trans Z3.out⟩, HK4.out⟩
            · have zb3 : (r3 != 0) = true := by simpa using z3
              clear z3
              go_wp2_with fail
              go_meet
              exact ⟨true, rfl, fun h => (by cases h), HK4.out⟩
          · have zb2 : (r2 != 0) = true := by simpa using z2
            clear z2
            go_wp2_with fail
            go_meet
            exact ⟨true, rfl, fun h => (by cases h), HK3.out⟩
        · have zb1 : (r1 != 0) = true := by simpa using z1
          clear z1
          go_wp2_with fail
          go_meet
          exact ⟨true, rfl, fun h => (by cases h), HK2.out⟩
  case rest =>
    obtain ⟨c, rfl, hc, hK⟩ := hcut
    cases c with
    | true =>
      go_wp2_with fail
      go_ret
      exact ⟨rfl, hK.1.2.2.1⟩
    | false =>
      obtain ⟨c1, c2, c3, c4, c5⟩ := hc rfl
      have HK := Lib.hid hK
      have HO := Lib.hid (And.intro (ok_wrong c3 (by omega) (by omega)) (And.intro (ok_wrong c4 (by omega) (by omega)) (ok_wrong c5 (by omega) (by omega))))
      have H0 := Lib.hid (Thr3.of hK)
      clear c3 c4 c5 hc hK HK
      go_upto_region 5 with fail
      go_cut [9] (fun x wd => ∃ k A9 c9, x = .pointer (some ⟨k, 0, none⟩) ∧ Thr3 k w t u v A B C ca cb cc wd ∧ Bx k k (putT v (putT u t 0) 0) A9 c9 wd ∧ w.heap.size + 3 ≤ k)
      case first =>
        (obtain ⟨⟨a0, a1, a2⟩, ⟨a3, a4, a5⟩, ⟨a6, a7, a8⟩, al0, al1, al2⟩ := H0.out.cells)
        have HA := Lib.hid (H0.out.alloc (.cells #[.int .i64 0, .int .i64 0, .slice none 0 0] 24)).drew
        have HBg := Lib.hid (Blk.new wc 24 #[.int .i64 0, .int .i64 0, .slice none 0 0]).drew
        have hg3 : w.heap.size + 3 ≤ wc.heap.size := by omega
        go_wp2_with fail
        go_region_held3 (fun w' => w'.cell? ⟨w.heap.size, 0, none⟩ = some (.int .i64 t.k) ∧ w'.cell? ⟨w.heap.size, 1, none⟩ = some (.int .i64 t.n) ∧ w'.cell? ⟨w.heap.size, 2, none⟩ = some (.slice A t.al.length ca) ∧
            w'.cell? ⟨w.heap.size + 1, 0, none⟩ = some (.int .i64 u.k) ∧ w'.cell? ⟨w.heap.size + 1, 1, none⟩ = some (.int .i64 u.n) ∧ w'.cell? ⟨w.heap.size + 1, 2, none⟩ = some (.slice B u.al.length cb) ∧
            w'.cell? ⟨w.heap.size + 2, 0, none⟩ = some (.int .i64 v.k) ∧ w'.cell? ⟨w.heap.size + 2, 1, none⟩ = some (.int .i64 v.n) ∧ w'.cell? ⟨w.heap.size + 2, 2, none⟩ = some (.slice C v.al.length cc)) (go_keep)
          (first
            | ((with_reducible refine (HA.out.put_tu HO.out.1 HO.out.2.1).mono ?_); rintro e w4 ⟨A4, c4, rfl, h4, hb4⟩; (have HA4 := Lib.hid (And.intro (HA.out.more hb4) h4)); (have HBg4 := Lib.hid (HBg.out.below hb4 HBg.out.lt)); (obtain ⟨⟨d0, d1, d2⟩, ⟨d3, d4, d5⟩, ⟨d6, d7, d8⟩, dl0, dl1, dl2⟩ := HA4.out.1.cells); clear h4 hb4)
            | ((with_reducible refine (H0.out.drew.put_tu HO.out.1 HO.out.2.1).mono ?_); rintro e w4 ⟨A4, c4, rfl, h4, hb4⟩; (have HC4 := Lib.hid (And.intro (H0.out.drew.more hb4) h4)); (have HS4 := Lib.hid (show wc.heap.size ≤ w4.heap.size from hb4.size)); (have HD4 := Lib.hid (And.intro (HC4.out.1.alloc (.cells #[.int .i64 0, .int .i64 0, .slice none 0 0] 24)) (HC4.out.2.alloc (.cells #[.int .i64 0, .int .i64 0, .slice none 0 0] 24)))); (obtain ⟨⟨d0, d1, d2⟩, ⟨d3, d4, d5⟩, ⟨d6, d7, d8⟩, dl0, dl1, dl2⟩ := HC4.out.1.cells); clear h4 hb4)
            | ((with_reducible refine (HA4.out.1.put_yv HO.out.1 HO.out.2.1 HO.out.2.2 HA4.out.2).mono ?_); rintro e w5 ⟨A5, c5, rfl, h5, hb5⟩; (have HE := Lib.hid (And.intro (HA4.out.1.more hb5) (And.intro (HBg4.out.below hb5 HBg4.out.lt) h5))); (obtain ⟨⟨z0, z1, z2⟩, y0, y1, y2⟩ := HE.out.2.1.tri); (obtain ⟨⟨f0, f1, f2⟩, ⟨f3, f4, f5⟩, ⟨f6, f7, f8⟩, fl0, fl1, fl2⟩ := HE.out.1.cells); (obtain ⟨⟨p0, p1, p2⟩, ⟨p3, p4, p5⟩, ⟨p6, p7, p8⟩, pl0, pl1, pl2⟩ := (HE.out.1.fill HE.out.2.1 HE.out.2.2 hg3).1.cells); clear h5 hb5)
            | ((with_reducible refine (HD4.out.1.put_yv HO.out.1 HO.out.2.1 HO.out.2.2 HD4.out.2).mono ?_); rintro e w5 ⟨A5, c5, rfl, h5, hb5⟩; (have HE := Lib.hid (And.intro (HD4.out.1.more hb5) (And.intro ((Blk.new w4 24 #[.int .i64 0, .int .i64 0, .slice none 0 0]).below hb5 (by simp)) h5))); (obtain ⟨⟨z0, z1, z2⟩, y0, y1, y2⟩ := HE.out.2.1.tri); (obtain ⟨⟨f0, f1, f2⟩, ⟨f3, f4, f5⟩, ⟨f6, f7, f8⟩, fl0, fl1, fl2⟩ := HE.out.1.cells); (have hg4 := Nat.le_trans hg3 HS4.out); (obtain ⟨⟨p0, p1, p2⟩, ⟨p3, p4, p5⟩, ⟨p6, p7, p8⟩, pl0, pl1, pl2⟩ := (HE.out.1.fill HE.out.2.1 HE.out.2.2 hg4).1.cells); clear h5 hb5)
            | ((with_reducible refine (HC4.out.1.put_yv HO.out.1 HO.out.2.1 HO.out.2.2 HC4.out.2).mono ?_); rintro e w5 ⟨A5, c5, rfl, h5, hb5⟩; (have HF := Lib.hid (And.intro (HC4.out.1.more hb5) h5)); (obtain ⟨⟨f0, f1, f2⟩, ⟨f3, f4, f5⟩, ⟨f6, f7, f8⟩, fl0, fl1, fl2⟩ := HF.out.1.cells); clear h5 hb5)
            | fail)
        all_goals go_wp2_with fail
        all_goals go_meet
        all_goals first
          | exact ⟨_, _, _, rfl, (HE.out.1.fill HE.out.2.1 HE.out.2.2 hg4).1, (HE.out.1.fill HE.out.2.1 HE.out.2.2 hg4).2, hg4⟩
          | exact ⟨_, _, _, rfl, (HE.out.1.fill HE.out.2.1 HE.out.2.2 hg3).1, (HE.out.1.fill HE.out.2.1 HE.out.2.2 hg3).2, hg3⟩
          | exact ⟨_, _, _, rfl, (HF.out.1.box HF.out.2).1, (HF.out.1.box HF.out.2).2, by omega⟩
      case rest =>
        obtain ⟨k, A9, c9, rfl, h3, hy, hk3⟩ := hcut
        have HK3 := Lib.hid hk3
        have H3 := Lib.hid h3
        have HY := Lib.hid hy
        obtain ⟨⟨a0, a1, a2⟩, -⟩ := h3.cells
        clear h3 hy hk3
        have HTT := Lib.hid (show okT 301 24 (swapT t 0) from okT_swap 300 24 t 0 (by omega) HO.out.1)
        go_wp2_with fail
        refine (swap_b (by omega) HO.out.1 (by omega) H3.out.1.2.1 H3.out.2.2.2.2.1).mono ?_
        rintro e w6 ⟨A6, c6, rfl, h6, hb6⟩
        have HQ := Lib.hid (show Qq w6.heap.size w t u v A B C ca cb cc k (putT v (putT u t 0) 0) A9 c9 w6.heap.size (swapT t 0) A6 c6 _ from ⟨(H3.out.more hb6).alloc _, (HY.out.more hb6).alloc _, ((H3.out.more hb6).box h6).2⟩)
        clear h6 hb6 a0 a1 a2 H3 HY
        go_wp2_with fail
        generalize w6.alloc (.cells #[.int .i64 (swapT t 0).k, .int .i64 (swapT t 0).n, .slice A6 (swapT t 0).al.length c6] 24) = w7 at *
        obtain ⟨k2, hk2⟩ : ∃ k2, w6.heap.size = k2 := ⟨_, rfl⟩
        rw [hk2] at HQ ⊢
        obtain ⟨tt, htt⟩ : ∃ tt, swapT t 0 = tt := ⟨_, rfl⟩
        rw [htt] at HQ HTT
        have HST := Lib.hid htt
        clear hk2 htt
        (obtain ⟨⟨a0, a1, a2⟩, ⟨a3, a4, a5⟩, ⟨a6, a7, a8⟩, al0, al1, al2⟩ := HQ.out.cells)
        have HP0 := Lib.hid (And.intro HQ.out.drew (And.intro trivial trivial))
        have HQ0 := Lib.hid (And.intro (HQ.out.alloc (.cells #[.int .i64 0, .int .i64 0, .slice none 0 0] 24)).drew (And.intro (And.intro (Blk.new w7 24 #[.int .i64 0, .int .i64 0, .slice none 0 0]).drew (bounds_of HQ.out HK3.out)) trivial))
        go_upto_region 7 with fail
        go_cut [11] (fun x we => ∃ g m A11 c11, x = .pointer (some ⟨m, 0, none⟩) ∧ Qq g w t u v A B C ca cb cc k (putT v (putT u t 0) 0) A9 c9 k2 tt A6 c6 we ∧ Bx g m (putT (putT v u 0) (putT (liftT 1 v 0) tt 0) 0) A11 c11 we)
        case first =>
          go_wp2_with fail
          go_region_held3 (fun w' => w'.cell? ⟨k2, 0, none⟩ = some (.int .i64 tt.k) ∧ w'.cell? ⟨k2, 1, none⟩ = some (.int .i64 tt.n) ∧ w'.cell? ⟨k2, 2, none⟩ = some (.slice A6 tt.al.length c6) ∧
              w'.cell? ⟨w.heap.size + 1, 0, none⟩ = some (.int .i64 u.k) ∧ w'.cell? ⟨w.heap.size + 1, 1, none⟩ = some (.int .i64 u.n) ∧ w'.cell? ⟨w.heap.size + 1, 2, none⟩ = some (.slice B u.al.length cb) ∧
              w'.cell? ⟨w.heap.size + 2, 0, none⟩ = some (.int .i64 v.k) ∧ w'.cell? ⟨w.heap.size + 2, 1, none⟩ = some (.int .i64 v.n) ∧ w'.cell? ⟨w.heap.size + 2, 2, none⟩ = some (.slice C v.al.length cc)) (go_keep)
            (first
              | ((with_reducible refine (HQ0.out.1.lift HO.out.2.2).mono ?_); rintro e x1 ⟨X1, d1, rfl, h, hb⟩; (have HQ1 := Lib.hid (And.intro (HQ0.out.1.more hb) (And.intro (And.intro (HQ0.out.2.1.1.below hb HQ0.out.2.1.1.lt) HQ0.out.2.1.2) h))); (obtain ⟨⟨aq0, aq1, aq2⟩, ⟨aq3, aq4, aq5⟩, ⟨aq6, aq7, aq8⟩, aql0, aql1, aql2⟩ := HQ1.out.1.cells); clear h hb)
              | ((with_reducible refine (HP0.out.1.lift HO.out.2.2).mono ?_); rintro e x1 ⟨X1, d1, rfl, h, hb⟩; (have HP1 := Lib.hid (And.intro (HP0.out.1.more hb) (And.intro HP0.out.2.1 h))); (obtain ⟨⟨ap0, ap1, ap2⟩, ⟨ap3, ap4, ap5⟩, ⟨ap6, ap7, ap8⟩, apl0, apl1, apl2⟩ := HP1.out.1.cells); (have HA1 := Lib.hid (And.intro (HP1.out.1.alloc (.cells #[.int .i64 0, .int .i64 0, .slice none 0 0] 24)) (And.intro (And.intro (Blk.new x1 24 #[.int .i64 0, .int .i64 0, .slice none 0 0]) (bounds_of HP1.out.1 HK3.out)) (HP1.out.2.2.alloc (.cells #[.int .i64 0, .int .i64 0, .slice none 0 0] 24))))); clear h hb)
              | ((with_reducible refine (HQ1.out.1.put1 HO.out.2.2 HTT.out HQ1.out.2.2).mono ?_); rintro e x2 ⟨X2, d2, rfl, h, hb⟩; (have HQ2 := Lib.hid (And.intro (HQ1.out.1.more hb) (And.intro (And.intro (HQ1.out.2.1.1.below hb HQ1.out.2.1.1.lt) HQ1.out.2.1.2) h))); (obtain ⟨⟨bq0, bq1, bq2⟩, ⟨bq3, bq4, bq5⟩, ⟨bq6, bq7, bq8⟩, bql0, bql1, bql2⟩ := HQ2.out.1.cells); clear h hb)
              | ((with_reducible refine (HA1.out.1.put1 HO.out.2.2 HTT.out HA1.out.2.2).mono ?_); rintro e x2 ⟨X2, d2, rfl, h, hb⟩; (have HQ2 := Lib.hid (And.intro (HA1.out.1.more hb) (And.intro (And.intro (HA1.out.2.1.1.below hb HA1.out.2.1.1.lt) HA1.out.2.1.2) h))); (obtain ⟨⟨bq0, bq1, bq2⟩, ⟨bq3, bq4, bq5⟩, ⟨bq6, bq7, bq8⟩, bql0, bql1, bql2⟩ := HQ2.out.1.cells); clear h hb)
              | ((with_reducible refine (HP1.out.1.put1 HO.out.2.2 HTT.out HP1.out.2.2).mono ?_); rintro e x2 ⟨X2, d2, rfl, h, hb⟩; (have HP2 := Lib.hid (And.intro (HP1.out.1.more hb) (And.intro HP1.out.2.1 h))); (obtain ⟨⟨bp0, bp1, bp2⟩, ⟨bp3, bp4, bp5⟩, ⟨bp6, bp7, bp8⟩, bpl0, bpl1, bpl2⟩ := HP2.out.1.cells); (have HA2 := Lib.hid (And.intro (HP2.out.1.alloc (.cells #[.int .i64 0, .int .i64 0, .slice none 0 0] 24)) (And.intro (And.intro (Blk.new x2 24 #[.int .i64 0, .int .i64 0, .slice none 0 0]) (bounds_of HP2.out.1 HK3.out)) (HP2.out.2.2.alloc (.cells #[.int .i64 0, .int .i64 0, .slice none 0 0] 24))))); clear h hb)
              | ((with_reducible refine (HQ2.out.1.put2 HO.out.2.1 HO.out.2.2).mono ?_); rintro e x3 ⟨X3, d3, rfl, h, hb⟩; (have HQ3 := Lib.hid (And.intro (HQ2.out.1.more hb) (And.intro (And.intro (HQ2.out.2.1.1.below hb HQ2.out.2.1.1.lt) HQ2.out.2.1.2) (And.intro (HQ2.out.2.2.more hb) h)))); (obtain ⟨⟨cq0, cq1, cq2⟩, ⟨cq3, cq4, cq5⟩, ⟨cq6, cq7, cq8⟩, cql0, cql1, cql2⟩ := HQ3.out.1.cells); clear h hb)
              | ((with_reducible refine (HA2.out.1.put2 HO.out.2.1 HO.out.2.2).mono ?_); rintro e x3 ⟨X3, d3, rfl, h, hb⟩; (have HQ3 := Lib.hid (And.intro (HA2.out.1.more hb) (And.intro (And.intro (HA2.out.2.1.1.below hb HA2.out.2.1.1.lt) HA2.out.2.1.2) (And.intro (HA2.out.2.2.more hb) h)))); (obtain ⟨⟨cq0, cq1, cq2⟩, ⟨cq3, cq4, cq5⟩, ⟨cq6, cq7, cq8⟩, cql0, cql1, cql2⟩ := HQ3.out.1.cells); clear h hb)
              | ((with_reducible refine (HP2.out.1.put2 HO.out.2.1 HO.out.2.2).mono ?_); rintro e x3 ⟨X3, d3, rfl, h, hb⟩; (have HP3 := Lib.hid (And.intro (HP2.out.1.more hb) (And.intro HP2.out.2.1 (And.intro (HP2.out.2.2.more hb) h)))); (obtain ⟨⟨cp0, cp1, cp2⟩, ⟨cp3, cp4, cp5⟩, ⟨cp6, cp7, cp8⟩, cpl0, cpl1, cpl2⟩ := HP3.out.1.cells); (have HA3 := Lib.hid (And.intro (HP3.out.1.alloc (.cells #[.int .i64 0, .int .i64 0, .slice none 0 0] 24)) (And.intro (And.intro (Blk.new x3 24 #[.int .i64 0, .int .i64 0, .slice none 0 0]) (bounds_of HP3.out.1 HK3.out)) (And.intro (HP3.out.2.2.1.alloc (.cells #[.int .i64 0, .int .i64 0, .slice none 0 0] 24)) (HP3.out.2.2.2.alloc (.cells #[.int .i64 0, .int .i64 0, .slice none 0 0] 24)))))); clear h hb)
              | ((with_reducible refine (HQ3.out.1.put3 HO.out.2.1 HO.out.2.2 HTT.out HQ3.out.2.2.1 HQ3.out.2.2.2).mono ?_); rintro e x4 ⟨X4, d4, rfl, h, hb⟩; (have HQ4 := Lib.hid (And.intro (HQ3.out.1.more hb) (And.intro (And.intro (HQ3.out.2.1.1.below hb HQ3.out.2.1.1.lt) HQ3.out.2.1.2) h))); (obtain ⟨⟨dq0, dq1, dq2⟩, ⟨dq3, dq4, dq5⟩, ⟨dq6, dq7, dq8⟩, dql0, dql1, dql2⟩ := HQ4.out.1.cells); (obtain ⟨⟨zz0, zz1, zz2⟩, yy0, yy1, yy2⟩ := HQ4.out.2.1.1.tri); (obtain ⟨⟨pp0, pp1, pp2⟩, ⟨pp3, pp4, pp5⟩, ⟨pp6, pp7, pp8⟩, ppl0, ppl1, ppl2⟩ := (HQ4.out.1.fill HQ4.out.2.1.1 HQ4.out.2.2 HQ4.out.2.1.2.1 HQ4.out.2.1.2.2.1 HQ4.out.2.1.2.2.2).1.cells); clear h hb)
              | ((with_reducible refine (HA3.out.1.put3 HO.out.2.1 HO.out.2.2 HTT.out HA3.out.2.2.1 HA3.out.2.2.2).mono ?_); rintro e x4 ⟨X4, d4, rfl, h, hb⟩; (have HQ4 := Lib.hid (And.intro (HA3.out.1.more hb) (And.intro (And.intro (HA3.out.2.1.1.below hb HA3.out.2.1.1.lt) HA3.out.2.1.2) h))); (obtain ⟨⟨dq0, dq1, dq2⟩, ⟨dq3, dq4, dq5⟩, ⟨dq6, dq7, dq8⟩, dql0, dql1, dql2⟩ := HQ4.out.1.cells); (obtain ⟨⟨zz0, zz1, zz2⟩, yy0, yy1, yy2⟩ := HQ4.out.2.1.1.tri); (obtain ⟨⟨pp0, pp1, pp2⟩, ⟨pp3, pp4, pp5⟩, ⟨pp6, pp7, pp8⟩, ppl0, ppl1, ppl2⟩ := (HQ4.out.1.fill HQ4.out.2.1.1 HQ4.out.2.2 HQ4.out.2.1.2.1 HQ4.out.2.1.2.2.1 HQ4.out.2.1.2.2.2).1.cells); clear h hb)
              | ((with_reducible refine (HP3.out.1.put3 HO.out.2.1 HO.out.2.2 HTT.out HP3.out.2.2.1 HP3.out.2.2.2).mono ?_); rintro e x4 ⟨X4, d4, rfl, h, hb⟩; (have HP4 := Lib.hid (And.intro (HP3.out.1.more hb) (And.intro HP3.out.2.1 h))); (obtain ⟨⟨dp0, dp1, dp2⟩, ⟨dp3, dp4, dp5⟩, ⟨dp6, dp7, dp8⟩, dpl0, dpl1, dpl2⟩ := HP4.out.1.cells); clear h hb)
              | fail)
          all_goals go_wp2_with fail
          all_goals go_meet
          all_goals first
            | exact ⟨_, _, _, _, rfl, (HQ4.out.1.fill HQ4.out.2.1.1 HQ4.out.2.2 HQ4.out.2.1.2.1 HQ4.out.2.1.2.2.1 HQ4.out.2.1.2.2.2).1, (HQ4.out.1.fill HQ4.out.2.1.1 HQ4.out.2.2 HQ4.out.2.1.2.1 HQ4.out.2.1.2.2.1 HQ4.out.2.1.2.2.2).2⟩
            | exact ⟨_, _, _, _, rfl, (HP4.out.1.box HP4.out.2.2).1, (HP4.out.1.box HP4.out.2.2).2⟩
        case rest =>
          obtain ⟨g, m, A11, c11, rfl, hq, hz⟩ := hcut
          obtain ⟨m0, m1, m2⟩ := hz.cells
          obtain ⟨n0, n1, n2⟩ := hq.2.1.cells
          have hE : putT (putT v u 0) (putT (liftT 1 v 0) tt 0) 0 = putT v (putT u t 0) 0 := by rw [← HST.out]; exact (term_puts t u v).symm
          rw [hE] at hz m0 m1 m2
          have HF := Lib.hid (And.intro hq hz)
          clear hq hz hE HQ HP0 HQ0
          obtain ⟨y, hy⟩ : ∃ y, putT v (putT u t 0) 0 = y := ⟨_, rfl⟩
          rw [hy] at HF m0 m1 m2 n0 n1 n2
          clear hy
          go_wp2_with fail
          refine (same_self y wc HF.out.1.2.1.2.1.in_ HF.out.2.2.1.in_).mono ?_
          rintro e w9 ⟨rfl, hb9⟩
          have HB := Lib.hid (HF.out.1.1.2.2.2.1.trans (hb9.mono HF.out.1.1.2.2.2.1.size))
          clear hb9
          go_wp2_with fail
          go_ret
          exact ⟨rfl, HB.out⟩
end Go.Proofs.YtjboibbgigkhkaaDoor
