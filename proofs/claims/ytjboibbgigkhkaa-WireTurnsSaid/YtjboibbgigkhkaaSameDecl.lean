import Derived.Test.YtjboibbgigkhkaaWDecl
import Derived.Test.YtjboibbgigkhkaaSame
namespace Go.Proofs.Ytjboibbgigkhkaa
open Go.RowKit

def sameD (a b : D) : Bool := (a.name == b.name && sameT a.type b.type) && sameT a.body b.body

theorem sameD_iff (a b : D) : sameD a b = true ↔ a = b := by
  obtain ⟨n, t, u⟩ := a
  obtain ⟨n', t', u'⟩ := b
  simp only [sameD, Bool.and_eq_true, beq_iff_eq, D.mk.injEq]
  rw [same_iff.1 t t', same_iff.1 u u', and_assoc]

theorem box2D (w : World) (a b : D) (s s' z z' : Value) (t : TypeId) :
    boxD ((w.alloc (.cells #[.string ⟨a.name.toArray⟩, .int .i64 a.type.k, .int .i64 a.type.n, s, .int .i64 a.body.k, .int .i64 a.body.n, s'] t)).alloc (.cells #[.string ⟨b.name.toArray⟩, .int .i64 b.type.k, .int .i64 b.type.n, z, .int .i64 b.body.k, .int .i64 b.body.n, z'] t)) w.heap.size a s s' ∧
    boxD ((w.alloc (.cells #[.string ⟨a.name.toArray⟩, .int .i64 a.type.k, .int .i64 a.type.n, s, .int .i64 a.body.k, .int .i64 a.body.n, s'] t)).alloc (.cells #[.string ⟨b.name.toArray⟩, .int .i64 b.type.k, .int .i64 b.type.n, z, .int .i64 b.body.k, .int .i64 b.body.n, z'] t)) (w.heap.size + 1) b z z' := by
  refine ⟨(boxD.new w a s s' t).keep ((Below.refl (w.heap.size + 1) _).alloc (by simp) _) (by omega), ?_⟩
  have h := boxD.new (w.alloc (.cells #[.string ⟨a.name.toArray⟩, .int .i64 a.type.k, .int .i64 a.type.n, s, .int .i64 a.body.k, .int .i64 a.body.n, s'] t)) b z z' t
  simpa using h

set_option maxHeartbeats 1000000 in
theorem sameDecl_any (a b : D) (w : World) (s s' z z' : Value) (hs : argsIn w w.heap.size a.type s) (hs' : argsIn w w.heap.size a.body s') (hz : argsIn w w.heap.size b.type z) (hz' : argsIn w w.heap.size b.body z') :
    Calls Try.prog 12 #[.agg #[.string ⟨a.name.toArray⟩, .int .i64 a.type.k, .int .i64 a.type.n, s, .int .i64 a.body.k, .int .i64 a.body.n, s'], .agg #[.string ⟨b.name.toArray⟩, .int .i64 b.type.k, .int .i64 b.type.n, z, .int .i64 b.body.k, .int .i64 b.body.n, z']] w (BoolPost (sameD a b) w) := by
  obtain ⟨A, cap, rfl, -⟩ := argsIn_iff.1 hs
  obtain ⟨A', cap', rfl, -⟩ := argsIn_iff.1 hs'
  obtain ⟨E, fap, rfl, -⟩ := argsIn_iff.1 hz
  obtain ⟨E', fap', rfl, -⟩ := argsIn_iff.1 hz'
  have hR : sameD a b = ((a.name == b.name && sameT a.type b.type) && sameT a.body b.body) := rfl
  generalize sameD a b = R at *
  by_cases hn : a.name = b.name
  · have hnb : (a.name == b.name) = true := by simpa using hn
    rw [hnb, Bool.true_and] at hR
    have HR := Lib.hid hR
    clear hR hn
    go_enter Try.func12, Try.ntmps12
    go_wp2_with fail
    have hb0 := ((Below.refl w.heap.size w).alloc (Nat.le_refl _) (.cells #[.string ⟨a.name.toArray⟩, .int .i64 a.type.k, .int .i64 a.type.n, .slice A a.type.al.length cap, .int .i64 a.body.k, .int .i64 a.body.n, .slice A' a.body.al.length cap'] 26)).alloc (by simp) (.cells #[.string ⟨b.name.toArray⟩, .int .i64 b.type.k, .int .i64 b.type.n, .slice E b.type.al.length fap, .int .i64 b.body.k, .int .i64 b.body.n, .slice E' b.body.al.length fap'] 26)
    refine (same_any a.type b.type _ _ _ (hs.keep hb0.size hb0) (hz.keep hb0.size hb0)).mono ?_
    rintro e w1 ⟨rfl, hb1⟩
    obtain ⟨x1, x2⟩ := box2D w a b (.slice A a.type.al.length cap) (.slice A' a.body.al.length cap') (.slice E b.type.al.length fap) (.slice E' b.body.al.length fap') 26
    have y1 := x1.keep hb1 (by simp; omega)
    have y2 := x2.keep hb1 (by simp)
    obtain ⟨_, _, _, _, a4, a5, a6⟩ := y1
    obtain ⟨_, _, _, _, b4, b5, b6⟩ := y2
    have hb2 := hb0.trans (hb1.mono hb0.size)
    clear x1 x2 hb0 hb1
    generalize sameT a.type b.type = q at *
    cases q with
    | false =>
      have hR := HR.out
      rw [Bool.false_and] at hR
      subst hR
      go_wp2_with fail
      go_ret
      exact ⟨rfl, hb2⟩
    | true =>
      have hR := HR.out
      rw [Bool.true_and] at hR
      have HR2 := Lib.hid hR
      clear hR HR
      go_wp2_with fail
      refine (same_any a.body b.body _ _ _ (hs'.keep hb2.size hb2) (hz'.keep hb2.size hb2)).mono ?_
      rintro e w2 ⟨rfl, hb3⟩
      have hb4 := hb2.trans (hb3.mono hb2.size)
      go_wp2_with fail
      go_ret
      exact ⟨by rw [HR2.out]; rfl, hb4⟩
  · have hnb : (a.name == b.name) = false := by simpa using hn
    rw [hnb, Bool.false_and, Bool.false_and] at hR
    subst hR
    clear hn
    go_enter Try.func12, Try.ntmps12
    go_wp2_with fail
    go_ret
    exact ⟨rfl, ((Below.refl _ _).alloc (Nat.le_refl _) _).alloc (by simp) _⟩
end Go.Proofs.Ytjboibbgigkhkaa
