/- A term in a box of its own, while the world turns. -/
import Derived.Test.YtjboibbgigkhkaaDoorPPrintL
namespace Go.Proofs.YtjboibbgigkhkaaDoor
set_option maxRecDepth 100000
open Go.RowKit

/-- a term in a box of its own -/
def Boxed (g : Nat) (t : T) (A : Option Addr) (cap : Nat) (w1 : World) : Prop :=
  Blk w1 g 24 #[.int .i64 t.k, .int .i64 t.n, .slice A t.al.length cap] ∧ argsIn w1 g t (.slice A t.al.length cap) ∧ g < w1.heap.size
theorem Boxed.more {w1 w2 : World} {g : Nat} {t : T} {A : Option Addr} {cap : Nat} (h : Boxed g t A cap w1) (hb : Below w1.heap.size w1 w2) : Boxed g t A cap w2 :=
  ⟨h.1.below hb h.2.2, h.2.1.keep (Nat.le_refl _) (hb.mono (Nat.le_of_lt h.2.2)), Nat.lt_of_lt_of_le h.2.2 hb.size⟩
theorem Boxed.arg {w1 : World} {g : Nat} {t : T} {A : Option Addr} {cap : Nat} (h : Boxed g t A cap w1) : argsIn w1 w1.heap.size t (.slice A t.al.length cap) := h.2.1.keep (Nat.le_of_lt h.2.2) (Below.refl _ _)
theorem Boxed.new {w1 : World} {t : T} {A : Option Addr} {cap : Nat} (ha : argsIn w1 w1.heap.size t (.slice A t.al.length cap)) : Boxed w1.heap.size t A cap (w1.alloc (.cells #[.int .i64 t.k, .int .i64 t.n, .slice A t.al.length cap] 24)) :=
  ⟨Blk.new _ _ _, ha.keep (Nat.le_refl _) ((Below.refl _ _).alloc (Nat.le_refl _) _), by simp⟩

end Go.Proofs.YtjboibbgigkhkaaDoor
