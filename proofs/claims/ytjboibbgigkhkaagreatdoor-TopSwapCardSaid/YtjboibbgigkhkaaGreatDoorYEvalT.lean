/- Plain: the four declarations are right; sums and products come to numbers; reckoned by the kernel. No program here. -/
import Derived.Test.YtjboibbgigkhkaaGreatDoorYGA
namespace Go.Proofs.YtjboibbgigkhkaaGreatDoor

def appP (d : Int) (l : List Nat) : T := l.foldl (fun t n => tAp t (numeralP n)) (tD d)

theorem four_1 : sortTop' [] 400 dAdd.1 = some 0 ∧ checkTop' [] 400 dAdd.2 dAdd.1 = some true := by decide +kernel
theorem four_2 : sortTop' [dAdd] 400 dMul.1 = some 0 ∧ checkTop' [dAdd] 400 dMul.2 dMul.1 = some true := by decide +kernel
theorem four_3 : sortTop' [dAdd, dMul] 400 dSwap.1 = some 0 ∧ checkTop' [dAdd, dMul] 400 dSwap.2 dSwap.1 = some true := by decide +kernel
theorem four_4 : sortTop' [dAdd, dMul, dSwap] 400 dIs.1 = some 1 ∧ checkTop' [dAdd, dMul, dSwap] 400 dIs.2 dIs.1 = some true := by decide +kernel

theorem sums_at : ∀ a < 13, ∀ b < 13, ((evalP four 400 (.value (appP 0 [a, b]) [])).bind (numberP 200)) = some (((a + b : Nat) : Int), true) := by decide +kernel
theorem muls_at : ∀ a < 13, ∀ b < 13, ((evalP four 400 (.value (appP 1 [a, b]) [])).bind (numberP 200)) = some (((a * b : Nat) : Int), true) := by decide +kernel

def isT (a b c : Nat) : T := tAp (tAp (tD 3) (appP 0 [a, b])) (numeralP c)
theorem proof_at : ∀ a < 9, ∀ b < 9, ∀ c < 17, sortTop' four 400 (isT a b c) = some 0 ∧ checkTop' four 400 (.mk 11 0 []) (isT a b c) = some (decide (a + b = c)) := by decide +kernel

def pairT (a b : Nat) : T := .mk 7 0 [tNat, tNat, numeralP a, numeralP b]
/-- a pair's two numbers -/
def numsP (v : Option Val) : Option (Int × Int) := v.bind fun v => (partP 8 v).bind fun x => (partP 9 v).bind fun y => (numberP 200 x).bind fun a => (numberP 200 y).bind fun b => if a.2 && b.2 then some (a.1, b.1) else none
theorem swap_1 : ∀ a < 13, ∀ b < 13, numsP (evalP four 400 (.value (tAp (tD 2) (pairT a b)) [])) = some ((b : Int), (a : Int)) := by decide +kernel
theorem swap_2 : ∀ a < 13, ∀ b < 13, numsP (evalP four 400 (.value (pairT a b) [])) = some ((a : Int), (b : Int)) := by decide +kernel
theorem swap_3 : ∀ a < 13, ∀ b < 13, numsP (evalP four 400 (.value (tAp (tD 2) (tAp (tD 2) (pairT a b))) [])) = some ((a : Int), (b : Int)) := by decide +kernel
end Go.Proofs.YtjboibbgigkhkaaGreatDoor

