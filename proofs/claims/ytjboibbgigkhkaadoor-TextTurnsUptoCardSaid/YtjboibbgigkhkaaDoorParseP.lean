/- Plain: the words of a text, and the term of a text, word by word. No program here. -/
import Derived.Test.YtjboibbgigkhkaaDoorPlain
namespace Go.Proofs.YtjboibbgigkhkaaDoor

abbrev Str := List UInt8
def isBlank (c : UInt8) : Bool := c == 32 || c == 10
def isBr (c : UInt8) : Bool := c == 40 || c == 41
def isStop (c : UInt8) : Bool := isBlank c || isBr c

def flush (c : Str) (out : List Str) : List Str := if c = [] then out else c :: out
/-- the word that the text begins with, if any; the words behind it -/
def wst : Str → Str × List Str
  | [] => ([], [])
  | c :: r => if isStop c then ([], if isBr c then [c] :: flush (wst r).1 (wst r).2 else flush (wst r).1 (wst r).2) else (c :: (wst r).1, (wst r).2)
def words (s : Str) : List Str := flush (wst s).1 (wst s).2

def notStop (c : UInt8) : Bool := !isStop c

theorem words_nil : words [] = [] := rfl
theorem words_blank {c : UInt8} {r : Str} (h : isBlank c = true) : words (c :: r) = words r := by
  have h1 : isStop c = true := by simp [isStop, h]
  have h2 : isBr c = false := by
    simp only [isBlank, Bool.or_eq_true, beq_iff_eq] at h
    rcases h with rfl | rfl <;> rfl
  unfold words
  rw [wst, if_pos h1, h2]
  rfl
theorem words_br {c : UInt8} {r : Str} (h : isBr c = true) : words (c :: r) = [c] :: words r := by
  have h1 : isStop c = true := by simp [isStop, h]
  unfold words
  rw [wst, if_pos h1, if_pos h]
  rfl
theorem wst_span (s : Str) : wst s = (s.takeWhile notStop, words (s.dropWhile notStop)) := by
  induction s with
  | nil => rfl
  | cons c r ih =>
    by_cases h : isStop c = true
    · have hn : notStop c = false := by simp [notStop, h]
      rw [List.takeWhile_cons, hn, List.dropWhile_cons, hn]
      simp only [Bool.false_eq_true, if_false]
      have h1 : (wst (c :: r)).1 = [] := by rw [wst, if_pos h]
      refine Prod.ext h1 ?_
      show _ = words (c :: r)
      unfold words
      rw [h1]
      rfl
    · have hn : notStop c = true := by simp [notStop, h]
      rw [List.takeWhile_cons, hn, List.dropWhile_cons, hn, wst, if_neg h, ih]
      rfl
theorem words_word {c : UInt8} {r : Str} (h : isStop c = false) : words (c :: r) = ((c :: r).takeWhile notStop) :: words ((c :: r).dropWhile notStop) := by
  have hn : notStop c = true := by simp [notStop, h]
  have e := wst_span (c :: r)
  rw [words, e]
  rw [flush, if_neg]
  rw [List.takeWhile_cons, hn]
  simp

theorem words_ne : ∀ (s : Str), ∀ w ∈ words s, w ≠ [] := by
  have key : ∀ (s : Str), ∀ w ∈ (wst s).2, w ≠ [] := by
    intro s
    induction s with
    | nil => intro w hw; cases hw
    | cons c r ih =>
      have hf : ∀ w ∈ flush (wst r).1 (wst r).2, w ≠ [] := by
        intro w hw
        unfold flush at hw
        by_cases h : (wst r).1 = []
        · rw [if_pos h] at hw; exact ih w hw
        · rw [if_neg h] at hw
          cases hw with
          | head => exact h
          | tail _ hw => exact ih w hw
      intro w hw
      rw [wst] at hw
      by_cases h : isStop c = true
      · rw [if_pos h] at hw
        dsimp only at hw
        by_cases h2 : isBr c = true
        · rw [if_pos h2] at hw
          cases hw with
          | head => simp
          | tail _ hw => exact hf w hw
        · rw [if_neg h2] at hw; exact hf w hw
      · rw [if_neg h] at hw; exact ih w hw
  intro s w hw
  unfold words flush at hw
  by_cases h : (wst s).1 = []
  · rw [if_pos h] at hw; exact key s w hw
  · rw [if_neg h] at hw
    cases hw with
    | head => exact h
    | tail _ hw => exact key s w hw

/-- a kind's word; those that have none: none -/
def word (k : Nat) : Str :=
  if k = 2 then [85] else if k = 3 then [112, 105] else if k = 4 then [102, 110] else if k = 6 then [115, 105, 103] else if k = 7 then [112, 97, 105, 114]
  else if k = 8 then [102, 115, 116] else if k = 9 then [115, 110, 100] else if k = 10 then [117, 110, 105, 116] else if k = 11 then [115, 116, 97, 114]
  else if k = 12 then [101, 109, 112, 116, 121] else if k = 13 then [97, 98, 115, 117, 114, 100] else if k = 14 then [110, 97, 116] else if k = 15 then [122, 101, 114, 111]
  else if k = 16 then [115, 117, 99] else if k = 17 then [114, 101, 99] else []

/-- the kind of a word, from k on, so many looked at -/
def kindFrom (w : Str) : Nat → Nat → Nat
  | _, 0 => 0
  | k, f + 1 => if k ≠ 5 ∧ word k = w then k else kindFrom w (k + 1) f
def kindOf (w : Str) : Nat := kindFrom w 3 15

def isName (s : Str) : Bool := !(s == []) && decide (s.length ≤ 8) && !(s == [100, 101, 102]) && kindOf s == 0 && s.all fun c => decide (97 ≤ c ∧ c ≤ 122)

/-- what a reader has: the words that are left, what was wrong first -/
structure PS where
  l : List Str
  e : Int

def PS.fail (c : Int) (p : PS) : PS := if p.e = 0 then ⟨p.l, c⟩ else p
def PS.take (p : PS) : Str × PS := match p.l with
  | [] => ([], p.fail 8)
  | w :: r => (w, ⟨r, p.e⟩)

def T0 : T := .mk 0 0 []

/-- how far from the end a name is -/
def fromEnd (l : List Str) (w : Str) : Option Nat := l.reverse.findIdx? (· == w)

section
variable (cn : Str → Option Int) (decls : List Str)

def height (d : Str) (p : PS) : T × PS := match cn d with
  | none => (T0, p.fail 2)
  | some n => if n < 0 ∨ 3 < n then (T0, p.fail 3) else (.mk 2 n [], p)

def atom (w : Str) (bound : List Str) (p : PS) : T × PS :=
  if w.head? = some 85 then height cn w.tail p
  else if 0 < kindOf w then (if shape (kindOf w) = some [] then (.mk (kindOf w) 0 [], p) else (T0, p.fail 2))
  else if isName w = false then (T0, p.fail 7)
  else match fromEnd bound w with
    | some i => (.mk 1 i [], p)
    | none => match fromEnd decls w with
      | some i => (.mk 18 ((decls.length : Int) - 1 - i) [], p)
      | none => (T0, p.fail 6)

def binders : Nat → List Str → PS → List Str × PS
  | 0, b, p => (b, p)
  | n + 1, b, p => binders n (b ++ [p.take.1]) (if isName p.take.1 then p.take.2 else p.take.2.fail 7)

def pargs (g : List Str → PS → T × PS) (bound : List Str) : List Nat → PS → List T × PS
  | [], p => ([], p)
  | n :: r, p =>
    let i := binders n bound p
    let a := g i.1 (if 8 < i.1.length then i.2.fail 5 else i.2)
    let q := pargs g bound r a.2
    (a.1 :: q.1, q.2)

def headKind (p : PS) : Int × PS := if 0 < kindOf (p.l.headD []) ∧ shape (kindOf (p.l.headD [])) ≠ some [] then (kindOf (p.l.headD []), p.take.2) else (5, p)

def closed (p : PS) : PS := if p.take.1 = [41] then p.take.2 else p.take.2.fail 2

def pterm : Nat → List Str → PS → T × PS
  | 0, _, p => (T0, p.fail 9)
  | f + 1, bound, p =>
    if p.e ≠ 0 then (T0, p) else
    if p.take.1 ≠ [40] then atom cn decls p.take.1 bound p.take.2 else
    let q := headKind p.take.2
    let a := pargs (pterm f) bound ((shape q.1).getD []) q.2
    (.mk q.1 0 a.1, closed a.2)

def ended (p : PS) : PS := if p.e = 0 ∧ p.l ≠ [] then p.fail 2 else p

/-- the term of a text; what is wrong -/
def parse (s : Str) (bound : List Str) : T × Int :=
  if 1500 < s.length then (T0, 4) else if 8 < bound.length then (T0, 5) else
  let q := pterm cn decls 24 bound ⟨words s, 0⟩
  if (ended q.2).e ≠ 0 then (T0, (ended q.2).e) else (q.1, 0)
end

/-- (fn nat n (a n)), where a, b are bound -/
theorem parse_ex1 : parse (fun _ => none) [] [40, 102, 110, 32, 110, 97, 116, 32, 110, 32, 40, 97, 32, 110, 41, 41] [[97], [98]] = (.mk 4 0 [.mk 14 0 [], .mk 5 0 [.mk 1 2 [], .mk 1 0 []]], 0) := by rfl
end Go.Proofs.YtjboibbgigkhkaaDoor
