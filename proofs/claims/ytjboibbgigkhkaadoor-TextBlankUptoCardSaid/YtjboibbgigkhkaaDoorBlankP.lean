/- Plain: with a blank ahead of each bracket, and a line feed behind it, a text has the same words. -/
import Derived.Test.YtjboibbgigkhkaaDoorParseP
namespace Go.Proofs.YtjboibbgigkhkaaDoor

def blanked : Str → Str
  | [] => []
  | c :: r => if isBr c then 32 :: c :: 10 :: blanked r else c :: blanked r

theorem flush_nil (l : List Str) : flush [] l = l := rfl

theorem wst_blanked : ∀ s : Str, wst (blanked s) = wst s := by
  intro s
  induction s with
  | nil => rfl
  | cons c r ih =>
    rw [blanked]
    by_cases hb : isBr c = true
    · have hs : isStop c = true := by simp [isStop, hb]
      have e1 : isStop 32 = true := rfl
      have e2 : isBr 32 = false := rfl
      have e3 : isStop 10 = true := rfl
      have e4 : isBr 10 = false := rfl
      rw [if_pos hb]
      simp only [wst, e1, e2, e3, e4, hs, hb, if_true, if_false, Bool.false_eq_true, ih, flush_nil]
    · rw [if_neg hb]
      by_cases hs : isStop c = true
      · rw [wst, if_pos hs, if_neg hb, wst, if_pos hs, if_neg hb, ih]
      · rw [wst, if_neg hs, wst, if_neg hs, ih]

theorem words_blanked (s : Str) : words (blanked s) = words s := by
  unfold words
  rw [wst_blanked]

theorem blanked_len (s : Str) : s.length ≤ (blanked s).length := by
  induction s with
  | nil => simp
  | cons c r ih =>
    rw [blanked]
    split
    · simp; omega
    · simp; omega

/-- so it is read as the same, if there is room -/
theorem parse_blanked (cn : Str → Option Int) (decls bound : List Str) (s : Str) (h : (blanked s).length ≤ 1500) : parse cn decls (blanked s) bound = parse cn decls s bound := by
  have hl := blanked_len s
  have h1 : ¬ 1500 < (blanked s).length := by omega
  have h2 : ¬ 1500 < s.length := by omega
  unfold parse
  rw [if_neg h1, if_neg h2, words_blanked]
end Go.Proofs.YtjboibbgigkhkaaDoor
