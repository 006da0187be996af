/- text.Name: whether a text may be a name; kinds' words as the program looks them up. -/
import Derived.Test.YtjboibbgigkhkaaDoorPHeight
namespace Go.Proofs.YtjboibbgigkhkaaDoor
open Go.RowKit
set_option maxRecDepth 100000

theorem kindFrom_zero {s : Str} : ∀ (f k : Nat), (∀ j, k ≤ j → j < k + f → word j ≠ s) → kindFrom s k f = 0
  | 0, _, _ => rfl
  | f + 1, k, h => by
    rw [kindFrom_step, if_neg (fun e => h k (Nat.le_refl _) (by omega) e.2)]
    exact kindFrom_zero f (k + 1) fun j h1 h2 => h j (by omega) (by omega)

theorem word_in : ∀ j, 3 ≤ j → j < 18 → word j ∈ W18 := fun j _ h => (show ∀ j, j < 18 → 3 ≤ j → word j ∈ W18 from by decide) j h ‹_›

theorem idx_out {s : Str} (h : s ∉ W18) : idxOf W18 s = -1 ∧ kindOf s = 0 := by
  constructor
  · exact idxOf_none fun j hj e => h (e ▸ List.getElem_mem hj)
  · exact kindFrom_zero 15 3 fun j h1 h2 e => h (e ▸ word_in j h1 (by omega))

theorem idx_kind {s : Str} (h0 : s ≠ []) (hU : s.head? ≠ some 85) : idxOf W18 s + 1 = kindOf s := by
  by_cases h : s ∈ W18
  · simp only [W18, List.mem_cons, List.not_mem_nil, or_false] at h
    rcases h with h | h | h | h | h | h | h | h | h | h | h | h | h | h | h | h | h | h <;> subst h <;> first | rfl | exact absurd rfl h0 | exact absurd rfl hU
  · rw [(idx_out h).1, (idx_out h).2]; rfl

theorem idx_ge (s : Str) : -1 ≤ idxOf W18 s ∧ idxOf W18 s ≤ 17 := by
  by_cases h : s ∈ W18
  · simp only [W18, List.mem_cons, List.not_mem_nil, or_false] at h
    rcases h with h | h | h | h | h | h | h | h | h | h | h | h | h | h | h | h | h | h <;> subst h <;> decide
  · rw [(idx_out h).1]; omega

/-- what the program looks for ahead of a bracket's arguments -/
theorem idx_head (s : Str) : (0 < idxOf W18 s + 1 ∧ (shape (idxOf W18 s + 1)).getD [] ≠ [] ↔ 0 < kindOf s ∧ shape (kindOf s) ≠ some []) ∧ (0 < idxOf W18 s + 1 ∧ (shape (idxOf W18 s + 1)).getD [] ≠ [] → idxOf W18 s + 1 = kindOf s) := by
  by_cases h : s ∈ W18
  · simp only [W18, List.mem_cons, List.not_mem_nil, or_false] at h
    rcases h with h | h | h | h | h | h | h | h | h | h | h | h | h | h | h | h | h | h <;> subst h <;> decide
  · rw [(idx_out h).1, (idx_out h).2]; decide

def abc : Str := [97, 98, 99, 100, 101, 102, 103, 104, 105, 106, 107, 108, 109, 110, 111, 112, 113, 114, 115, 116, 117, 118, 119, 120, 121, 122]

theorem abc_low (c : UInt8) : abc.contains c = decide (97 ≤ c ∧ c ≤ 122) := by
  revert c
  have h : ∀ n : Fin 256, abc.contains (UInt8.ofNat n.val) = decide (97 ≤ UInt8.ofNat n.val ∧ UInt8.ofNat n.val ≤ 122) := by decide +kernel
  intro c
  have h2 := h ⟨c.toNat, c.toNat_lt⟩
  simpa using h2

theorem dropWhile_nil_iff {p : UInt8 → Bool} : ∀ {l : Str}, l.dropWhile p = [] ↔ l.all p = true
  | [] => by simp
  | a :: r => by
    rw [List.dropWhile_cons, List.all_cons]
    cases h : p a with
    | true => simpa using dropWhile_nil_iff
    | false => simp

theorem dropWhile_head {p : UInt8 → Bool} : ∀ {l r : Str} {a : UInt8}, l.dropWhile p = a :: r → p a = false
  | [], _, _, h => by cases h
  | b :: l, r, a, h => by
    rw [List.dropWhile_cons] at h
    cases hb : p b with
    | true => rw [hb] at h; exact dropWhile_head h
    | false =>
      rw [hb] at h
      cases h
      exact hb

theorem trim_nil (s cs : Str) : Lib.trimS s cs = [] ↔ s.all (cs.contains ·) = true := by
  unfold Lib.trimS Lib.trimLeftS Lib.trimRightS
  rw [dropWhile_nil_iff]
  constructor
  · intro h
    cases hd : s.reverse.dropWhile (cs.contains ·) with
    | nil =>
      have := dropWhile_nil_iff.1 hd
      rwa [List.all_reverse] at this
    | cons a r =>
      rw [hd, List.all_reverse, List.all_cons, dropWhile_head hd] at h
      cases h
  · intro h
    have : s.reverse.dropWhile (cs.contains ·) = [] := dropWhile_nil_iff.2 (by rw [List.all_reverse]; exact h)
    rw [this]; rfl

theorem isName_trim {s : Str} (h0 : s ≠ []) (h8 : s.length ≤ 8) (hk : ¬ 0 ≤ idxOf W18 s) (hd : s ≠ [100, 101, 102]) : isName s = (Lib.trimS s abc == []) := by
  have h1 : s ∉ W18 := fun h => hk (by
    simp only [W18, List.mem_cons, List.not_mem_nil, or_false] at h
    rcases h with h | h | h | h | h | h | h | h | h | h | h | h | h | h | h | h | h | h <;> subst h <;> decide)
  have b1 : (s == []) = false := by simpa using h0
  have b2 : (s == [100, 101, 102]) = false := by simpa using hd
  rw [isName_eq, b1, b2, decide_eq_true h8, (idx_out h1).2]
  simp only [Bool.not_false, Bool.true_and, beq_self_eq_true]
  have e : s.all low = s.all (abc.contains ·) := by
    congr 1
    funext c
    rw [abc_low]; rfl
  rw [e]
  by_cases ht : Lib.trimS s abc = []
  · rw [(trim_nil _ _).1 ht, ht]; rfl
  · have : s.all (abc.contains ·) = false := Bool.eq_false_iff.2 fun h => ht ((trim_nil _ _).2 h)
    rw [this]
    exact (beq_eq_false_iff_ne.2 ht).symm

theorem isName_in {s : Str} (h : 0 ≤ idxOf W18 s) : isName s = false := by
  have h1 : s ∈ W18 := Classical.byContradiction fun hn => by rw [(idx_out hn).1] at h; omega
  simp only [W18, List.mem_cons, List.not_mem_nil, or_false] at h1
  rcases h1 with h | h | h | h | h | h | h | h | h | h | h | h | h | h | h | h | h | h <;> subst h <;> rfl

theorem isName_long {s : Str} (h : ¬ s.length ≤ 8) : isName s = false := by
  rw [isName_eq, decide_eq_false h]; simp

/-- a row of texts that was just laid -/
theorem strs_new (w : World) (R : Nat) (l : List Str) (hR : R ≠ w.heap.size) (hl : l.length ≤ 1000000000000) : Strs (w.alloc (.cells (strc l).toArray 9)) R l (.slice (some ⟨w.heap.size, 0, none⟩) l.length l.length) := by
  refine ⟨_, _, rfl, Nat.le_refl _, by unfold maxLen; omega, fun _ => ⟨w.heap.size, 0, rfl, by simp, by omega, fun j s hj => ?_⟩⟩
  rw [Nat.zero_add, (Blk.new w 9 (strc l).toArray).cell j]
  simp [strc, hj]

theorem pnm_any (s : Str) (hs : s.length ≤ 1000000000000) (w : World) :
    Calls Tryd.prog 32 #[.string ⟨s.toArray⟩] w (StrPost (.bool (isName s)) w) := by
  by_cases h0 : s = []
  · subst h0
    go_enter Tryd.func32, Tryd.ntmps32
    go_wp2_with fail
    go_ret
    exact ⟨rfl, Below.refl _ _⟩
  · have hl0 : 0 < s.length := by cases s with
      | nil => exact absurd rfl h0
      | cons a r => simp
    by_cases h8 : s.length ≤ 8
    · have h1 : ¬ (s.length : Int) < 1 := by omega
      have h2 : ¬ 8 < (s.length : Int) := by omega
      have H8 := Lib.hid (And.intro h0 h8)
      clear h0 h8
      go_enter Tryd.func32, Tryd.ntmps32
      go_wp2_with fail
      refine (pwords_any _).mono ?_
      rintro e w1 ⟨rfl, rfl⟩
      go_wp2_with fail
      refine (contains_any (w.heap.size + 1) W18 s _ _ (strs_new w _ W18 (by omega) (by decide)) (by decide)).mono ?_
      rintro e w2 ⟨rfl, hb2⟩
      have HB := Lib.hid (((Below.refl w.heap.size w).alloc (Nat.le_refl _) (.cells (strc W18).toArray 9)).trans (hb2.mono (by simp)))
      clear hb2
      by_cases hk : 0 ≤ idxOf W18 s
      · have HN := Lib.hid (isName_in hk)
        rw [decide_eq_true hk]
        clear hk
        go_wp2_with fail
        go_ret
        rw [HN.out]
        exact ⟨rfl, HB.out⟩
      · have HK := Lib.hid hk
        rw [decide_eq_false hk]
        clear hk
        by_cases hd : s = [100, 101, 102]
        · have hdb : (s == [100, 101, 102]) = true := by simpa using hd
          have HN := Lib.hid (show isName s = false from by rw [hd]; rfl)
          clear hd
          go_wp2_with fail
          go_ret
          rw [HN.out]
          exact ⟨rfl, HB.out⟩
        · have hdb : (s == [100, 101, 102]) = false := by simpa using hd
          have HN := Lib.hid (isName_trim H8.out.1 H8.out.2 HK.out hd)
          clear hd
          go_wp2_with fail
          refine (Tryd.strings_Trim_set ⟨s.toArray⟩ ⟨abc.toArray⟩ w2 (by show s.length ≤ _; omega) (by decide) (Go.Proofs.ascii_of_all (by decide))).mono ?_
          rintro e w3 ⟨rfl, hb3⟩
          have HB3 := Lib.hid (HB.out.trans (hb3.mono HB.out.size))
          obtain ⟨q, hq⟩ : ∃ q, Lib.trimS s abc = q := ⟨_, rfl⟩
          have hn := HN.out
          rw [hq] at hn
          have HN2 := Lib.hid hn
          have hqq : Lib.trimS (⟨s.toArray⟩ : ByteArray).data.toList (⟨abc.toArray⟩ : ByteArray).data.toList = q := hq
          rw [hqq]
          clear hb3 hn hq hqq HN HB
          go_wp2_with fail
          go_ret
          rw [HN2.out]
          exact ⟨by cases q <;> rfl, HB3.out⟩
    · have h1 : ¬ (s.length : Int) < 1 := by omega
      have h2 : 8 < (s.length : Int) := by omega
      have HN := Lib.hid (isName_long h8)
      clear h0 h8
      go_enter Tryd.func32, Tryd.ntmps32
      go_wp2_with fail
      go_ret
      rw [HN.out]
      exact ⟨rfl, Below.refl _ _⟩
end Go.Proofs.YtjboibbgigkhkaaDoor
