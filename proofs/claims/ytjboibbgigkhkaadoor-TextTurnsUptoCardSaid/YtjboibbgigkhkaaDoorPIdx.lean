/- slices.Index, slices.Contains, slices.Clone at texts; the words of kinds; how many names an argument binds. -/
import Derived.Test.YtjboibbgigkhkaaDoorPBox
namespace Go.Proofs.YtjboibbgigkhkaaDoor
open Go.RowKit
set_option maxRecDepth 100000

/-- where a text stands first; -1: nowhere -/
def idxOf (l : List Str) (x : Str) : Int := match l.findIdx? (· == x) with
  | some i => i
  | none => -1

theorem idxOf_some {l : List Str} {x : Str} {i : Nat} (hi : i < l.length) (hx : l[i] = x) (hn : ∀ j, j < i → ∀ h : j < l.length, l[j] ≠ x) : idxOf l x = i := by
  have h : l.findIdx? (· == x) = some i := by
    rw [List.findIdx?_eq_some_iff_getElem]
    exact ⟨hi, by simp [hx], fun j hj => by simpa using hn j hj (by omega)⟩
  unfold idxOf
  rw [h]
theorem idxOf_none {l : List Str} {x : Str} (hn : ∀ j, ∀ h : j < l.length, l[j] ≠ x) : idxOf l x = -1 := by
  have h : l.findIdx? (· == x) = none := by
    rw [List.findIdx?_eq_none_iff]
    intro y hy
    obtain ⟨j, hj, rfl⟩ := List.getElem_of_mem hy
    simpa using hn j hj
  unfold idxOf
  rw [h]

theorem index_any (R : Nat) (l : List Str) (x : Str) (w : World) (v : Value) (hs : Strs w R l v) (hl : l.length ≤ 1000000000000) :
    Calls Tryd.prog 55 #[v, .string ⟨x.toArray⟩] w (StrPost (.int .i64 (idxOf l x)) w) := by
  obtain ⟨A, cap, rfl, h2, h3, h4⟩ := hs
  unfold maxLen at h3
  have H4 := Lib.hid h4
  clear h4
  go_enter Tryd.func55, Tryd.ntmps55
  go_wp2_with fail
  go_loopw [8] (fun i wr => ∃ k : Nat, k ≤ l.length ∧ i = .int .i64 k ∧ (∀ j, j < k → ∀ h : j < l.length, l[j] ≠ x) ∧ wr = w) (fun i _ => l.length - (intOf i).toNat)
  case atStart => exact ⟨0, Nat.zero_le _, rfl, fun j hj => absurd hj (by omega), rfl⟩
  case round =>
    obtain ⟨k, hk, rfl, hn, rfl⟩ := hrel
    have HN := Lib.hid hn
    clear hn
    by_cases hlt : k < l.length
    · obtain ⟨b, off, hA, hb, -, hc⟩ := H4.out (by intro e; rw [e] at hlt; simp at hlt)
      subst hA
      have hck := hc k l[k] (List.getElem?_eq_getElem hlt)
      clear hc
      by_cases he : l[k] = x
      · have heb : (x == l[k]) = true := by simpa using he.symm
        have HI := Lib.hid (idxOf_some hlt he HN.out)
        clear he
        go_wp2_with fail
        go_ret
        exact ⟨by rw [HI.out]; rfl, Below.refl _ _⟩
      · have heb : (x == l[k]) = false := by simpa using fun h => he h.symm
        have HE := Lib.hid he
        clear he
        go_wp2_with fail
        go_roundw
        case rel => exact ⟨k + 1, by omega, by go_num, fun j hj h => (by
          rcases Nat.lt_or_ge j k with h1 | h1
          · exact HN.out j h1 h
          · obtain rfl : j = k := by omega
            exact HE.out), by first | rfl | trivial⟩
        case measure => simp [intOf]; omega
    · obtain rfl : k = l.length := by omega
      have HI := Lib.hid (idxOf_none fun j h => HN.out j h h)
      go_wp2_with fail
      go_ret
      exact ⟨by rw [HI.out]; rfl, Below.refl _ _⟩

theorem contains_any (R : Nat) (l : List Str) (x : Str) (w : World) (v : Value) (hs : Strs w R l v) (hl : l.length ≤ 1000000000000) :
    Calls Tryd.prog 45 #[v, .string ⟨x.toArray⟩] w (StrPost (.bool (decide (0 ≤ idxOf l x))) w) := by
  have HC := Lib.hid (index_any R l x w v hs hl)
  clear hs
  go_enter Tryd.func45, Tryd.ntmps45
  go_wp2_with fail
  refine HC.out.mono ?_
  rintro e w1 ⟨rfl, hb⟩
  obtain ⟨q, hq⟩ : ∃ q, idxOf l x = q := ⟨_, rfl⟩
  rw [hq]
  have HQ := Lib.hid hq
  clear hq
  go_wp2_with fail
  go_ret
  exact ⟨by rw [HQ.out]; rfl, hb⟩

/-- kinds' words, as the program lays them -/
def W18 : List Str := [[], [85], [112, 105], [102, 110], [], [115, 105, 103], [112, 97, 105, 114], [102, 115, 116], [115, 110, 100], [117, 110, 105, 116], [115, 116, 97, 114], [101, 109, 112, 116, 121], [97, 98, 115, 117, 114, 100], [110, 97, 116], [122, 101, 114, 111], [115, 117, 99], [114, 101, 99], []]

theorem pwords_any (w : World) : Calls Tryd.prog 35 #[] w (fun e w' => e = .returned (.slice (some ⟨w.heap.size, 0, none⟩) W18.length W18.length) ∧ w' = w.alloc (.cells (strc W18).toArray 9)) := by
  go_enter Tryd.func35, Tryd.ntmps35
  go_wp2
  go_ret
  exact ⟨rfl, rfl⟩

theorem pnames_any (k : Int) (w : World) : Calls Tryd.prog 36 #[.int .i64 k] w (fun e w' => ∃ s, e = .returned s ∧ intsAt w' w'.heap.size ((shape k).getD []) s ∧ Below w.heap.size w w') := by
  have HC := Lib.hid (binds_any k w)
  go_enter Tryd.func36, Tryd.ntmps36
  go_wp2_with fail
  refine HC.out.mono ?_
  rintro e w1 ⟨s, rfl, hi, hb⟩
  have HI := Lib.hid hi
  obtain ⟨A, cap, rfl, -⟩ := hi
  clear HC
  go_wp2_with fail
  go_ret
  exact ⟨_, rfl, HI.out, hb⟩

theorem clone_any (R : Nat) (l : List Str) (w : World) (v : Value) (hs : Strs w R l v) (hl : l.length ≤ 1000000000000) :
    Calls Tryd.prog 37 #[v] w (fun e w' => ∃ V, e = .returned V ∧ w'.ownsRow w.heap.size 9 1 V l.length (strc l) ∧ Below w.heap.size w w') := by
  obtain ⟨A, cap, rfl, h2, h3, h4⟩ := id hs
  cases A with
  | none =>
    have hl0 : l = [] := by
      cases l with
      | nil => rfl
      | cons a r => obtain ⟨b, off, e, -⟩ := h4 (by simp); cases e
    subst hl0
    clear h4 hs
    have heq : (binOp BinOp.eql 36 (.slice none (([] : List Str).length) cap) (.slice none 0 0)).run Tryd.prog w = .ok (.bool true) w := by kernel_rfl
    simp only [List.length_nil] at heq ⊢
    go_enter Tryd.func37, Tryd.ntmps37
    go_wp2_with fail
    go_ret
    exact ⟨_, rfl, World.ownsRow_nil _ _ _ _, Below.refl _ _⟩
  | some ad =>
    have HRD := Lib.hid (hs.reads.alloc (Nat.le_refl _) (.cells #[] 9))
    have hm1 : 0 + l.length ≤ maxLen := by unfold maxLen; omega
    have hm2 : (0 + l.length) * 16 ≤ 140737488355328 := by omega
    obtain ⟨i0, hi0, hz0, hz1, hz2⟩ := info_parts Tryd.infoStr
    clear h4 hs
    have heq : (binOp BinOp.eql 36 (.slice (some ad) l.length cap) (.slice none 0 0)).run Tryd.prog w = .ok (.bool false) w := by kernel_rfl
    go_enter Tryd.func37, Tryd.ntmps37
    go_wp2_with (first | (at_builtin; go_loud (refine wpList_append_any _ rfl (.tmp 5) (.tmp 6) 36 rfl w.heap.size 9 i0 (.string ⟨#[]⟩) 1 16 Tryd.underlying36 hi0 hz0 hz1 hz2 rfl (by decide) _ 0 [] rfl (own_empty _ _ (Nat.le_refl _) _) w.heap.size (some ad) l.length cap (strc l) rfl HRD.out (strc_one _) hm1 hm2 (by simp) ?_)))
    intro V wa hown hgr _
    have hba : Below w.heap.size w wa := (((Below.refl w.heap.size w).alloc (Nat.le_refl _) (.cells #[] 9))).grown hgr (by simp) (by intro k hk; simp [Value.ownBlock] at hk; omega)
    have HO := Lib.hid (show wa.ownsRow w.heap.size 9 1 V l.length (strc l) from by simpa using hown)
    clear hown hgr
    obtain ⟨A2, cap2, hV⟩ : ∃ A2 cap2, V = .slice A2 l.length cap2 := by
      rcases HO.out.2 with ⟨h1, h0⟩ | ⟨g, c, cur, h1, -⟩
      · exact ⟨_, _, by rw [h0]; exact h1⟩
      · exact ⟨_, _, h1⟩
    subst hV
    go_wp2_with fail
    go_ret
    exact ⟨_, rfl, HO.out, hba⟩
end Go.Proofs.YtjboibbgigkhkaaDoor
