/- Name of the document's answer: what is a name. -/
import Derived.Test.YtjboibbgigkhkaaDoorKindOf
namespace Go.Proofs.YtjboibbgigkhkaaDoor
open Go.RowKit
set_option maxRecDepth 100000

def low (c : UInt8) : Bool := decide (97 ≤ c ∧ c ≤ 122)

theorem isName_eq (s : Str) : isName s = (!(s == []) && decide (s.length ≤ 8) && !(s == [100, 101, 102]) && kindOf s == 0 && s.all low) := rfl

theorem low_iff (c : UInt8) : low c = true ↔ 97 ≤ (c.toNat : Int) ∧ (c.toNat : Int) ≤ 122 := by
  unfold low
  rw [decide_eq_true_iff, UInt8.le_iff_toNat_le, UInt8.le_iff_toNat_le]
  simp
  omega

theorem all_take_succ {s : Str} {k : Nat} (hk : k < s.length) (h : (s.take k).all low = true) (hc : low s[k] = true) : (s.take (k + 1)).all low = true := by
  rw [List.take_add_one, List.all_append, h, List.getElem?_eq_getElem hk]
  simp [hc]

theorem rname_any (s : Str) (hs : s.length ≤ 1000000000000) (w : World) :
    Calls Tryd.prog 16 #[.string ⟨s.toArray⟩] w (StrPost (.bool (isName s)) w) := by
  by_cases h1 : s = []
  · subst h1
    go_enter Tryd.func16, Tryd.ntmps16
    go_wp2_with fail
    go_ret
    exact ⟨rfl, Below.refl _ _⟩
  · have b1 : (s == []) = false := by simpa using h1
    by_cases h2 : 8 < s.length
    · have hn : isName s = false := by
        rw [isName_eq, decide_eq_false (by omega : ¬ s.length ≤ 8)]
        simp
      have hl : (8 : Int) < (s.length : Int) := by omega
      rw [hn]
      clear hn
      have H1 := Lib.hid h1
      clear h1
      go_enter Tryd.func16, Tryd.ntmps16
      go_wp2_with fail
      go_ret
      exact ⟨rfl, Below.refl _ _⟩
    · have hl : ¬ (8 : Int) < (s.length : Int) := by omega
      by_cases h3 : s = [100, 101, 102]
      · subst h3
        go_enter Tryd.func16, Tryd.ntmps16
        go_wp2_with fail
        go_ret
        exact ⟨rfl, Below.refl _ _⟩
      · have b3 : (s == [100, 101, 102]) = false := by simpa using h3
        have hN : isName s = (kindOf s == 0 && s.all low) := by
          rw [isName_eq, b1, b3, decide_eq_true (by omega : s.length ≤ 8)]
          simp
        rw [hN]
        clear hN
        have H13 := Lib.hid (And.intro h1 h3)
        clear h1 h3
        go_enter Tryd.func16, Tryd.ntmps16
        go_wp2_with fail
        refine (kindof_any s w).mono ?_
        rintro e w1 ⟨rfl, hb1⟩
        generalize kindOf s = q at *
        by_cases h4 : 0 < q
        · have hq : (q == 0) = false := by simp; omega
          have hq2 : (0 : Int) < (q : Int) := by omega
          go_wp2_with fail
          go_ret
          exact ⟨by rw [hq]; rfl, hb1⟩
        · have hq2 : ¬ (0 : Int) < (q : Int) := by omega
          obtain rfl : q = 0 := by omega
          rw [show ((0 : Nat) == 0) = true from rfl, Bool.true_and]
          have HG := Lib.hid (rfl : s.all low = s.all low)
          generalize hg : s.all low = g at *
          have HS := Lib.hid hg
          clear hg HG
          go_wp2_with fail
          go_loopw [22] (fun i wr => ∃ k : Nat, k ≤ s.length ∧ i = .int .i64 k ∧ (s.take k).all low = true ∧ Below w.heap.size w wr) (fun i _ => s.length - (intOf i).toNat)
          case atStart => exact ⟨0, by omega, rfl, rfl, hb1⟩
          case round =>
            obtain ⟨k, hk, rfl, hall, hb⟩ := hrel
            by_cases hlt : k < s.length
            · have HA := Lib.hid hall
              clear hall
              have hkb : k < (⟨s.toArray⟩ : ByteArray).size := hlt
              by_cases hc : low s[k] = true
              · obtain ⟨c1, c2⟩ : 97 ≤ ((((⟨s.toArray⟩ : ByteArray)[k]'hkb).toNat : Nat) : Int) ∧ ((((⟨s.toArray⟩ : ByteArray)[k]'hkb).toNat : Nat) : Int) ≤ 122 := (low_iff _).1 hc
                have HC := Lib.hid hc
                clear hc
                go_wp2_with fail
                go_roundw
                case rel => exact ⟨k + 1, by omega, by go_num, all_take_succ hlt HA.out HC.out, hb⟩
                case measure => simp [intOf]; omega
              · have hg : g = false := by
                  rw [← HS.out, List.all_eq_false]
                  exact ⟨s[k], List.getElem_mem _, hc⟩
                subst hg
                have hc3 : ((s[k].toNat : Nat) : Int) < 97 ∨ (97 ≤ ((s[k].toNat : Nat) : Int) ∧ (122 : Int) < ((s[k].toNat : Nat) : Int)) := by
                  rw [low_iff] at hc
                  omega
                have hc2 : ((((⟨s.toArray⟩ : ByteArray)[k]'hkb).toNat : Nat) : Int) < 97 ∨ (97 ≤ ((((⟨s.toArray⟩ : ByteArray)[k]'hkb).toNat : Nat) : Int) ∧ (122 : Int) < ((((⟨s.toArray⟩ : ByteArray)[k]'hkb).toNat : Nat) : Int)) := hc3
                clear hc3
                clear hc
                rcases hc2 with c1 | ⟨c1, c2⟩
                · go_wp2_with fail
                  go_ret
                  exact ⟨rfl, hb⟩
                · go_wp2_with fail
                  go_ret
                  exact ⟨rfl, hb⟩
            · obtain rfl : k = s.length := by omega
              rw [List.take_length, HS.out] at hall
              subst hall
              go_wp2_with fail
              go_ret
              exact ⟨rfl, hb⟩
end Go.Proofs.YtjboibbgigkhkaaDoor
