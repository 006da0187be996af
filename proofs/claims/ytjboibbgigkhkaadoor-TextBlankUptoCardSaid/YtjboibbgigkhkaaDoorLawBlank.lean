/- sklaw3.TextBlank answers true. -/
import Derived.Test.YtjboibbgigkhkaaDoorPAlive
import Derived.Test.YtjboibbgigkhkaaDoorBlankP
import Derived.Test.YtjboibbgigkhkaaDoorSame
namespace Go.Proofs.YtjboibbgigkhkaaDoor
set_option maxRecDepth 100000
open Go.RowKit

theorem blanked_snoc (l : Str) (c : UInt8) : blanked (l ++ [c]) = blanked l ++ (if isBr c then [32, c, 10] else [c]) := by
  induction l with
  | nil =>
    show blanked [c] = _
    rw [blanked, blanked]
    split <;> simp [blanked]
  | cons a l ih =>
    rw [List.cons_append, blanked, blanked, ih]
    split <;> simp
theorem blanked_step {s : Str} {k : Nat} (h : k < s.length) : blanked (s.take (k + 1)) = blanked (s.take k) ++ (if isBr s[k] then [32, s[k], 10] else [s[k]]) := by
  rw [List.take_add_one, List.getElem?_eq_getElem h, Option.toList, blanked_snoc]
theorem blanked_short (s : Str) : (blanked s).length ≤ 3 * s.length := by
  induction s with
  | nil => simp [blanked]
  | cons c r ih =>
    rw [blanked]
    split
    · simp; omega
    · simp; omega

theorem cat1 (a : Str) (c : UInt8) : (⟨a.toArray⟩ : ByteArray) ++ (⟨#[c]⟩ : ByteArray) = ⟨(a ++ [c]).toArray⟩ := bytes_cat a [c]
theorem cat3 (a : Str) (c : UInt8) : (⟨a.toArray⟩ : ByteArray) ++ (⟨#[32]⟩ : ByteArray) ++ (⟨#[c]⟩ : ByteArray) ++ (⟨#[10]⟩ : ByteArray) = ⟨(a ++ [32, c, 10]).toArray⟩ := by
  rw [cat1, cat1, cat1]; simp

theorem nil_strs (w : World) (R : Nat) : Strs w R [] (.slice none 0 0) := ⟨none, 0, rfl, Nat.le_refl _, by unfold maxLen; omega, fun h => absurd rfl h⟩

set_option maxHeartbeats 1600000 in
theorem lawblank_any (s : Str) (bound : List Str) (w : World) (bv : Value) (hV : Vars w) (hb : Strs w w.heap.size bound bv) (hs : s.length ≤ 100000000) (hbl : bound.length ≤ 100000000) :
    Calls Tryd.prog 6 #[.string ⟨s.toArray⟩, bv] w (BoolPost true w) := by
  obtain ⟨BA, bcap, rfl, -⟩ := id hb
  have HV := Lib.hid hV
  have HB := Lib.hid hb
  clear hV hb
  go_enter Tryd.func6, Tryd.ntmps6
  go_wp2_with fail
  refine (palive_any _ HV.out).mono ?_
  rintro e w1 ⟨rfl, hb1⟩
  go_wp2_with fail
  go_loopw [5, 15] (fun xv iv wr => ∃ k : Nat, k ≤ s.length ∧ iv = .int .i64 k ∧ xv = .string ⟨(blanked (s.take k)).toArray⟩ ∧ wr = w1) (fun _ iv _ => s.length - (intOf iv).toNat)
  case atStart => exact ⟨0, Nat.zero_le _, rfl, rfl, rfl⟩
  case round =>
    obtain ⟨k, hk, rfl, rfl, rfl⟩ := hrel
    by_cases hlt : k < s.length
    · have hkb : k < (⟨s.toArray⟩ : ByteArray).size := hlt
      have HS := Lib.hid (blanked_step hlt)
      have hX := ext_one s hlt
      have hsz : (blanked (s.take k)).length ≤ 300000000 := by have := blanked_short (s.take k); rw [List.length_take] at this; omega
      by_cases hc : isBr s[k] = true
      · have HC := Lib.hid hc
        have hc2 := (br_iff _).1 hc
        clear hc
        rcases hc2 with hc2 | hc2
        · have hcb : (((((⟨s.toArray⟩ : ByteArray)[k]'hkb).toNat : Nat) : Int) == 40) = true := by rw [beq_iff_eq]; exact hc2
          clear hc2
          go_wp2_with fail
          rw [cat3]
          exact ⟨⟨k + 1, by omega, by go_num, by rw [HS.out, if_pos HC.out], trivial⟩, by simp [intOf]; omega⟩
        · have hcb : (((((⟨s.toArray⟩ : ByteArray)[k]'hkb).toNat : Nat) : Int) == 40) = false := by rw [beq_eq_false_iff_ne]; intro e; have e2 : ((s[k].toNat : Nat) : Int) = 40 := e; omega
          have hcb2 : (((((⟨s.toArray⟩ : ByteArray)[k]'hkb).toNat : Nat) : Int) == 41) = true := by rw [beq_iff_eq]; exact hc2
          clear hc2
          go_wp2_with fail
          rw [cat3]
          exact ⟨⟨k + 1, by omega, by go_num, by rw [HS.out, if_pos HC.out], trivial⟩, by simp [intOf]; omega⟩
      · have HC := Lib.hid hc
        have hcb : (((((⟨s.toArray⟩ : ByteArray)[k]'hkb).toNat : Nat) : Int) == 40) = false := by rw [beq_eq_false_iff_ne]; intro e; exact hc ((br_iff _).2 (.inl e))
        have hcb2 : (((((⟨s.toArray⟩ : ByteArray)[k]'hkb).toNat : Nat) : Int) == 41) = false := by rw [beq_eq_false_iff_ne]; intro e; exact hc ((br_iff _).2 (.inr e))
        clear hc
        go_wp2_with fail
        rw [cat1]
        exact ⟨⟨k + 1, by omega, by go_num, by rw [HS.out, if_neg HC.out], trivial⟩, by simp [intOf]; omega⟩
    · obtain rfl : k = s.length := by omega
      rw [List.take_length]
      by_cases hx : 1500 < (blanked s).length
      · have hx2 : (1500 : Int) < ((blanked s).length : Int) := by omega
        go_wp2_with fail
        refine bodyPost_ret (v := .bool true) (by simp [results, Tryd.results6, go_sem]) rfl ⟨rfl, hb1⟩
      · have hx2 : ¬ (1500 : Int) < ((blanked s).length : Int) := by omega
        obtain ⟨⟨t, e0⟩, hp⟩ : ∃ r, parse canon [] s bound = r := ⟨_, rfl⟩
        have hp2 := parse_blanked canon [] bound s (by omega)
        rw [hp] at hp2
        have HP := Lib.hid hp
        have HP2 := Lib.hid hp2
        have hbs := blanked_short s
        have HX := Lib.hid hx
        clear hp hp2 hx
        have HB1 := Lib.hid (And.intro (HV.out.below hb1) (HB.out.keep' hb1))
        go_wp2_with fail
        refine (pparse_any [] bound s wr _ _ HB1.out.1 (by omega) (nil_strs _ _) HB1.out.2 (by simp) (by omega)).mono ?_
        rw [HP.out]
        rintro e w2 ⟨s2, rfl, hx2, hb2⟩
        dsimp only at hx2 ⊢
        obtain ⟨A2, cap2, rfl, -⟩ := argsInS_iff.1 hx2
        have HK2 := Lib.hid (Boxed.new (hx2.keep (S' := fun b => b < w2.heap.size) (fun b hb => hb.elim (fun h => h.elim) (fun h => h.2)) (fun _ _ => rfl)))
        have hbb := hb2.alloc hb2.size (.cells #[.int .i64 t.k, .int .i64 t.n, .slice A2 t.al.length cap2] 24)
        have HB2 := Lib.hid (And.intro (HB1.out.1.below hbb) (And.intro (HB1.out.2.keep' hbb) (hb1.trans (hbb.mono hb1.size))))
        clear hx2 hb2 hbb
        go_wp2_with fail
        refine (pparse_any [] bound (blanked s) _ _ _ HB2.out.1 (by omega) (nil_strs _ _) HB2.out.2.1 (by simp) (by omega)).mono ?_
        rw [HP2.out]
        rintro e w3 ⟨s3, rfl, hx3, hb3⟩
        dsimp only at hx3 ⊢
        obtain ⟨A3, cap3, rfl, -⟩ := argsInS_iff.1 hx3
        have HK3 := Lib.hid (Boxed.new (hx3.keep (S' := fun b => b < w3.heap.size) (fun b hb => hb.elim (fun h => h.elim) (fun h => h.2)) (fun _ _ => rfl)))
        have hbb := hb3.alloc hb3.size (.cells #[.int .i64 t.k, .int .i64 t.n, .slice A3 t.al.length cap3] 24)
        have HB3 := Lib.hid (HB2.out.2.2.trans (hbb.mono HB2.out.2.2.size))
        have HK2' := Lib.hid (HK2.out.more hbb)
        clear hx3 hb3 hbb HK2
        obtain ⟨k0, k1, k2⟩ := HK2'.out.1.tri.1
        go_wp2_with fail
        refine (same_any t t _ _ _ HK2'.out.arg HK3.out.arg).mono ?_
        rw [same_refl]
        rintro e w4 ⟨rfl, hb4⟩
        have HB4 := Lib.hid (HB3.out.trans (hb4.mono HB3.out.size))
        clear hb4
        go_wp2_with fail
        refine bodyPost_ret (v := .bool true) (by simp [results, Tryd.results6, go_sem]) rfl ⟨rfl, HB4.out⟩
end Go.Proofs.YtjboibbgigkhkaaDoor
