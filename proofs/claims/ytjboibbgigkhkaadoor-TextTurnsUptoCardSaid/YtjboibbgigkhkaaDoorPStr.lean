/- strings.Contains at one byte, strings.CutPrefix of U: the shelf's texts, filled for this program. -/
import Derived.Test.YtjboibbgigkhkaaDoorPIdx
import Derived.Lib.Strings
import Derived.Lib.Slices
import Derived.Lib.Walk
import Derived.Lib.Bytealg
namespace Go.Proofs.YtjboibbgigkhkaaDoor
open Go.RowKit
set_option maxRecDepth 100000

set_option maxHeartbeats 1000000 in
theorem sl_IndexByte (s : ByteArray) (c : Int) (w : World) :
    Calls Tryd.prog 91 #[.string s, .int .u8 c] w fun e w' => e = .returned (.int .i64 (Lib.indexByte s.data.toList c.toNat.toUInt8)) ∧ w' = w := by
  go_enter Tryd.func91, Tryd.ntmps91
  go_wp2
  rw [run_callFunc_extern Tryd.func108 (by kernel_rfl) (by kernel_rfl) (by kernel_rfl) (e := Extern.BytealgIndexByte.indexByte) (by kernel_rfl), Lib.run_indexByteString]
  simp only [Result.andThen]
  rw [Oper.upon_value]
  go_wp2
  go_ret
  exact ⟨rfl, rfl⟩

set_option maxHeartbeats 2000000 in
theorem sl_Index_one (s : ByteArray) (c : UInt8) (w : World) :
    Calls Tryd.prog 76 #[.string s, .string ⟨#[c]⟩] w fun e w' => e = .returned (.int .i64 (Lib.indexByte s.data.toList c)) ∧ w' = w := by
  go_enter Tryd.func76, Tryd.ntmps76
  go_wp2_with (go_at_call 91; refine (sl_IndexByte _ _ _).mono ?_; rintro e w' ⟨rfl, rfl⟩)
  · have h : ([c] == s.toList) = true := by assumption
    go_ret
    refine ⟨?_, rfl⟩
    have e : s.data.toList = [c] := by rw [← Lib.toList_data]; exact (beq_iff_eq.1 h).symm
    rw [e]
    simp [Lib.indexByte]
  · go_ret
    exact ⟨rfl, rfl⟩

set_option maxHeartbeats 1000000 in
theorem str_Index_one (s : ByteArray) (c : UInt8) (w : World) :
    Calls Tryd.prog 60 #[.string s, .string ⟨#[c]⟩] w fun e w' => e = .returned (.int .i64 (Lib.indexByte s.data.toList c)) ∧ w' = w := by
  go_enter Tryd.func60, Tryd.ntmps60
  go_wp2_with (go_at_call 76; refine (sl_Index_one _ _ _).mono ?_; rintro e w' ⟨rfl, rfl⟩)
  go_ret
  exact ⟨rfl, rfl⟩

set_option maxHeartbeats 1000000 in
theorem str_Contains_one (s : ByteArray) (c : UInt8) (w : World) :
    Calls Tryd.prog 44 #[.string s, .string ⟨#[c]⟩] w fun e w' => e = .returned (.bool (decide (0 ≤ Lib.indexByte s.data.toList c))) ∧ w' = w := by
  go_enter Tryd.func44, Tryd.ntmps44
  go_wp2_with (go_at_call 60; refine (str_Index_one _ _ _).mono ?_; rintro e w' ⟨rfl, rfl⟩)
  go_ret
  exact ⟨rfl, rfl⟩

theorem stop_index (c : UInt8) : decide (0 ≤ Lib.indexByte [32, 10, 40, 41] c) = isStop c := by
  unfold isStop isBlank isBr
  by_cases h1 : c = 32
  · subst h1; rfl
  · by_cases h2 : c = 10
    · subst h2; rfl
    · by_cases h3 : c = 40
      · subst h3; rfl
      · by_cases h4 : c = 41
        · subst h4; rfl
        · have e1 : (c == 32) = false := by simpa using h1
          have e2 : (c == 10) = false := by simpa using h2
          have e3 : (c == 40) = false := by simpa using h3
          have e4 : (c == 41) = false := by simpa using h4
          have f1 : ((32 : UInt8) == c) = false := by simpa using fun h => h1 h.symm
          have f2 : ((10 : UInt8) == c) = false := by simpa using fun h => h2 h.symm
          have f3 : ((40 : UInt8) == c) = false := by simpa using fun h => h3 h.symm
          have f4 : ((41 : UInt8) == c) = false := by simpa using fun h => h4 h.symm
          rw [e1, e2, e3, e4]
          simp [Lib.indexByte, f1, f2, f3, f4]

/-- is the one letter a stop? -/
theorem stop_any (c : UInt8) (w : World) :
    Calls Tryd.prog 44 #[.string ⟨#[32, 10, 40, 41]⟩, .string ⟨#[c]⟩] w fun e w' => e = .returned (.bool (isStop c)) ∧ w' = w :=
  (str_Contains_one ⟨#[32, 10, 40, 41]⟩ c w).mono fun e w' h => by
    rw [← stop_index c]
    exact h

set_option maxHeartbeats 1000000 in
theorem str_CutPrefix (s p : ByteArray) (w : World) :
    Calls Tryd.prog 53 #[.string s, .string p] w fun e w' => e = .returned (.tuple #[.string ⟨(Lib.trimPrefix s.data.toList p.data.toList).toArray⟩, .bool (Lib.hasPrefix s.data.toList p.data.toList)]) ∧ w' = w := by
  go_enter Tryd.func53, Tryd.ntmps53
  go_wp2
  · have h2 : (!((s.extract 0 p.size).toList == p.toList)) = true := by assumption
    have h3 : (decide (p.size ≤ s.size) && ((s.extract 0 p.size).toList == p.toList)) = false := by
      have : ((s.extract 0 p.size).toList == p.toList) = false := by simpa using h2
      rw [this]
      simp
    go_ret2
    refine ⟨?_, rfl⟩
    rw [Lib.trimPrefix_miss s p h3, ← Lib.hasPrefix_raw, h3]
    rfl
  · have h1 : p.size ≤ s.size := by assumption
    have h2 : (!((s.extract 0 p.size).toList == p.toList)) = false := by assumption
    have h2' : ((s.extract 0 p.size).toList == p.toList) = true := by simpa using h2
    go_ret2
    refine ⟨?_, rfl⟩
    rw [Lib.trimPrefix_hit s p h1 h2', ← Lib.hasPrefix_raw, h2', decide_eq_true h1]
    rfl
  · have h1 : ¬ p.size ≤ s.size := by assumption
    have h3 : (decide (p.size ≤ s.size) && ((s.extract 0 p.size).toList == p.toList)) = false := by simp [h1]
    go_ret2
    refine ⟨?_, rfl⟩
    rw [Lib.trimPrefix_miss s p h3, ← Lib.hasPrefix_raw, h3]
    rfl

/-- a word without the U that it begins with -/
theorem cutU_yes (r : Str) (w : World) :
    Calls Tryd.prog 53 #[.string ⟨(85 :: r).toArray⟩, .string ⟨#[85]⟩] w fun e w' => e = .returned (.tuple #[.string ⟨r.toArray⟩, .bool true]) ∧ w' = w :=
  (str_CutPrefix ⟨(85 :: r).toArray⟩ ⟨#[85]⟩ w).mono fun e w' h => by
    have e1 : Lib.hasPrefix (85 :: r) [85] = true := by simp [Lib.hasPrefix]
    have e2 : Lib.trimPrefix (85 :: r) [85] = r := by simp [Lib.trimPrefix, e1]
    have h' : e = .returned (.tuple #[.string ⟨(Lib.trimPrefix (85 :: r) [85]).toArray⟩, .bool (Lib.hasPrefix (85 :: r) [85])]) ∧ w' = w := h
    rwa [e1, e2] at h'
theorem cutU_no (x : Str) (hx : x.head? ≠ some 85) (w : World) :
    Calls Tryd.prog 53 #[.string ⟨x.toArray⟩, .string ⟨#[85]⟩] w fun e w' => e = .returned (.tuple #[.string ⟨x.toArray⟩, .bool false]) ∧ w' = w :=
  (str_CutPrefix ⟨x.toArray⟩ ⟨#[85]⟩ w).mono fun e w' h => by
    have e1 : Lib.hasPrefix x [85] = false := by
      cases x with
      | nil => rfl
      | cons a r =>
        have : a ≠ 85 := fun h => hx (by simp [h])
        have h2 : ((85 : UInt8) == a) = false := by simpa using fun h => this h.symm
        simp [Lib.hasPrefix, List.isPrefixOf, h2]
    have e2 : Lib.trimPrefix x [85] = x := by simp [Lib.trimPrefix, e1]
    have h' : e = .returned (.tuple #[.string ⟨(Lib.trimPrefix x [85]).toArray⟩, .bool (Lib.hasPrefix x [85])]) ∧ w' = w := h
    rwa [e1, e2] at h'
end Go.Proofs.YtjboibbgigkhkaaDoor
