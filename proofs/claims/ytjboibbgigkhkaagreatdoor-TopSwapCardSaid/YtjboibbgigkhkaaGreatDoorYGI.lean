/- strings.Contains at one byte, strings.CutPrefix of U: the shelf's texts, filled for this program. -/
import Derived.Test.YtjboibbgigkhkaaGreatDoorYGH
import Derived.Lib.Strings
import Derived.Lib.Slices
import Derived.Lib.Walk
import Derived.Lib.Bytealg
namespace Go.Proofs.YtjboibbgigkhkaaGreatDoor
open Go.RowKit
set_option maxRecDepth 100000

set_option maxHeartbeats 1000000 in
theorem sl_IndexByte (s : ByteArray) (c : Int) (w : World) :
    Calls Tryz.prog 116 #[.string s, .int .u8 c] w fun e w' => e = .returned (.int .i64 (Lib.indexByte s.data.toList c.toNat.toUInt8)) ∧ w' = w := by
  go_enter Tryz.func116, Tryz.ntmps116
  go_wp2
  rw [run_callFunc_extern Tryz.func139 (by kernel_rfl) (by kernel_rfl) (by kernel_rfl) (e := Extern.BytealgIndexByte.indexByte) (by kernel_rfl), Lib.run_indexByteString]
  simp only [Result.andThen]
  rw [Oper.upon_value]
  go_wp2
  go_ret
  exact ⟨rfl, rfl⟩

set_option maxHeartbeats 2000000 in
theorem sl_Index_one (s : ByteArray) (c : UInt8) (w : World) :
    Calls Tryz.prog 95 #[.string s, .string ⟨#[c]⟩] w fun e w' => e = .returned (.int .i64 (Lib.indexByte s.data.toList c)) ∧ w' = w := by
  go_enter Tryz.func95, Tryz.ntmps95
  go_wp2_with (go_at_call 116; refine (sl_IndexByte _ _ _).mono ?_; rintro e w' ⟨rfl, rfl⟩)
  · have h : ([c] == s.toList) = true := by assumption
    go_ret
    refine ⟨?_, rfl⟩
    have e : s.data.toList = [c] := by rw [← Lib.toList_data]; exact (beq_iff_eq.1 h).symm
    rw [e]
    simp [Lib.indexByte]
  · go_ret
    exact ⟨rfl, rfl⟩

set_option maxHeartbeats 1000000 in
theorem str_Index_one (s : ByteArray) (c : UInt8) (w : World) :
    Calls Tryz.prog 69 #[.string s, .string ⟨#[c]⟩] w fun e w' => e = .returned (.int .i64 (Lib.indexByte s.data.toList c)) ∧ w' = w := by
  go_enter Tryz.func69, Tryz.ntmps69
  go_wp2_with (go_at_call 95; refine (sl_Index_one _ _ _).mono ?_; rintro e w' ⟨rfl, rfl⟩)
  go_ret
  exact ⟨rfl, rfl⟩

set_option maxHeartbeats 1000000 in
theorem str_Contains_one (s : ByteArray) (c : UInt8) (w : World) :
    Calls Tryz.prog 35 #[.string s, .string ⟨#[c]⟩] w fun e w' => e = .returned (.bool (decide (0 ≤ Lib.indexByte s.data.toList c))) ∧ w' = w := by
  go_enter Tryz.func35, Tryz.ntmps35
  go_wp2_with (go_at_call 69; refine (str_Index_one _ _ _).mono ?_; rintro e w' ⟨rfl, rfl⟩)
  go_ret
  exact ⟨rfl, rfl⟩

theorem stop_index (c : UInt8) : decide (0 ≤ Lib.indexByte [32, 10, 40, 41] c) = isStop c := by
  unfold isStop isBlank isBr
  by_cases h1 : c = 32
  · subst h1; rfl
  · by_cases h2 : c = 10
    · subst h2; rfl
    · by_cases h3 : c = 40
      · subst h3; rfl
      · by_cases h4 : c = 41
        · subst h4; rfl
        · have e1 : (c == 32) = false := by simpa using h1
          have e2 : (c == 10) = false := by simpa using h2
          have e3 : (c == 40) = false := by simpa using h3
          have e4 : (c == 41) = false := by simpa using h4
          have f1 : ((32 : UInt8) == c) = false := by simpa using fun h => h1 h.symm
          have f2 : ((10 : UInt8) == c) = false := by simpa using fun h => h2 h.symm
          have f3 : ((40 : UInt8) == c) = false := by simpa using fun h => h3 h.symm
          have f4 : ((41 : UInt8) == c) = false := by simpa using fun h => h4 h.symm
          rw [e1, e2, e3, e4]
          simp [Lib.indexByte, f1, f2, f3, f4]

/-- is the one letter a stop? -/
theorem stop_any (c : UInt8) (w : World) :
    Calls Tryz.prog 35 #[.string ⟨#[32, 10, 40, 41]⟩, .string ⟨#[c]⟩] w fun e w' => e = .returned (.bool (isStop c)) ∧ w' = w :=
  (str_Contains_one ⟨#[32, 10, 40, 41]⟩ c w).mono fun e w' h => by
    rw [← stop_index c]
    exact h

set_option maxHeartbeats 1000000 in
theorem str_CutPrefix (s p : ByteArray) (w : World) :
    Calls Tryz.prog 71 #[.string s, .string p] w fun e w' => e = .returned (.tuple #[.string ⟨(Lib.trimPrefix s.data.toList p.data.toList).toArray⟩, .bool (Lib.hasPrefix s.data.toList p.data.toList)]) ∧ w' = w := by
  go_enter Tryz.func71, Tryz.ntmps71
  go_wp2
  · have h2 : (!((s.extract 0 p.size).toList == p.toList)) = true := by assumption
    have h3 : (decide (p.size ≤ s.size) && ((s.extract 0 p.size).toList == p.toList)) = false := by
      have : ((s.extract 0 p.size).toList == p.toList) = false := by simpa using h2
      rw [this]
      simp
    go_ret2
    refine ⟨?_, rfl⟩
    rw [Lib.trimPrefix_miss s p h3, ← Lib.hasPrefix_raw, h3]
    rfl
  · have h1 : p.size ≤ s.size := by assumption
    have h2 : (!((s.extract 0 p.size).toList == p.toList)) = false := by assumption
    have h2' : ((s.extract 0 p.size).toList == p.toList) = true := by simpa using h2
    go_ret2
    refine ⟨?_, rfl⟩
    rw [Lib.trimPrefix_hit s p h1 h2', ← Lib.hasPrefix_raw, h2', decide_eq_true h1]
    rfl
  · have h1 : ¬ p.size ≤ s.size := by assumption
    have h3 : (decide (p.size ≤ s.size) && ((s.extract 0 p.size).toList == p.toList)) = false := by simp [h1]
    go_ret2
    refine ⟨?_, rfl⟩
    rw [Lib.trimPrefix_miss s p h3, ← Lib.hasPrefix_raw, h3]
    rfl

/-- a word without the U that it begins with -/
theorem cutU_yes (r : Str) (w : World) :
    Calls Tryz.prog 71 #[.string ⟨(85 :: r).toArray⟩, .string ⟨#[85]⟩] w fun e w' => e = .returned (.tuple #[.string ⟨r.toArray⟩, .bool true]) ∧ w' = w :=
  (str_CutPrefix ⟨(85 :: r).toArray⟩ ⟨#[85]⟩ w).mono fun e w' h => by
    have e1 : Lib.hasPrefix (85 :: r) [85] = true := by simp [Lib.hasPrefix]
    have e2 : Lib.trimPrefix (85 :: r) [85] = r := by simp [Lib.trimPrefix, e1]
    have h' : e = .returned (.tuple #[.string ⟨(Lib.trimPrefix (85 :: r) [85]).toArray⟩, .bool (Lib.hasPrefix (85 :: r) [85])]) ∧ w' = w := h
    rwa [e1, e2] at h'
theorem cutU_no (x : Str) (hx : x.head? ≠ some 85) (w : World) :
    Calls Tryz.prog 71 #[.string ⟨x.toArray⟩, .string ⟨#[85]⟩] w fun e w' => e = .returned (.tuple #[.string ⟨x.toArray⟩, .bool false]) ∧ w' = w :=
  (str_CutPrefix ⟨x.toArray⟩ ⟨#[85]⟩ w).mono fun e w' h => by
    have e1 : Lib.hasPrefix x [85] = false := by
      cases x with
      | nil => rfl
      | cons a r =>
        have : a ≠ 85 := fun h => hx (by simp [h])
        have h2 : ((85 : UInt8) == a) = false := by simpa using fun h => this h.symm
        simp [Lib.hasPrefix, List.isPrefixOf, h2]
    have e2 : Lib.trimPrefix x [85] = x := by simp [Lib.trimPrefix, e1]
    have h' : e = .returned (.tuple #[.string ⟨(Lib.trimPrefix x [85]).toArray⟩, .bool (Lib.hasPrefix x [85])]) ∧ w' = w := h
    rwa [e1, e2] at h'
end Go.Proofs.YtjboibbgigkhkaaGreatDoor

/- text.Words: the words of a text. -/
namespace Go.Proofs.YtjboibbgigkhkaaGreatDoor
open Go.RowKit
set_option maxRecDepth 100000

theorem ext_one (s : Str) {k : Nat} (h : k < s.length) : (⟨s.toArray⟩ : ByteArray).extract k (k + 1) = ⟨#[s[k]]⟩ := by
  rw [bext]
  have : (s.take (k + 1)).drop k = [s[k]] := by
    rw [List.take_add_one, List.drop_append]
    simp [List.getElem?_eq_getElem h, Nat.min_eq_left (Nat.le_of_lt h)]
  rw [this]

theorem drop_cons_at {s : Str} {i : Nat} (hi : i < s.length) : s.drop i = s[i] :: s.drop (i + 1) := List.drop_eq_getElem_cons hi

theorem words_step_word {s : Str} {i k : Nat} (hi : i < k) (hk : k ≤ s.length) (ht : (s.drop i).takeWhile notStop = (s.drop i).take (k - i)) : words (s.drop i) = (s.take k).drop i :: words (s.drop k) := by
  have hl : i < s.length := by omega
  have h2 : (s.take k).drop i = (s.drop i).take (k - i) := by rw [List.drop_take]
  have h3 : (s.drop i).dropWhile notStop = s.drop k := by
    have h := List.takeWhile_append_dropWhile (p := notStop) (l := s.drop i)
    rw [ht] at h
    have h4 : (s.drop i).take (k - i) ++ (s.drop i).drop (k - i) = s.drop i := List.take_append_drop _ _
    have h5 := List.append_cancel_left (h.trans h4.symm)
    rw [h5, List.drop_drop]
    congr 1
    omega
  have hst : isStop s[i] = false := by
    rw [drop_cons_at hl, show k - i = (k - i - 1) + 1 by omega, List.take_succ_cons, List.takeWhile_cons] at ht
    by_cases hn : notStop s[i] = true
    · simpa [notStop] using hn
    · rw [if_neg hn] at ht; cases ht
  have h6 := words_word (c := s[i]) (r := s.drop (i + 1)) hst
  rw [← drop_cons_at hl, ht, h3] at h6
  rw [h6, h2]

theorem stop_at {s : Str} {i : Nat} (hi : i < s.length) (ht : (s.drop i).takeWhile notStop = (s.drop i).take 0) : isStop s[i] = true := by
  rw [drop_cons_at hi, List.takeWhile_cons] at ht
  by_cases hn : notStop s[i] = true
  · rw [if_pos hn] at ht; cases ht
  · simpa [notStop] using hn

theorem words_step_br {s : Str} {i : Nat} (hi : i < s.length) (hb : isBr s[i] = true) : words (s.drop i) = [s[i]] :: words (s.drop (i + 1)) := by
  rw [drop_cons_at hi, words_br hb]
theorem words_step_blank {s : Str} {i : Nat} (hi : i < s.length) (hb : isBlank s[i] = true) : words (s.drop i) = words (s.drop (i + 1)) := by
  rw [drop_cons_at hi, words_blank hb]

theorem br_iff (c : UInt8) : isBr c = true ↔ ((c.toNat : Nat) : Int) = 40 ∨ ((c.toNat : Nat) : Int) = 41 := by
  have key : ∀ n : UInt8, (c == n) = decide (((c.toNat : Nat) : Int) = ((n.toNat : Nat) : Int)) := by
    intro n
    by_cases h : c = n
    · subst h; simp
    · have : ¬ ((c.toNat : Nat) : Int) = ((n.toNat : Nat) : Int) := fun e => h (UInt8.toNat_inj.1 (by omega))
      rw [decide_eq_false this]; simpa using h
  unfold isBr
  rw [key 40, key 41]
  simp

set_option maxHeartbeats 800000 in
theorem pwordsof_any (s : Str) (hs : s.length ≤ 1000000000) (w : World) :
    Calls Tryz.prog 15 #[.string ⟨s.toArray⟩] w (fun e w' => ∃ V, e = .returned V ∧ w'.ownsRow w.heap.size 9 1 V (words s).length (strc (words s)) ∧ Below w.heap.size w w') := by
  go_enter Tryz.func15, Tryz.ntmps15
  obtain ⟨i0, hi0, hz0, hz1, hz2⟩ := info_parts Tryz.infoStr
  go_wp2_with fail
  go_loopw [3, 4] (fun v iv wr => ∃ i : Nat, i ≤ s.length ∧ iv = .int .i64 i ∧ ∃ l : List Str, wr.ownsRow w.heap.size 9 1 v l.length (strc l) ∧ Hid (l ++ words (s.drop i) = words s) ∧ Below w.heap.size w wr ∧ l.length ≤ i) (fun _ iv _ => s.length - (intOf iv).toNat)
  case atStart => exact ⟨0, Nat.zero_le _, rfl, [], World.ownsRow_nil _ _ _ _, Lib.hid rfl, Below.refl _ _, Nat.le_refl _⟩
  case round =>
    obtain ⟨i, hi, rfl, l, hown, hw, hb, hli⟩ := hrel
    obtain ⟨A, cap, hV⟩ : ∃ A cap, u3 = .slice A l.length cap := by
      rcases hown.2 with ⟨h1, h0⟩ | ⟨g, c, cur, h1, -⟩
      · exact ⟨_, _, by rw [h0]; exact h1⟩
      · exact ⟨_, _, h1⟩
    subst hV
    by_cases hlt : i < s.length
    · have HO := Lib.hid hown
      clear hown
      go_upto_block 2 with fail
      go_cut [5] from 11 to 25 (fun v wd => ∃ k : Nat, i ≤ k ∧ k ≤ s.length ∧ v = .int .i64 k ∧ (s.drop i).takeWhile notStop = (s.drop i).take (k - i) ∧ wd = wr)
      case first =>
        go_wp2_with fail
        go_loopw [5] (fun v wx => ∃ k : Nat, i ≤ k ∧ k ≤ s.length ∧ v = .int .i64 k ∧ ((s.drop i).take (k - i)).all notStop = true ∧ wx = wr) (fun v _ => s.length - (intOf v).toNat)
        case atStart => exact ⟨i, Nat.le_refl _, hi, rfl, by simp, rfl⟩
        case round =>
          obtain ⟨k, hik, hk, rfl, hall, rfl⟩ := hrel
          have HALL := Lib.hid hall
          clear hall
          by_cases hkl : k < s.length
          · have hcall : Calls Tryz.prog 35 #[.string ⟨#[32, 10, 40, 41]⟩, .string ((⟨s.toArray⟩ : ByteArray).extract k (k + 1))] wr (fun e w' => e = .returned (.bool (isStop s[k])) ∧ w' = wr) := by
              rw [ext_one s hkl]
              exact stop_any s[k] wr
            have HCALL := Lib.hid hcall
            clear hcall
            obtain ⟨q, hq⟩ : ∃ q, isStop s[k] = q := ⟨_, rfl⟩
            have HQ := Lib.hid hq
            go_wp2_with fail
            refine HCALL.out.mono ?_
            rintro e w' ⟨rfl, rfl⟩
            rw [hq]
            clear hq HCALL
            cases q with
            | true =>
              have HT := Lib.hid (takeWhile_take (p := notStop) HALL.out (.inr ⟨by simp; omega, by
                have h := HQ.out
                simp only [List.getElem_drop]
                have e1 : s[i + (k - i)]'(by omega) = s[k] := by congr 1; omega
                rw [e1, notStop, h]; rfl⟩))
              go_wp2_with fail
              go_meet
              exact ⟨k, hik, hk, rfl, HT.out, rfl⟩
            | false =>
              go_wp2_with fail
              go_roundw
              case rel => exact ⟨k + 1, by omega, by omega, by go_num, by
                rw [show k + 1 - i = (k - i) + 1 by omega, List.take_add_one, List.all_append, HALL.out, List.getElem?_drop, show i + (k - i) = k by omega, List.getElem?_eq_getElem hkl]
                simp [notStop, HQ.out], by first | rfl | trivial⟩
              case measure => simp [intOf]; omega
          · obtain rfl : k = s.length := by omega
            have HT := Lib.hid (takeWhile_take (p := notStop) HALL.out (.inl (by simp)))
            go_wp2_with fail
            go_meet
            exact ⟨s.length, hik, hk, rfl, HT.out, rfl⟩
      case rest =>
        obtain ⟨k, hik, hk, rfl, ht, rfl⟩ := hcut
        by_cases hik2 : i < k
        · have hx := words_step_word hik2 hk ht
          have HE := Lib.hid (bext s i k)
          obtain ⟨x, hxx⟩ : ∃ x, (s.take k).drop i = x := ⟨_, rfl⟩
          rw [hxx] at hx
          have HX := Lib.hid hx
          have HXE := Lib.hid (show (⟨s.toArray⟩ : ByteArray).extract i k = ⟨x.toArray⟩ from by rw [bext, hxx])
          clear hx hxx ht
          have HOA := Lib.hid (HO.out.alloc (.cells #[.string ((⟨s.toArray⟩ : ByteArray).extract i k)] 9))
          have HRD := Lib.hid (reads_new wc (.string ((⟨s.toArray⟩ : ByteArray).extract i k)) 9)
          have hl1 : l.length + 1 ≤ maxLen := by unfold maxLen; omega
          have hl2 : (l.length + 1) * 16 ≤ 140737488355328 := by omega
          go_wp2_with (first | (at_builtin; go_loud (refine wpList_append_any _ rfl (.tmp 32) (.tmp 37) 35 rfl w.heap.size 9 i0 (.string ⟨#[]⟩) 1 16 Tryz.underlying35 hi0 hz0 hz1 hz2 rfl (by decide) _ l.length (strc l) rfl HOA.out (wc.alloc (.cells #[.string ((⟨s.toArray⟩ : ByteArray).extract i k)] 9)).heap.size (some ⟨wc.heap.size, 0, none⟩) 1 1 [.string ((⟨s.toArray⟩ : ByteArray).extract i k)] rfl HRD.out (by intro u hu; simp at hu; subst hu; rfl) hl1 hl2 (by have := hb.size; simp; omega) ?_)))
          intro V2 w9 hown9 hgr9 _
          rw [HXE.out] at hown9
          have hown9' : w9.ownsRow w.heap.size 9 1 V2 (l ++ [x]).length (strc (l ++ [x])) := by simpa [strc] using hown9
          have HE9 := Lib.hid (And.intro hown9' ((hb.alloc hb.size (.cells #[.string ((⟨s.toArray⟩ : ByteArray).extract i k)] 9)).grown hgr9 (by have := hb.size; simp; omega) (fun g hg => (HOA.out.lt g hg).1)))
          have HW9 := Lib.hid (show (l ++ [x]) ++ words (s.drop (k)) = words s from by rw [List.append_assoc]; have h := hw.out; rw [HX.out] at h; simpa using h)
          clear hown9 hgr9 hown9'
          go_wp2_with fail
          go_roundw
          case rel => exact ⟨k, by omega, by go_num, l ++ [x], HE9.out.1, HW9, HE9.out.2, by simp; omega⟩
          case measure => simp [intOf]; omega
        · obtain rfl : i = k := by omega
          rw [Nat.sub_self] at ht
          have hst := stop_at hlt ht
          have hkb : i < (⟨s.toArray⟩ : ByteArray).size := hlt
          clear ht
          by_cases hbr : isBr s[i] = true
          · have HX := Lib.hid (words_step_br hlt hbr)
            have HXE := Lib.hid (show (⟨s.toArray⟩ : ByteArray).extract i (i + 1) = ⟨([s[i]] : Str).toArray⟩ from ext_one s hlt)
            have hc : ((((⟨s.toArray⟩ : ByteArray)[i]'hkb).toNat : Nat) : Int) = 40 ∨ ((((⟨s.toArray⟩ : ByteArray)[i]'hkb).toNat : Nat) : Int) = 41 := (br_iff _).1 hbr
            have HOA := Lib.hid (HO.out.alloc (.cells #[.string ((⟨s.toArray⟩ : ByteArray).extract i (i + 1))] 9))
            have HRD := Lib.hid (reads_new wc (.string ((⟨s.toArray⟩ : ByteArray).extract i (i + 1))) 9)
            have hl1 : l.length + 1 ≤ maxLen := by unfold maxLen; omega
            have hl2 : (l.length + 1) * 16 ≤ 140737488355328 := by omega
            clear hbr hst
            rcases hc with hc | hc
            · go_wp2_with (first | (at_builtin; go_loud (refine wpList_append_any _ rfl (.tmp 50) (.tmp 56) 35 rfl w.heap.size 9 i0 (.string ⟨#[]⟩) 1 16 Tryz.underlying35 hi0 hz0 hz1 hz2 rfl (by decide) _ l.length (strc l) rfl HOA.out (wc.alloc (.cells #[.string ((⟨s.toArray⟩ : ByteArray).extract i (i + 1))] 9)).heap.size (some ⟨wc.heap.size, 0, none⟩) 1 1 [.string ((⟨s.toArray⟩ : ByteArray).extract i (i + 1))] rfl HRD.out (by intro u hu; simp at hu; subst hu; rfl) hl1 hl2 (by have := hb.size; simp; omega) ?_)))
              intro V2 w9 hown9 hgr9 _
              rw [HXE.out] at hown9
              have hown9' : w9.ownsRow w.heap.size 9 1 V2 (l ++ [[s[i]]]).length (strc (l ++ [[s[i]]])) := by simpa [strc] using hown9
              have HE9 := Lib.hid (And.intro hown9' ((hb.alloc hb.size (.cells #[.string ((⟨s.toArray⟩ : ByteArray).extract i (i + 1))] 9)).grown hgr9 (by have := hb.size; simp; omega) (fun g hg => (HOA.out.lt g hg).1)))
              have HW9 := Lib.hid (show (l ++ [[s[i]]]) ++ words (s.drop (i + 1)) = words s from by rw [List.append_assoc]; have h := hw.out; rw [HX.out] at h; simpa using h)
              clear hown9 hgr9 hown9'
              go_wp2_with fail
              go_roundw
              case rel => exact ⟨i + 1, by omega, by go_num, l ++ [[s[i]]], HE9.out.1, HW9, HE9.out.2, by simp; omega⟩
              case measure => simp [intOf]; omega
            · go_wp2_with (first | (at_builtin; go_loud (refine wpList_append_any _ rfl (.tmp 50) (.tmp 56) 35 rfl w.heap.size 9 i0 (.string ⟨#[]⟩) 1 16 Tryz.underlying35 hi0 hz0 hz1 hz2 rfl (by decide) _ l.length (strc l) rfl HOA.out (wc.alloc (.cells #[.string ((⟨s.toArray⟩ : ByteArray).extract i (i + 1))] 9)).heap.size (some ⟨wc.heap.size, 0, none⟩) 1 1 [.string ((⟨s.toArray⟩ : ByteArray).extract i (i + 1))] rfl HRD.out (by intro u hu; simp at hu; subst hu; rfl) hl1 hl2 (by have := hb.size; simp; omega) ?_)))
              intro V2 w9 hown9 hgr9 _
              rw [HXE.out] at hown9
              have hown9' : w9.ownsRow w.heap.size 9 1 V2 (l ++ [[s[i]]]).length (strc (l ++ [[s[i]]])) := by simpa [strc] using hown9
              have HE9 := Lib.hid (And.intro hown9' ((hb.alloc hb.size (.cells #[.string ((⟨s.toArray⟩ : ByteArray).extract i (i + 1))] 9)).grown hgr9 (by have := hb.size; simp; omega) (fun g hg => (HOA.out.lt g hg).1)))
              have HW9 := Lib.hid (show (l ++ [[s[i]]]) ++ words (s.drop (i + 1)) = words s from by rw [List.append_assoc]; have h := hw.out; rw [HX.out] at h; simpa using h)
              clear hown9 hgr9 hown9'
              go_wp2_with fail
              go_roundw
              case rel => exact ⟨i + 1, by omega, by go_num, l ++ [[s[i]]], HE9.out.1, HW9, HE9.out.2, by simp; omega⟩
              case measure => simp [intOf]; omega
          · have hbl : isBlank s[i] = true := by
              have : isBr s[i] = false := by simpa using hbr
              simpa [isStop, this] using hst
            have HX := Lib.hid (words_step_blank hlt hbl)
            have hnb : ¬ (((s[i].toNat : Nat) : Int) = 40 ∨ ((s[i].toNat : Nat) : Int) = 41) := fun h => hbr ((br_iff _).2 h)
            have hc1 : (((((⟨s.toArray⟩ : ByteArray)[i]'hkb).toNat : Nat) : Int) == 40) = false := by rw [beq_eq_false_iff_ne]; exact fun e => hnb (.inl e)
            have hc2 : (((((⟨s.toArray⟩ : ByteArray)[i]'hkb).toNat : Nat) : Int) == 41) = false := by rw [beq_eq_false_iff_ne]; exact fun e => hnb (.inr e)
            have hc3 : ¬ ((((⟨s.toArray⟩ : ByteArray)[i]'hkb).toNat : Nat) : Int) = 40 := fun e => hnb (.inl e)
            have HW9 := Lib.hid (show l ++ words (s.drop (i + 1)) = words s from by have h := hw.out; rwa [HX.out] at h)
            clear hbr hst hbl hnb
            go_wp2_with fail
            go_roundw
            case rel => exact ⟨i + 1, by omega, by go_num, l, HO.out, HW9, hb, by omega⟩
            case measure => simp [intOf]; omega
    · obtain rfl : i = s.length := by omega
      have hfin : l = words s := by have h := hw.out; rw [List.drop_length] at h; simpa [words_nil] using h
      have HO := Lib.hid hown
      have HF := Lib.hid hfin
      clear hown hfin
      go_wp2_with fail
      go_ret
      rw [← HF.out]
      exact ⟨_, rfl, HO.out, hb⟩
end Go.Proofs.YtjboibbgigkhkaaGreatDoor

