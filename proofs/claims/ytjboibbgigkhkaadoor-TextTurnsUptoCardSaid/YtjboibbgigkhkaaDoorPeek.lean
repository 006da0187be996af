/- Peek of the document's answer: the next word. -/
import Derived.Test.YtjboibbgigkhkaaDoorRName
namespace Go.Proofs.YtjboibbgigkhkaaDoor
open Go.RowKit
set_option maxRecDepth 100000

/-- the word at the head of a text that begins with no blank -/
def hd (s : Str) : Str := match s with
  | [] => []
  | c :: r => if isBr c then [c] else (c :: r).takeWhile notStop

def strLen (w : World) (R : Nat) : Nat := match w.cell? ⟨R, 0, none⟩ with
  | some (.string b) => b.size
  | _ => 0

theorem strLen_of {w : World} {R : Nat} {t : TypeId} {s : Str} {D E : Value} (h : Blk w R t #[.string ⟨s.toArray⟩, D, E]) : strLen w R = s.length := by
  unfold strLen
  rw [h.cell 0]
  rfl

theorem bext (s : Str) (a b : Nat) : (⟨s.toArray⟩ : ByteArray).extract a b = ⟨((s.take b).drop a).toArray⟩ := by
  apply ByteArray.ext
  rw [ByteArray.data_extract]
  simp [List.extract_eq_take_drop, List.drop_take]

theorem takeWhile_take {α : Type} {p : α → Bool} : ∀ {s : List α} {k : Nat}, (s.take k).all p = true → (s.length ≤ k ∨ ∃ h : k < s.length, p s[k] = false) → s.takeWhile p = s.take k := by
  intro s
  induction s with
  | nil => intro k _ _; simp
  | cons c r ih =>
    intro k h1 h2
    cases k with
    | zero =>
      rcases h2 with h2 | ⟨_, h2⟩
      · simp at h2
      · simp only [List.getElem_cons_zero] at h2
        simp [List.takeWhile_cons, h2]
    | succ k =>
      simp only [List.take_succ_cons, List.all_cons, Bool.and_eq_true] at h1
      rw [List.takeWhile_cons, h1.1, List.take_succ_cons]
      simp only [if_true]
      rw [ih h1.2]
      rcases h2 with h2 | ⟨h3, h2⟩
      · exact .inl (by simpa using h2)
      · exact .inr ⟨by simpa using h3, by simpa using h2⟩

theorem stop_iff (c : UInt8) : notStop c = true ↔ ((c.toNat : Nat) : Int) ≠ 32 ∧ ((c.toNat : Nat) : Int) ≠ 10 ∧ ((c.toNat : Nat) : Int) ≠ 40 ∧ ((c.toNat : Nat) : Int) ≠ 41 := by
  have key : ∀ n : UInt8, (c == n) = decide (((c.toNat : Nat) : Int) = ((n.toNat : Nat) : Int)) := by
    intro n
    by_cases h : c = n
    · subst h; simp
    · have : ¬ ((c.toNat : Nat) : Int) = ((n.toNat : Nat) : Int) := fun e => h (UInt8.toNat_inj.1 (by omega))
      rw [decide_eq_false this]; simpa using h
  unfold notStop isStop isBlank isBr
  rw [key 32, key 10, key 40, key 41]
  simp
  omega

theorem blank_iff (c : UInt8) : isBlank c = true ↔ ((c.toNat : Nat) : Int) = 32 ∨ ((c.toNat : Nat) : Int) = 10 := by
  have key : ∀ n : UInt8, (c == n) = decide (((c.toNat : Nat) : Int) = ((n.toNat : Nat) : Int)) := by
    intro n
    by_cases h : c = n
    · subst h; simp
    · have : ¬ ((c.toNat : Nat) : Int) = ((n.toNat : Nat) : Int) := fun e => h (UInt8.toNat_inj.1 (by omega))
      rw [decide_eq_false this]; simpa using h
  unfold isBlank
  rw [key 32, key 10]
  simp

theorem drop_blank {s : Str} (h0 : 0 < s.length) (h : isBlank s[0] = true) : (s.drop 1).dropWhile isBlank = s.dropWhile isBlank := by
  cases s with
  | nil => simp at h0
  | cons c r =>
    simp only [List.getElem_cons_zero] at h
    rw [List.dropWhile_cons, h]
    simp

theorem keep_head {s : Str} (h0 : 0 < s.length) (h : isBlank s[0] = false) : s.dropWhile isBlank = s := by
  cases s with
  | nil => simp at h0
  | cons c r =>
    simp only [List.getElem_cons_zero] at h
    rw [List.dropWhile_cons, h]
    simp

/-- the head's word, where k letters are no stop and the next one is -/
theorem hd_of {s : Str} {k : Nat} (hb : ∀ h : 0 < s.length, isBlank s[0] = false) (h : s.takeWhile notStop = s.take k) (hk : k ≤ s.length) : hd s = s.take (if k = 0 ∧ 0 < s.length then 1 else k) := by
  cases s with
  | nil => simp [hd]
  | cons c r =>
    have hc := hb (by simp)
    simp only [List.getElem_cons_zero] at hc
    unfold hd
    by_cases hbr : isBr c = true
    · have hn : notStop c = false := by simp [notStop, isStop, hbr]
      rw [List.takeWhile_cons, hn] at h
      have h0 : k = 0 := by
        cases k with
        | zero => rfl
        | succ k => simp at h
      simp [hbr, h0]
    · have hbr : isBr c = false := by simpa using hbr
      have hn : notStop c = true := by simp [notStop, isStop, hc, hbr]
      have h0 : k ≠ 0 := by
        intro e
        subst e
        rw [List.takeWhile_cons, hn] at h
        simp at h
      rw [if_neg (fun h => h0 h.1), ← h]
      simp [hbr]

theorem trim_ex (s : Str) : ∃ t, s.dropWhile isBlank = t ∧ (∀ h : 0 < t.length, isBlank (t[0]) = false) ∧ t.length ≤ s.length := by
  refine ⟨_, rfl, fun h => ?_, (List.dropWhile_sublist _).length_le⟩
  have := List.head_dropWhile_not (p := isBlank) (l := s) (by intro e; rw [e] at h; simp at h)
  rw [List.head_eq_getElem] at this
  simpa using this

theorem peek_any (w : World) (R : Nat) (s : Str) (D E : Value) (hs : s.length ≤ 1000000000000) (hR : Blk w R 84 #[.string ⟨s.toArray⟩, D, E]) :
    Calls Tryd.prog 58 #[.pointer (some ⟨R, 0, none⟩)] w
      (fun e w' => e = .returned (.string ⟨(hd (s.dropWhile isBlank)).toArray⟩) ∧ Blk w' R 84 #[.string ⟨(s.dropWhile isBlank).toArray⟩, D, E] ∧ But R w.heap.size w w') := by
  have HR := Lib.hid hR
  clear hR
  go_enter Tryd.func58, Tryd.ntmps58
  go_upto_block 0 with fail
  go_cut [] from 4 to 33 (fun wc => Blk wc R 84 #[.string ⟨(s.dropWhile isBlank).toArray⟩, D, E] ∧ But R w.heap.size w wc)
  case first =>
    go_wp2_with fail
    go_loopw [] (fun wr => ∃ s' : Str, s'.length ≤ s.length ∧ s'.dropWhile isBlank = s.dropWhile isBlank ∧ Blk wr R 84 #[.string ⟨s'.toArray⟩, D, E] ∧ But R w.heap.size w wr) (fun wr => strLen wr R)
    case atStart => exact ⟨s, Nat.le_refl _, rfl, HR.out, But.refl _ _ _⟩
    case round =>
      obtain ⟨s', hl, hd', hB, hb⟩ := hrel
      have HD := Lib.hid hd'
      have HB := Lib.hid hB
      have q0 : wr.cell? ⟨R, 0, none⟩ = some (.string ⟨s'.toArray⟩) := hB.cell 0
      have f0 := hB.frozen 0
      clear hd' hB
      by_cases h0 : 0 < s'.length
      · have hkb : 0 < (⟨s'.toArray⟩ : ByteArray).size := h0
        by_cases h1 : isBlank s'[0] = true
        · have HH := Lib.hid h1
          have hc : ((((⟨s'.toArray⟩ : ByteArray)[0]'hkb).toNat : Nat) : Int) = 32 ∨ (((((⟨s'.toArray⟩ : ByteArray)[0]'hkb).toNat : Nat) : Int) == 32) = false ∧ ¬ ((((⟨s'.toArray⟩ : ByteArray)[0]'hkb).toNat : Nat) : Int) = 32 ∧ ((((⟨s'.toArray⟩ : ByteArray)[0]'hkb).toNat : Nat) : Int) = 10 := by
            have hh := (blank_iff _).1 h1
            rcases hh with hh | hh
            · exact .inl hh
            · exact .inr ⟨by rw [beq_eq_false_iff_ne]; intro e; exact absurd (hh.symm.trans e) (by decide), by intro e; exact absurd (hh.symm.trans e) (by decide), hh⟩
          clear h1
          have hE := bext s' 1 s'.length
          have hlen : ((s'.take s'.length).drop 1).length + 1 = s'.length := by simp; omega
          have hR2 : ((s'.take s'.length).drop 1).dropWhile isBlank = s.dropWhile isBlank := by rw [List.take_length, drop_blank h0 HH.out]; exact HD.out
          have HR2 := Lib.hid hR2
          clear hR2
          rcases hc with hc | ⟨hc1, hc2, hc⟩
          · go_wp2_with fail
            go_roundw
            case rel => exact ⟨(s'.take s'.length).drop 1, by omega, HR2.out, by have h := HB.out.set_ 0 (.string ⟨((s'.take s'.length).drop 1).toArray⟩); simpa [bext] using h, hb.setX (p := ⟨R, 0, none⟩) rfl _⟩
            case measure =>
              have h := HB.out.set_ 0 (.string ⟨((s'.take s'.length).drop 1).toArray⟩)
              have h' : Blk (wr.setCell ⟨R, 0, none⟩ (.string ⟨((s'.take s'.length).drop 1).toArray⟩)) R 84 #[.string ⟨((s'.take s'.length).drop 1).toArray⟩, D, E] := by simpa using h
              have e1 := strLen_of h'
              have e2 := strLen_of HB.out
              simp [bext] at e1 e2 ⊢
              omega
          · go_wp2_with fail
            go_roundw
            case rel => exact ⟨(s'.take s'.length).drop 1, by omega, HR2.out, by have h := HB.out.set_ 0 (.string ⟨((s'.take s'.length).drop 1).toArray⟩); simpa [bext] using h, hb.setX (p := ⟨R, 0, none⟩) rfl _⟩
            case measure =>
              have h := HB.out.set_ 0 (.string ⟨((s'.take s'.length).drop 1).toArray⟩)
              have h' : Blk (wr.setCell ⟨R, 0, none⟩ (.string ⟨((s'.take s'.length).drop 1).toArray⟩)) R 84 #[.string ⟨((s'.take s'.length).drop 1).toArray⟩, D, E] := by simpa using h
              have e1 := strLen_of h'
              have e2 := strLen_of HB.out
              simp [bext] at e1 e2 ⊢
              omega
        · have hh : ¬ (((s'[0].toNat : Nat) : Int) = 32 ∨ ((s'[0].toNat : Nat) : Int) = 10) := fun h => h1 ((blank_iff _).2 h)
          have hc1 : (((((⟨s'.toArray⟩ : ByteArray)[0]'hkb).toNat : Nat) : Int) == 32) = false := by rw [beq_eq_false_iff_ne]; exact fun e => hh (.inl e)
          have hc2 : (((((⟨s'.toArray⟩ : ByteArray)[0]'hkb).toNat : Nat) : Int) == 10) = false := by rw [beq_eq_false_iff_ne]; exact fun e => hh (.inr e)
          have hc3 : ¬ ((((⟨s'.toArray⟩ : ByteArray)[0]'hkb).toNat : Nat) : Int) = 32 := fun e => hh (.inl e)
          have HH := Lib.hid (show s'.dropWhile isBlank = s' from keep_head h0 (by simpa using h1))
          clear h1 hh
          go_wp2_with fail
          go_meet
          exact ⟨by rw [← HD.out, HH.out]; exact HB.out, hb⟩
      · have hn : s' = [] := List.eq_nil_of_length_eq_zero (by omega)
        have HN := Lib.hid hn
        clear hn
        go_wp2_with fail
        go_meet
        exact ⟨by rw [← HD.out]; have h := HB.out; rw [HN.out] at h ⊢; exact h, hb⟩
  case rest =>
    obtain ⟨hB, hb⟩ := hcut
    obtain ⟨t, ht, hbl, hle⟩ := trim_ex s
    simp only [ht] at hB
    have HT := Lib.hid ht
    clear ht
    have HB := Lib.hid hB
    have HBL := Lib.hid hbl
    have q0 : wc.cell? ⟨R, 0, none⟩ = some (.string ⟨t.toArray⟩) := hB.cell 0
    have HE := Lib.hid (show ∀ k, k ≤ t.length → (⟨t.toArray⟩ : ByteArray).extract 0 k = ⟨(t.take k).toArray⟩ from fun k hk => by rw [bext]; simp)
    clear hB hbl HR
    go_upto_block 2 with fail
    go_cut [3] from 34 to 78 (fun v wd => ∃ k : Nat, k ≤ t.length ∧ v = .int .i64 k ∧ t.takeWhile notStop = t.take k ∧ wd = wc)
    case first =>
      go_wp2_with fail
      go_loopw [3] (fun i wr => ∃ k : Nat, k ≤ t.length ∧ i = .int .i64 k ∧ (t.take k).all notStop = true ∧ wr = wc) (fun i _ => t.length - (intOf i).toNat)
      case atStart => exact ⟨0, by omega, rfl, rfl, rfl⟩
      case round =>
        obtain ⟨k, hk, rfl, hall, rfl⟩ := hrel
        have HA := Lib.hid hall
        clear hall
        by_cases hlt : k < t.length
        · have hkb : k < (⟨t.toArray⟩ : ByteArray).size := hlt
          by_cases hn : notStop t[k] = true
          · have HN := Lib.hid hn
            obtain ⟨a1, a2, a3, a4⟩ := (stop_iff _).1 hn
            have c1 : (((((⟨t.toArray⟩ : ByteArray)[k]'hkb).toNat : Nat) : Int) != 32) = true := by rw [bne_iff_ne]; exact a1
            have c2 : (((((⟨t.toArray⟩ : ByteArray)[k]'hkb).toNat : Nat) : Int) != 10) = true := by rw [bne_iff_ne]; exact a2
            have c3 : (((((⟨t.toArray⟩ : ByteArray)[k]'hkb).toNat : Nat) : Int) != 40) = true := by rw [bne_iff_ne]; exact a3
            have c4 : (((((⟨t.toArray⟩ : ByteArray)[k]'hkb).toNat : Nat) : Int) != 41) = true := by rw [bne_iff_ne]; exact a4
            clear hn a1 a2 a3 a4
            go_wp2_with fail
            go_roundw
            case rel => exact ⟨k + 1, by omega, by go_num, by rw [List.take_add_one, List.all_append, HA.out, List.getElem?_eq_getElem hlt]; simp [HN.out], by first | rfl | trivial⟩
            case measure => simp [intOf]; omega
          · have HN := Lib.hid (show t.takeWhile notStop = t.take k from takeWhile_take HA.out (.inr ⟨hlt, by simpa using hn⟩))
            have hq : ((t[k].toNat : Nat) : Int) = 32 ∨ ((t[k].toNat : Nat) : Int) = 10 ∨ ((t[k].toNat : Nat) : Int) = 40 ∨ ((t[k].toNat : Nat) : Int) = 41 := by
              rw [stop_iff] at hn
              omega
            have hq2 : ((((⟨t.toArray⟩ : ByteArray)[k]'hkb).toNat : Nat) : Int) = 32 ∨ ((((⟨t.toArray⟩ : ByteArray)[k]'hkb).toNat : Nat) : Int) = 10 ∨ ((((⟨t.toArray⟩ : ByteArray)[k]'hkb).toNat : Nat) : Int) = 40 ∨ ((((⟨t.toArray⟩ : ByteArray)[k]'hkb).toNat : Nat) : Int) = 41 := hq
            clear hn hq
            rcases hq2 with c1 | c1 | c1 | c1
            all_goals
              go_wp2_with fail
              go_meet
              exact ⟨k, by omega, rfl, HN.out, rfl⟩
        · obtain rfl : k = t.length := by omega
          have HN := Lib.hid (show t.takeWhile notStop = t.take t.length from takeWhile_take HA.out (.inl (Nat.le_refl _)))
          go_wp2_with fail
          go_meet
          exact ⟨t.length, by omega, rfl, HN.out, rfl⟩
    case rest =>
      obtain ⟨k, hk, rfl, hT, rfl⟩ := hcut
      have HH := Lib.hid (hd_of HBL.out hT hk)
      clear hT
      by_cases h0 : k = 0
      · subst h0
        by_cases h1 : 0 < t.length
        · have h1' : 1 ≤ t.length := h1
          go_wp2_with fail
          go_ret
          refine ⟨?_, by rw [HT.out]; exact HB.out, hb⟩
          rw [HT.out, HH.out, if_pos (by simpa using h1), ← HE.out 1 h1']
          rfl
        · go_wp2_with fail
          go_ret
          refine ⟨?_, by rw [HT.out]; exact HB.out, hb⟩
          rw [HT.out, HH.out, if_neg (fun h => h1 h.2), ← HE.out 0 (by omega)]
          simp
      · have hkb : ((k : Int) == 0) = false := by simpa using h0
        go_wp2_with fail
        go_ret
        refine ⟨?_, by rw [HT.out]; exact HB.out, hb⟩
        rw [HT.out, HH.out, if_neg (fun h => h0 h.1), ← HE.out k hk]
        rfl
end Go.Proofs.YtjboibbgigkhkaaDoor
