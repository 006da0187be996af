/- Peek and W of the document's answer, by words. -/
import Derived.Test.YtjboibbgigkhkaaDoorPeek
namespace Go.Proofs.YtjboibbgigkhkaaDoor
open Go.RowKit
set_option maxRecDepth 100000

theorem words_trim : ∀ s : Str, words (s.dropWhile isBlank) = words s := by
  intro s
  induction s with
  | nil => rfl
  | cons c r ih =>
    rw [List.dropWhile_cons]
    by_cases h : isBlank c = true
    · rw [if_pos h, ih, words_blank h]
    · rw [if_neg h]

theorem hd_words {t : Str} (hb : ∀ h : 0 < t.length, isBlank (t[0]) = false) : hd t = (words t).headD [] ∧ words (t.drop (hd t).length) = (words t).tail := by
  cases t with
  | nil => exact ⟨rfl, rfl⟩
  | cons c r =>
    have hc := hb (by simp)
    simp only [List.getElem_cons_zero] at hc
    by_cases hbr : isBr c = true
    · have hh : hd (c :: r) = [c] := by simp [hd, hbr]
      rw [hh, words_br hbr]
      exact ⟨rfl, rfl⟩
    · have hbr : isBr c = false := by simpa using hbr
      have hh : hd (c :: r) = (c :: r).takeWhile notStop := by simp [hd, hbr]
      have hs : isStop c = false := by simp [isStop, hc, hbr]
      rw [words_word hs, hh]
      refine ⟨rfl, ?_⟩
      have e : (c :: r).drop ((c :: r).takeWhile notStop).length = (c :: r).dropWhile notStop := by
        have h := List.takeWhile_append_dropWhile (p := notStop) (l := c :: r)
        calc (c :: r).drop ((c :: r).takeWhile notStop).length
            = ((c :: r).takeWhile notStop ++ (c :: r).dropWhile notStop).drop ((c :: r).takeWhile notStop).length := by rw [h]
          _ = (c :: r).dropWhile notStop := by rw [List.drop_left]
      rw [e]
      rfl

theorem hd_le (t : Str) : (hd t).length ≤ t.length := by
  cases t with
  | nil => simp [hd]
  | cons c r =>
    show (if isBr c then [c] else (c :: r).takeWhile notStop).length ≤ _
    split
    · simp
    · exact (List.takeWhile_sublist _).length_le

theorem take_of_words (p : PS) : p.take.1 = p.l.headD [] ∧ p.take.2 = (if p.l.headD [] = [] ∧ p.l = [] then p.fail 8 else ⟨p.l.tail, p.e⟩) := by
  obtain ⟨l, e⟩ := p
  cases l with
  | nil => exact ⟨rfl, rfl⟩
  | cons a r => exact ⟨rfl, by simp [PS.take]⟩

theorem rpeek_any (w : World) (R : Nat) (D : Value) (p : PS) (hR : RBox w R D p) :
    Calls Tryd.prog 58 #[.pointer (some ⟨R, 0, none⟩)] w (ReadPost (.string ⟨(p.l.headD []).toArray⟩) p R D w) := by
  obtain ⟨s, hs, hw, hB⟩ := hR
  refine (peek_any w R s D _ hs hB).mono ?_
  rintro e w' ⟨rfl, h1, h2⟩
  obtain ⟨t, ht, hbl, hle⟩ := trim_ex s
  rw [ht] at h1 ⊢
  have hwt : words t = p.l := by rw [← ht, words_trim, hw]
  exact ⟨by rw [(hd_words hbl).1, hwt], ⟨t, by omega, hwt, h1⟩, h2⟩

theorem rw_any (w : World) (R : Nat) (D : Value) (p : PS) (hR : RBox w R D p) :
    Calls Tryd.prog 74 #[.pointer (some ⟨R, 0, none⟩)] w (ReadPost (.string ⟨p.take.1.toArray⟩) p.take.2 R D w) := by
  obtain ⟨s, hs, hw, hB⟩ := hR
  obtain ⟨t, ht, hbl, hle⟩ := trim_ex s
  have hwt : words t = p.l := by rw [← ht, words_trim, hw]
  have hp := peek_any w R s D (.int .i64 p.e) hs hB
  rw [ht] at hp
  have HP := Lib.hid hp
  have HWT := Lib.hid hwt
  obtain ⟨hh1, hh2⟩ := hd_words hbl
  rw [hwt] at hh1 hh2
  have hlt := hd_le t
  obtain ⟨pl, pe⟩ := p
  dsimp only at hh1 hh2 hwt
  clear hB hp hbl hw HWT
  cases pl with
  | nil =>
    have h0 : hd t = [] := hh1
    have HTK := Lib.hid (show PS.take ⟨[], pe⟩ = ([], PS.fail 8 ⟨[], pe⟩) from rfl)
    rw [HTK.out]
    rw [h0] at HP
    have HWT := Lib.hid hwt
    clear hwt hh1 hh2 h0 hlt HTK
    go_enter Tryd.func74, Tryd.ntmps74
    go_wp2_with fail
    refine HP.out.mono ?_
    rintro e w1 ⟨rfl, hB1, hb1⟩
    have HB1 := Lib.hid (show RBox w1 R D ⟨[], pe⟩ from ⟨t, by omega, HWT.out, hB1⟩)
    clear hB1
    go_wp2_with fail
    refine (rfail_any w1 R D ⟨[], pe⟩ 8 HB1.out).mono ?_
    rintro e w2 ⟨rfl, ⟨s2, hs2, hw2, hB2⟩, hb2⟩
    have q0 : w2.cell? ⟨R, 0, none⟩ = some (.string ⟨s2.toArray⟩) := hB2.cell 0
    have f0 := hB2.frozen 0
    have HB2 := Lib.hid (And.intro hw2 hB2)
    have HS := Lib.hid hb1.size
    clear hw2 hB2
    go_wp2_with fail
    go_ret
    refine ⟨rfl, ⟨s2, hs2, HB2.out.1, ?_⟩, (hb1.trans (hb2.mono HS.out)).setX (p := ⟨R, 0, none⟩) rfl _⟩
    have h := HB2.out.2.set_ 0 (.string ⟨s2.toArray⟩)
    simpa [bext] using h
  | cons a r =>
    have ha : a ≠ [] := words_ne t a (by rw [hwt]; exact List.mem_cons_self ..)
    have h0 : hd t = a := hh1
    have HTK := Lib.hid (show PS.take ⟨a :: r, pe⟩ = (a, ⟨r, pe⟩) from rfl)
    rw [HTK.out]
    rw [h0] at HP hh2 hlt
    have hne : (a == []) = false := by simpa using ha
    have HR := Lib.hid hh2
    have HE := Lib.hid (bext t a.length t.length)
    clear hwt hh1 hh2 h0 HTK ha
    go_enter Tryd.func74, Tryd.ntmps74
    go_wp2_with fail
    refine HP.out.mono ?_
    rintro e w1 ⟨rfl, hB1, hb1⟩
    have q0 : w1.cell? ⟨R, 0, none⟩ = some (.string ⟨t.toArray⟩) := hB1.cell 0
    have f0 := hB1.frozen 0
    have HB1 := Lib.hid hB1
    clear hB1
    go_wp2_with fail
    go_ret
    refine ⟨rfl, ⟨t.drop a.length, by simp; omega, HR.out, ?_⟩, hb1.setX (p := ⟨R, 0, none⟩) rfl _⟩
    have h := HB1.out.set_ 0 (.string ⟨(t.drop a.length).toArray⟩)
    rw [HE.out, List.take_length]
    simpa using h
end Go.Proofs.YtjboibbgigkhkaaDoor
