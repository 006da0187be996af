import Derived.Test.YtjboibbgigkhkaaAlive
import Derived.Test.YtjboibbgigkhkaaWrong
import Derived.Deep.RegionHeld3
import Derived.Deep.QuietTactic
import Derived.BigQuiet
namespace Go.Proofs.Ytjboibbgigkhkaa
open Go.RowKit

theorem bytes_size : (∀ t : T, (bytesT t).length ≤ 2 * size t) ∧ (∀ al : List T, (bytesL al).length ≤ 2 * sizeL al) := by
  refine T.ind (P := fun t => (bytesT t).length ≤ 2 * size t) (Q := fun al => (bytesL al).length ≤ 2 * sizeL al) ?_ ?_ ?_
  · intro k n al h
    rw [bytesT, size]
    simp only [List.length_append, List.length_cons]
    split <;> simp <;> omega
  · simp [bytesL]
  · intro a r h1 h2
    rw [bytesL, sizeL]
    simp only [List.length_append]
    omega

theorem getD_bytes (d : D) (hn : d.name.length < 256) (h1 : wrong d.type 200 200 = 0) (h2 : wrong d.body 200 200 = 0) : getD (declBytes d) = .ok d := by
  have hw1 := (wrong_zero h1).1
  have hw2 := (wrong_zero h2).1
  have hl : (UInt8.ofNat d.name.length).toNat = d.name.length := by have := u8_len hn; omega
  have g1 := (get_bytes 200 (by omega)).1 d.type 200 24 (bytesT d.body) (by omega) hw1
  have g2 := (get_bytes 200 (by omega)).1 d.body 200 24 [] (by omega) hw2
  rw [List.append_nil] at g2
  unfold declBytes getD
  dsimp only
  rw [hl, if_neg (by simp), List.drop_left, g1]
  dsimp only
  rw [g2]
  dsimp only
  rw [if_pos rfl, List.take_left]

theorem bytes_getD {b : List UInt8} {d : D} (h : getD b = .ok d) : declBytes d = b ∧ d.name.length < 256 := by
  cases b with
  | nil => cases h
  | cons n r =>
    rw [getD] at h
    have hn : n.toNat < 256 := n.toNat_lt
    by_cases hlt : r.length < n.toNat
    · rw [if_pos hlt] at h; cases h
    · rw [if_neg hlt] at h
      cases h1 : getT 24 (r.drop n.toNat) with
      | error c => rw [h1] at h; cases h
      | ok x =>
        obtain ⟨t, r1⟩ := x
        rw [h1] at h
        dsimp only at h
        cases h2 : getT 24 r1 with
        | error c => rw [h2] at h; cases h
        | ok y =>
          obtain ⟨u, r2⟩ := y
          rw [h2] at h
          dsimp only at h
          by_cases h3 : r2 = []
          · rw [if_pos h3] at h
            cases h
            subst h3
            have e1 := bytes_get 24 _ _ _ h1
            have e2 := bytes_get 24 _ _ _ h2
            have hl : (r.take n.toNat).length = n.toNat := by rw [List.length_take]; omega
            rw [List.append_nil] at e2
            refine ⟨?_, by show (r.take n.toNat).length < 256; omega⟩
            unfold declBytes
            dsimp only
            rw [hl, e2, e1, List.take_append_drop, UInt8.ofNat_toNat]
          · rw [if_neg h3] at h; cases h

theorem bytesT_len {t : T} (h : wrong t 200 200 = 0) : (bytesT t).length ≤ 1000 := by
  have h1 := (wrong_zero h).2
  have h2 := bytes_size.1 t
  omega

theorem conv_in {w : World} {S : Nat → Prop} {l : List UInt8} {A : Option Addr} {cap : Nat} (h : bytesInS w S l (.slice A l.length cap)) :
    (convert 27 9 (.slice A l.length cap)).run Try.prog w = .ok (.string ⟨l.toArray⟩) w := by
  obtain ⟨A', cap', e, -, -, hne⟩ := h
  injection e with e1 _ _
  subst e1
  cases l with
  | nil =>
    rw [run_convert_bytes_string (P := Try.prog) w 27 9 5 A _ cap (by rfl) (by rfl) (by rfl)]
    cases A with
    | none => first | rfl | simp [Conv.bytesToString, go_sem] | simp [Conv.bytesToString, loadCells, loadCellsFrom]
    | some a =>
      have hl := run_loadCells_list (P := Try.prog) w a [] (fun j v hj => by cases hj)
      exact run_bytesToString w a 0 cap [] (by simpa using hl)
  | cons c r =>
    obtain ⟨b, off, rfl, -, hc⟩ := hne (by simp)
    exact conv_any w b off off _ cap (c :: r) hc rfl (fun _ => rfl)

theorem conv_own {w : World} {base : Nat} {v : Value} {l : List UInt8} (h : ownsB w base v l) : (convert 27 9 v).run Try.prog w = .ok (.string ⟨l.toArray⟩) w := by
  have hb := own_bytes (S := fun _ => True) (l := l) h (fun _ _ => trivial)
  obtain ⟨A, cap, rfl, -⟩ := id hb
  exact conv_in hb

/-- the boxes of the law's two structs, what lay below stands -/
def Fr (w : World) (t : T) (d : D) (A B C : Option Addr) (cap cap1 cap2 : Nat) (w1 : World) : Prop :=
  Blk w1 w.heap.size 24 #[.int .i64 t.k, .int .i64 t.n, .slice A t.al.length cap] ∧
  Blk w1 (w.heap.size + 1) 26 #[.string ⟨d.name.toArray⟩, .int .i64 d.type.k, .int .i64 d.type.n, .slice B d.type.al.length cap1, .int .i64 d.body.k, .int .i64 d.body.n, .slice C d.body.al.length cap2] ∧
  Below w.heap.size w w1 ∧ w.heap.size + 2 ≤ w1.heap.size

theorem Fr.new (w : World) (t : T) (d : D) (A B C : Option Addr) (cap cap1 cap2 : Nat) :
    Fr w t d A B C cap cap1 cap2 ((w.alloc (.cells #[.int .i64 t.k, .int .i64 t.n, .slice A t.al.length cap] 24)).alloc (.cells #[.string ⟨d.name.toArray⟩, .int .i64 d.type.k, .int .i64 d.type.n, .slice B d.type.al.length cap1, .int .i64 d.body.k, .int .i64 d.body.n, .slice C d.body.al.length cap2] 26)) := by
  refine ⟨(Blk.new w _ _).alloc _, ?_, ((Below.refl _ _).alloc (Nat.le_refl _) _).alloc (by simp) _, by simp⟩
  have h := Blk.new (w.alloc (.cells #[.int .i64 t.k, .int .i64 t.n, .slice A t.al.length cap] 24)) 26 #[.string ⟨d.name.toArray⟩, .int .i64 d.type.k, .int .i64 d.type.n, .slice B d.type.al.length cap1, .int .i64 d.body.k, .int .i64 d.body.n, .slice C d.body.al.length cap2]
  simpa using h

theorem Fr.more {w w1 w2 : World} {t : T} {d : D} {A B C : Option Addr} {cap cap1 cap2 n : Nat} (h : Fr w t d A B C cap cap1 cap2 w1) (hb : Below n w1 w2) (hn : w.heap.size + 2 ≤ n) :
    Fr w t d A B C cap cap1 cap2 w2 :=
  ⟨h.1.below hb (by omega), h.2.1.below hb (by omega), h.2.2.1.trans (hb.mono (by omega)), by have := h.2.2.2; have := hb.size; omega⟩

theorem Fr.alloc {w w1 : World} {t : T} {d : D} {A B C : Option Addr} {cap cap1 cap2 : Nat} (h : Fr w t d A B C cap cap1 cap2 w1) (o : Obj) : Fr w t d A B C cap cap1 cap2 (w1.alloc o) :=
  h.more ((Below.refl w1.heap.size w1).alloc (Nat.le_refl _) o) h.2.2.2

/-- what the last statement reads: the declaration that was read, in a box of its own; the bytes -/
def Fx (w : World) (g : Nat) (x : D) (A B : Option Addr) (cap cap1 : Nat) (bv : Value) (w1 : World) : Prop :=
  Blk w1 g 26 #[.string ⟨x.name.toArray⟩, .int .i64 x.type.k, .int .i64 x.type.n, .slice A x.type.al.length cap, .int .i64 x.body.k, .int .i64 x.body.n, .slice B x.body.al.length cap1] ∧
  argsIn w1 g x.type (.slice A x.type.al.length cap) ∧ argsIn w1 g x.body (.slice B x.body.al.length cap1) ∧ bytesIn w1 w.heap.size (declBytes x) bv ∧ Below w.heap.size w w1 ∧ g < w1.heap.size ∧ w.heap.size ≤ g

theorem Fx.more {w w1 w2 : World} {g n : Nat} {x : D} {A B : Option Addr} {cap cap1 : Nat} {bv : Value} (h : Fx w g x A B cap cap1 bv w1) (hb : Below n w1 w2) (hn : g < n) : Fx w g x A B cap cap1 bv w2 :=
  ⟨h.1.below hb hn, h.2.1.keep (Nat.le_refl _) (hb.mono (by omega)), h.2.2.1.keep (Nat.le_refl _) (hb.mono (by omega)), h.2.2.2.1.keep (Nat.le_refl _) (hb.mono (by have := h.2.2.2.2.2.2; omega)), h.2.2.2.2.1.trans (hb.mono (by have := h.2.2.2.2.2.2; omega)), by have := h.2.2.2.2.2.1; have := hb.size; omega, h.2.2.2.2.2.2⟩
theorem Fx.drew {w w1 : World} {g : Nat} {x : D} {A B : Option Addr} {cap cap1 : Nat} {bv : Value} (h : Fx w g x A B cap cap1 bv w1) : Fx w g x A B cap cap1 bv w1.drew :=
  h.more (Below.refl w1.heap.size w1).drew h.2.2.2.2.2.1
theorem Fx.conv {w w1 : World} {g : Nat} {x : D} {A B bA : Option Addr} {cap cap1 bcap : Nat} (h : Fx w g x A B cap cap1 (.slice bA (declBytes x).length bcap) w1) :
    (convert 27 9 (.slice bA (declBytes x).length bcap)).run Try.prog w1 = .ok (.string ⟨(declBytes x).toArray⟩) w1 := conv_in h.2.2.2.1.toS
theorem Fx.call1 {w w1 : World} {g : Nat} {x : D} {A B : Option Addr} {cap cap1 : Nat} {bv : Value} (h : Fx w g x A B cap cap1 bv w1) {r : Int} (hr : wrong x.type 200 200 = r) :
    Calls Try.prog 6 #[.agg #[.int .i64 x.type.k, .int .i64 x.type.n, .slice A x.type.al.length cap], .int .i64 200, .int .i64 200] w1 (LookPost r w1) := hr ▸
  wrong_any x.type 200 200 w1 _ (h.2.1.keep (by have := h.2.2.2.2.2.1; omega) (Below.refl _ _)) (by omega) (by omega)
theorem Fx.call2 {w w1 : World} {g : Nat} {x : D} {A B : Option Addr} {cap cap1 : Nat} {bv : Value} (h : Fx w g x A B cap cap1 bv w1) {r : Int} (hr : wrong x.body 200 200 = r) :
    Calls Try.prog 6 #[.agg #[.int .i64 x.body.k, .int .i64 x.body.n, .slice B x.body.al.length cap1], .int .i64 200, .int .i64 200] w1 (LookPost r w1) := hr ▸
  wrong_any x.body 200 200 w1 _ (h.2.2.1.keep (by have := h.2.2.2.2.2.1; omega) (Below.refl _ _)) (by omega) (by omega)
theorem Fx.call3 {w w1 : World} {g : Nat} {x : D} {A B : Option Addr} {cap cap1 : Nat} {bv : Value} (h : Fx w g x A B cap cap1 bv w1) (hn : x.name.length < 256) (h1 : wrong x.type 200 200 = 0) (h2 : wrong x.body 200 200 = 0) :
    Calls Try.prog 11 #[.agg #[.string ⟨x.name.toArray⟩, .int .i64 x.type.k, .int .i64 x.type.n, .slice A x.type.al.length cap, .int .i64 x.body.k, .int .i64 x.body.n, .slice B x.body.al.length cap1]] w1
      fun e w' => ∃ v', e = .returned v' ∧ ownsB w' w1.heap.size v' (declBytes x) ∧ Below w1.heap.size w1 w' :=
  wdecl_any x w1 _ _ (h.2.1.keep (by have := h.2.2.2.2.2.1; omega) (Below.refl _ _)) (h.2.2.1.keep (by have := h.2.2.2.2.2.1; omega) (Below.refl _ _)) hn (bytesT_len h1) (bytesT_len h2)

set_option maxRecDepth 100000 in
set_option maxHeartbeats 2000000 in
theorem law_any (t : T) (d : D) (l : List UInt8) (w : World) (s z z' bv : Value) (ht : argsIn w w.heap.size t s) (hz : argsIn w w.heap.size d.type z) (hz' : argsIn w w.heap.size d.body z')
    (hl : bytesIn w w.heap.size l bv) (hll : l.length ≤ 140737488351232) :
    Calls Try.prog 3 #[.agg #[.int .i64 t.k, .int .i64 t.n, s], .agg #[.string ⟨d.name.toArray⟩, .int .i64 d.type.k, .int .i64 d.type.n, z, .int .i64 d.body.k, .int .i64 d.body.n, z'], bv] w (BoolPost true w) := by
  obtain ⟨A, cap, rfl, -⟩ := argsIn_iff.1 ht
  obtain ⟨B, cap1, rfl, -⟩ := argsIn_iff.1 hz
  obtain ⟨C, cap2, rfl, -⟩ := argsIn_iff.1 hz'
  obtain ⟨bA, bcap, rfl, hlc, hlm, hlr⟩ := id hl
  have HLR := Lib.hid hlr
  have HLC := Lib.hid (And.intro hlc hlm)
  clear hlr hlc hlm
  have HT := Lib.hid ht
  have HZ := Lib.hid hz
  have HZ' := Lib.hid hz'
  have HL := Lib.hid hl
  clear ht hz hz' hl
  go_enter Try.func3, Try.ntmps3
  go_wp2_with fail
  have hF0 := Fr.new w t d A B C cap cap1 cap2
  refine (alive_any _).mono ?_
  rintro e w1 ⟨rfl, hbe⟩
  have hF1 := hF0.more hbe (by simp)
  clear hF0 hbe
  obtain ⟨⟨t0, t1, t2⟩, -⟩ := hF1.1.three
  go_wp2_with fail
  refine (wrong_any t 200 200 w1 _ (HT.out.keep (by have := hF1.2.2.2; omega) hF1.2.2.1) (by omega) (by omega)).mono ?_
  rintro e w2 ⟨rfl, hbe⟩
  have hF2 := hF1.more hbe hF1.2.2.2
  clear hF1 hbe t0 t1 t2
  generalize hwr : wrong t 200 200 = wr
  have HWR := Lib.hid hwr
  clear hwr
  have HF2 := Lib.hid hF2
  obtain ⟨⟨t0, t1, t2⟩, -⟩ := hF2.1.three
  clear hF2
  go_upto_if 18 with fail
  go_cut [] (fun wc => Fr w t d A B C cap cap1 cap2 wc)
  case first =>
    by_cases h0 : wr = 0
    · subst h0
      have hwz := wrong_zero HWR.out
      obtain ⟨i0, hi, hz0, hz1, hz2⟩ := info_parts Try.infoU8
      go_wp2_with fail
      have hlen : (bytesT t).length ≤ 1000 := by
        have := bytes_size.1 t
        omega
      refine (wterm_any t w2.heap.size [] (.slice none 0 0) w2 _ (World.ownsRow_nil _ _ _ _) (HT.out.keep (by have := HF2.out.2.2.2; omega) HF2.out.2.2.1) (Nat.le_refl _) (by simp; omega)).mono ?_
      rintro e w3 ⟨v3, rfl, ho3, hbe⟩
      rw [List.nil_append] at ho3
      have hF3 := Lib.hid (HF2.out.more hbe HF2.out.2.2.2)
      have HO3 := Lib.hid ho3
      have hsz3 := hbe.size
      clear ho3 hbe t0 t1 t2
      have hrd3 := Lib.hid (HLR.out.below hF3.out.2.2.1)
      have hm1 : (bytesT t).length + l.length ≤ maxLen := by unfold maxLen; omega
      have hm2 : ((bytesT t).length + l.length) * 1 ≤ 140737488355328 := by omega
      go_wp2_with (first | (at_builtin; go_loud (refine wpList_append_any _ rfl (.tmp 21) (.tmp 22) 27 rfl w2.heap.size 5 i0 (.int .u8 0) 1 1 Try.underlying27 hi hz0 hz1 hz2 rfl (by decide) _ (bytesT t).length (u8s (bytesT t)) rfl HO3.out w.heap.size _ l.length bcap (u8c l) rfl hrd3.out (u8c_one _) hm1 hm2 (by omega) ?_)))
      intro v4 w4 ho4 hg4 _
      have hbg : Below w2.heap.size w3 w4 := ⟨hg4.os, hg4.tape, hg4.output, hg4.size, fun i hi => hg4.block i (by have := hF3.out.2.2.2; omega) (fun hk => by have := (World.ownsRow.lt HO3.out i hk.symm).1; omega)⟩
      have hF4 := Lib.hid (hF3.out.more hbg (by have := HF2.out.2.2.2; omega))
      have hsz4 := hg4.size
      have hby : bytesIn w4 w4.heap.size (bytesT t ++ l) v4 := (own_bytes (S := fun b => b < w4.heap.size) (l := bytesT t ++ l) (by simpa [u8c, u8s, List.map_append] using ho4) (fun b h => (World.ownsRow.lt ho4 b h).2)).toB (fun b h => h)
      clear ho4 hg4 hbg
      have HBY := Lib.hid hby
      clear hby
      go_wp2_with fail
      have hget := get1_any _ _ _ HBY.out (by rw [List.length_append]; omega)
      rw [(get_bytes 200 (by omega)).1 t 200 24 l (by omega) hwz.1] at hget
      refine hget.mono ?_
      clear hget
      rintro e w5 ⟨s5, v5, rfl, hu, hr, hbe⟩
      obtain ⟨A5, cp5, rfl, -⟩ := argsInS_iff.1 hu
      have hF5 := Lib.hid ((hF4.out.more hbe (by have := hF4.out.2.2.2; omega)).alloc (.cells #[.int .i64 t.k, .int .i64 t.n, .slice A5 t.al.length cp5] 24))
      have HU5 := Lib.hid hu
      have HR5 := Lib.hid hr
      have hsz5 := hbe.size
      clear hu hr hbe
      obtain ⟨⟨t0, t1, t2⟩, -⟩ := hF5.out.1.three
      obtain ⟨⟨u0, u1, u2⟩, -⟩ := (Blk.new w5 24 #[.int .i64 t.k, .int .i64 t.n, .slice A5 t.al.length cp5]).three
      obtain ⟨A6, cp6, rfl, -⟩ := id HR5.out
      go_wp2_with fail
      have hs := same_any t t (w5.alloc (.cells #[.int .i64 t.k, .int .i64 t.n, .slice A5 t.al.length cp5] 24)) _ _ (HT.out.keep (by have := hF5.out.2.2.2; omega) hF5.out.2.2.1) (HU5.out.keep (S' := fun b => b < (w5.alloc (.cells #[.int .i64 t.k, .int .i64 t.n, .slice A5 t.al.length cp5] 24)).heap.size) (fun b h => by have := h.2; simp; omega) (fun p hp => ((Below.refl w5.heap.size w5).alloc (Nat.le_refl _) _).cell hp.2))
      rw [(same_iff.1 t t).2 rfl] at hs
      refine hs.mono ?_
      clear hs
      rintro e w6 ⟨rfl, hbe⟩
      have hF6 := Lib.hid (hF5.out.more hbe hF5.out.2.2.2)
      have hb56 := ((Below.refl w5.heap.size w5).alloc (Nat.le_refl _) (.cells #[.int .i64 t.k, .int .i64 t.n, .slice A5 t.al.length cp5] 24)).trans (hbe.mono (by simp))
      have hc1 := conv_in (HR5.out.keep (w' := w6) (S' := fun b => b < w5.heap.size) (fun b h => h.2) (fun p hp => hb56.cell hp.2))
      have hc2 := conv_in (HL.out.keep (Nat.le_refl _) hF6.out.2.2.1).toS
      clear hbe hb56 t0 t1 t2 u0 u1 u2
      go_wp2_with fail
      go_meet
      exact hF6.out
    · have hwb : (wr == 0) = false := by simpa using h0
      go_wp2_with fail
      go_meet
      exact HF2.out
  case rest =>
    clear t0 t1 t2 HF2
    have HF := Lib.hid hcut
    clear hcut
    go_upto_region 7 with fail
    go_cut [58] (fun v wd => ∃ c : Bool, v = .bool c ∧ (c = true → d.name.length < 256 ∧ wrong d.type 200 200 = 0 ∧ wrong d.body 200 200 = 0) ∧ Fr w t d A B C cap cap1 cap2 wd)
    case first =>
      obtain ⟨⟨d0, d1, d2, d3, d4, d5, d6⟩, -⟩ := HF.out.2.1.seven
      by_cases hn : d.name.length < 256
      · have HN := Lib.hid hn
        have hn' : ((d.name.length : Nat) : Int) < 256 := by omega
        go_wp2_with fail
        refine (wrong_any d.type 200 200 wc _ (HZ.out.keep (by have := HF.out.2.2.2; omega) HF.out.2.2.1) (by omega) (by omega)).mono ?_
        rintro e w3 ⟨rfl, hbe⟩
        have hF3 := HF.out.more hbe HF.out.2.2.2
        clear hbe d0 d1 d2 d3 d4 d5 d6
        generalize hr1 : wrong d.type 200 200 = r1
        have HR1 := Lib.hid hr1
        clear hr1
        obtain ⟨⟨d0, d1, d2, d3, d4, d5, d6⟩, -⟩ := hF3.2.1.seven
        have HF3 := Lib.hid hF3
        clear hF3
        by_cases h1 : r1 = 0
        · subst h1
          go_wp2_with fail
          refine (wrong_any d.body 200 200 w3 _ (HZ'.out.keep (by have := HF3.out.2.2.2; omega) HF3.out.2.2.1) (by omega) (by omega)).mono ?_
          rintro e w4 ⟨rfl, hbe⟩
          have hF4 := HF3.out.more hbe HF3.out.2.2.2
          clear hbe d0 d1 d2 d3 d4 d5 d6
          generalize hr2 : wrong d.body 200 200 = r2
          have HR2 := Lib.hid hr2
          clear hr2
          by_cases h2 : r2 = 0
          · subst h2
            have HF4 := Lib.hid hF4
            clear hF4
            go_wp2_with fail
            go_meet
            exact ⟨_, rfl, fun _ => ⟨HN.out, HR1.out, HR2.out⟩, HF4.out⟩
          · have h2b : (r2 == 0) = false := by simpa using h2
            have H2 := Lib.hid h2
            clear h2
            have HF4 := Lib.hid hF4
            clear hF4
            go_wp2_with fail
            go_meet
            exact ⟨_, rfl, fun h => (by cases h), HF4.out⟩
        · have h1b : (r1 == 0) = false := by simpa using h1
          have H1 := Lib.hid h1
          clear h1
          go_wp2_with fail
          go_meet
          exact ⟨_, rfl, fun h => (by cases h), HF3.out⟩
      · have HN := Lib.hid hn
        have hn' : ¬ ((d.name.length : Nat) : Int) < 256 := by omega
        go_wp2_with fail
        go_meet
        exact ⟨_, rfl, fun h => (by cases h), HF.out⟩
    case rest =>
      obtain ⟨c, rfl, hc, hF⟩ := hcut
      have HF := Lib.hid hF
      have HC := Lib.hid hc
      clear hF hc
      go_upto_if 58 with fail
      go_cut [] (fun wd => Fr w t d A B C cap cap1 cap2 wd)
      case first =>
        cases c with
        | false =>
          go_wp2_with fail
          go_meet
          exact HF.out
        | true =>
          obtain ⟨hn, h1, h2⟩ := HC.out rfl
          have HG := Lib.hid (getD_bytes d hn h1 h2)
          have hlen : (declBytes d).length ≤ 140737488355328 := by
            have e1 := bytesT_len h1
            have e2 := bytesT_len h2
            unfold declBytes
            simp only [List.length_cons, List.length_append]
            omega
          have HW := Lib.hid (wdecl_any d wc _ _ (HZ.out.keep (by have := HF.out.2.2.2; omega) HF.out.2.2.1) (HZ'.out.keep (by have := HF.out.2.2.2; omega) HF.out.2.2.1) hn (bytesT_len h1) (bytesT_len h2))
          clear hn h1 h2
          obtain ⟨⟨d0, d1, d2, d3, d4, d5, d6⟩, -⟩ := HF.out.2.1.seven
          go_wp2_with fail
          refine HW.out.mono ?_
          rintro e w3 ⟨v3, rfl, ho3, hbe⟩
          have hby : bytesIn w3 w3.heap.size (declBytes d) v3 := (own_bytes (S := fun b => b < w3.heap.size) (l := declBytes d) ho3 (fun b h => (World.ownsRow.lt ho3 b h).2)).toB (fun b h => h)
          have HF3 := Lib.hid (HF.out.more hbe HF.out.2.2.2)
          clear ho3 hbe d0 d1 d2 d3 d4 d5 d6 HW
          go_wp2_with fail
          have hget := getd_any _ _ _ hby hlen
          rw [HG.out] at hget
          refine hget.mono ?_
          clear hget hby
          rintro e w4 ⟨v4, rfl, ⟨s1, s2, rfl, ha1, ha2⟩, hbe⟩
          obtain ⟨A6, cp6, rfl, -⟩ := argsIn_iff.1 ha1
          obtain ⟨A7, cp7, rfl, -⟩ := argsIn_iff.1 ha2
          have HF4 := Lib.hid ((HF3.out.more hbe (by have := HF3.out.2.2.2; omega)).alloc (.cells #[.string ⟨d.name.toArray⟩, .int .i64 d.type.k, .int .i64 d.type.n, .slice A6 d.type.al.length cp6, .int .i64 d.body.k, .int .i64 d.body.n, .slice A7 d.body.al.length cp7] 26))
          have HA1 := Lib.hid ha1
          have HA2 := Lib.hid ha2
          have hsz := hbe.size
          clear ha1 ha2 hbe
          obtain ⟨⟨d0, d1, d2, d3, d4, d5, d6⟩, -⟩ := HF4.out.2.1.seven
          obtain ⟨⟨e0, e1, e2, e3, e4, e5, e6⟩, -⟩ := (Blk.new w4 26 #[.string ⟨d.name.toArray⟩, .int .i64 d.type.k, .int .i64 d.type.n, .slice A6 d.type.al.length cp6, .int .i64 d.body.k, .int .i64 d.body.n, .slice A7 d.body.al.length cp7]).seven
          go_wp2_with fail
          have hb4 := (Below.refl w4.heap.size w4).alloc (Nat.le_refl _) (.cells #[.string ⟨d.name.toArray⟩, .int .i64 d.type.k, .int .i64 d.type.n, .slice A6 d.type.al.length cp6, .int .i64 d.body.k, .int .i64 d.body.n, .slice A7 d.body.al.length cp7] 26)
          have hs := sameDecl_any d d _ _ _ _ _ (HA1.out.keep (by simp) hb4) (HA2.out.keep (by simp) hb4) (HZ.out.keep (by have := HF4.out.2.2.2; omega) HF4.out.2.2.1) (HZ'.out.keep (by have := HF4.out.2.2.2; omega) HF4.out.2.2.1)
          rw [(sameD_iff d d).2 rfl] at hs
          refine hs.mono ?_
          clear hs
          rintro e w5 ⟨rfl, hbe⟩
          have HF5 := Lib.hid (HF4.out.more hbe HF4.out.2.2.2)
          clear hbe hb4 d0 d1 d2 d3 d4 d5 d6 e0 e1 e2 e3 e4 e5 e6
          go_wp2_with fail
          go_meet
          exact HF5.out
      case rest =>
        have HF := Lib.hid hcut
        clear hcut
        go_wp2_with fail
        have hget := getd_any l wc _ (HL.out.keep (by have := HF.out.2.2.2; omega) HF.out.2.2.1) (by omega)
        refine hget.mono ?_
        clear hget
        rintro e w3 hpost
        cases hg : getD l with
        | error r =>
          rw [hg] at hpost
          obtain ⟨h0, rfl, hbe⟩ := hpost
          have hz0 : (r != 0) = true := by simpa using h0
          have HB := Lib.hid (HF.out.more hbe HF.out.2.2.2).2.2.1
          have hsz := (HF.out.more hbe HF.out.2.2.2).2.2.2
          clear hbe hg h0
          unfold noDecl
          go_wp2_with fail
          go_quiet (fail)
          go_wp2_with fail
          go_ret
          exact ⟨rfl, Go.Proofs.Ytjboibbgigkhkaa.Below.drewN (HB.out.alloc (by omega) _) _⟩
        | ok x =>
          rw [hg] at hpost
          obtain ⟨hbx, hnx⟩ := bytes_getD hg
          subst hbx
          obtain ⟨v3, rfl, ⟨s1, s2, rfl, ha1, ha2⟩, hbe⟩ := hpost
          obtain ⟨A6, cp6, rfl, -⟩ := argsIn_iff.1 ha1
          obtain ⟨A7, cp7, rfl, -⟩ := argsIn_iff.1 ha2
          have HN := Lib.hid hnx
          have hF3 := HF.out.more hbe HF.out.2.2.2
          have hb4 := (Below.refl w3.heap.size w3).alloc (Nat.le_refl _) (.cells #[.string ⟨x.name.toArray⟩, .int .i64 x.type.k, .int .i64 x.type.n, .slice A6 x.type.al.length cp6, .int .i64 x.body.k, .int .i64 x.body.n, .slice A7 x.body.al.length cp7] 26)
          have hF4 := hF3.more hb4 hF3.2.2.2
          have HX4 := Lib.hid (show Fx w w3.heap.size x A6 A7 cp6 cp7 (.slice bA (declBytes x).length bcap) _ from ⟨Blk.new w3 _ _, ha1.keep (Nat.le_refl _) hb4, ha2.keep (Nat.le_refl _) hb4, HL.out.keep (Nat.le_refl _) hF4.2.2.1, hF4.2.2.1, by simp, by have := hF3.2.2.2; omega⟩)
          clear hbe hg ha1 ha2 hnx hF3 hb4 hF4
          go_wp2_with fail
          generalize w3.alloc (.cells #[.string ⟨x.name.toArray⟩, .int .i64 x.type.k, .int .i64 x.type.n, .slice A6 x.type.al.length cp6, .int .i64 x.body.k, .int .i64 x.body.n, .slice A7 x.body.al.length cp7] 26) = w4 at *
          obtain ⟨⟨q0, q1, q2, q3, q4, q5, q6⟩, -⟩ := HX4.out.1.seven
          have qc := HX4.out.drew.conv
          by_cases h1 : wrong x.type 200 200 = 0
          · have HR1 := Lib.hid h1
            clear h1
            by_cases h2 : wrong x.body 200 200 = 0
            · have HR2 := Lib.hid h2
              clear h2
              go_region_with
                (first
                  | ((with_reducible refine (HX4.out.drew.call1 HR1.out).mono ?_); rintro e w5 ⟨rfl, hb5⟩; (have HX5 := Lib.hid (HX4.out.drew.more hb5 HX4.out.drew.2.2.2.2.2.1)); (obtain ⟨⟨k0, k1, k2, k3, k4, k5, k6⟩, -⟩ := HX5.out.1.seven); (have kc := HX5.out.conv); clear hb5)
                  | ((with_reducible refine (HX5.out.call2 HR2.out).mono ?_); rintro e w6 ⟨rfl, hb6⟩; (have HX6 := Lib.hid (HX5.out.more hb6 HX5.out.2.2.2.2.2.1)); (obtain ⟨⟨m0, m1, m2, m3, m4, m5, m6⟩, -⟩ := HX6.out.1.seven); (have mc := HX6.out.conv); clear hb6)
                  | ((with_reducible refine (HX6.out.call3 HN.out HR1.out HR2.out).mono ?_); rintro e w7 ⟨v7, rfl, ho7, hb7⟩; (have HX7 := Lib.hid (HX6.out.more hb7 HX6.out.2.2.2.2.2.1)); (have hc7 := conv_own ho7); (obtain ⟨⟨n0, n1, n2, n3, n4, n5, n6⟩, -⟩ := HX7.out.1.seven); (have nc := HX7.out.conv); clear hb7 ho7))
              all_goals go_wp2_with fail
              all_goals go_ret
              all_goals exact ⟨rfl, HX7.out.2.2.2.2.1⟩
            · obtain ⟨r2, hr2⟩ : ∃ r, wrong x.body 200 200 = r := ⟨_, rfl⟩
              have h2b : (r2 != 0) = true := by rw [← hr2]; simpa using h2
              have HR2 := Lib.hid hr2
              clear h2 hr2
              first
                | (go_region_with
                  (first
                    | ((with_reducible refine (HX4.out.drew.call1 HR1.out).mono ?_); rintro e w5 ⟨rfl, hb5⟩; (have HX5 := Lib.hid (HX4.out.drew.more hb5 HX4.out.drew.2.2.2.2.2.1)); (obtain ⟨⟨k0, k1, k2, k3, k4, k5, k6⟩, -⟩ := HX5.out.1.seven); (have kc := HX5.out.conv); clear hb5)
                    | ((with_reducible refine (HX5.out.call2 HR2.out).mono ?_); rintro e w6 ⟨rfl, hb6⟩; (have HX6 := Lib.hid (HX5.out.more hb6 HX5.out.2.2.2.2.2.1)); (obtain ⟨⟨m0, m1, m2, m3, m4, m5, m6⟩, -⟩ := HX6.out.1.seven); (have mc := HX6.out.conv); clear hb6)))
                | fail
              all_goals go_wp2_with fail
              all_goals go_ret
              all_goals exact ⟨rfl, HX6.out.2.2.2.2.1⟩
          · obtain ⟨r1, hr1⟩ : ∃ r, wrong x.type 200 200 = r := ⟨_, rfl⟩
            have h1b : (r1 != 0) = true := by rw [← hr1]; simpa using h1
            have HR1 := Lib.hid hr1
            clear h1 hr1
            first
              | (go_region_with
                (first
                  | ((with_reducible refine (HX4.out.drew.call1 HR1.out).mono ?_); rintro e w5 ⟨rfl, hb5⟩; (have HX5 := Lib.hid (HX4.out.drew.more hb5 HX4.out.drew.2.2.2.2.2.1)); (obtain ⟨⟨k0, k1, k2, k3, k4, k5, k6⟩, -⟩ := HX5.out.1.seven); (have kc := HX5.out.conv); clear hb5)))
              | fail
            all_goals go_wp2_with fail
            all_goals go_ret
            all_goals exact ⟨rfl, HX5.out.2.2.2.2.1⟩
end Go.Proofs.Ytjboibbgigkhkaa
