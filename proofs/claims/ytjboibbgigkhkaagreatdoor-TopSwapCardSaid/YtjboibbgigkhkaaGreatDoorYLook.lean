import Derived.Test.YtjboibbgigkhkaaGreatDoorYShape
import Derived.StillTailTactics
import Derived.Deep.DeepCutAuto
import Derived.Deep.CutBlock
namespace Go.Proofs.YtjboibbgigkhkaaGreatDoor
set_option maxRecDepth 100000
open Go.RowKit

theorem shape_text {k : Int} {l : List Nat} (h : shape k = some l) : (shapeText k).size = l.length ∧ ((shapeText k).toList == [45]) = false ∧ ∀ (i x : Nat), l[i]? = some x → ∃ hi : i < (shapeText k).size, (((shapeText k)[i]'hi).toNat : Int) = 48 + x := by
  have hle := shape_le h
  have e : shapeText k = ⟨(l.map fun x => UInt8.ofNat (48 + x)).toArray⟩ := by simp [shapeText, shapeBytes, h]
  refine ⟨by rw [e]; simp [ByteArray.size], ?_, ?_⟩
  · have ht : (shapeText k).toList = l.map fun x => UInt8.ofNat (48 + x) := by rw [e, ByteArray.toList_eq]
    rw [ht]
    cases l with
    | nil => rfl
    | cons a r =>
      have ha : a ≤ 2 := hle a (by simp)
      have hc : (UInt8.ofNat (48 + a) == 45) = false := by
        have : a = 0 ∨ a = 1 ∨ a = 2 := by omega
        rcases this with h | h | h <;> subst h <;> rfl
      simp only [List.map_cons]
      rw [List.cons_beq_cons, hc]
      rfl
  · intro i x hx
    have hi : i < l.length := (List.getElem?_eq_some_iff.1 hx).1
    have hxx := (List.getElem?_eq_some_iff.1 hx).2
    have hx2 : x ≤ 2 := hle x (List.mem_of_getElem? hx)
    rw [e]
    refine ⟨by simpa [ByteArray.size] using hi, ?_⟩
    show (((l.map fun x => UInt8.ofNat (48 + x)).toArray[i]'(by simpa using hi)).toNat : Int) = 48 + x
    simp only [List.getElem_toArray, List.getElem_map, hxx]
    have : x = 0 ∨ x = 1 ∨ x = 2 := by omega
    rcases this with h | h | h <;> subst h <;> rfl

theorem shape_len {k : Int} {l : List Nat} (h : shape k = some l) : l.length ≤ 4 := by
  unfold shape at h
  repeat' split at h
  all_goals first | (cases h; decide) | cases h

def LookPost (r : Int) (w : World) (e : Ending) (w' : World) : Prop := e = .returned (.int .i64 r) ∧ Below w.heap.size w w'

theorem box3 {w w1 : World} {a b c : Value} {t : TypeId} (hb : Below (w.alloc (.cells #[a, b, c] t)).heap.size (w.alloc (.cells #[a, b, c] t)) w1) :
    w1.cell? ⟨w.heap.size, 0, none⟩ = some a ∧ w1.cell? ⟨w.heap.size, 1, none⟩ = some b ∧ w1.cell? ⟨w.heap.size, 2, none⟩ = some c ∧ Below w.heap.size w w1 := by
  refine ⟨?_, ?_, ?_, ((Below.refl w.heap.size w).alloc (Nat.le_refl _) _).trans (hb.mono (by simp))⟩
  all_goals
    rw [hb.cell (p := ⟨w.heap.size, _, none⟩) (by simp)]
    simp

theorem look_nil (d : Int) (t : T) (b : Int) : look d t b 0 = 9 := by cases t; rw [look]
theorem look_none {d : Int} {t : T} {b : Int} {f : Nat} (h : shape t.k = none) : look d t b (f + 1) = 1 := by
  obtain ⟨k, n, al⟩ := t
  simp only [T.k] at h
  rw [look, h]
theorem look_some {d : Int} {t : T} {b : Int} {f : Nat} {l : List Nat} (h : shape t.k = some l) : look d t b (f + 1) = if t.al.length ≠ l.length then 5 else if t.n < 0 ∨ lim t.k b d ≤ t.n then 3 else lookL d t.al l b f := by
  obtain ⟨k, n, al⟩ := t
  simp only [T.k, T.n, T.al] at *
  rw [look, h]
  rfl

theorem lim_1 {k b d : Int} (h : k = 1) : lim k b d = b := by simp [lim, h]
theorem lim_2 {k b d : Int} (h : k = 2) : lim k b d = 4 := by simp [lim, h]
theorem lim_18 {k b d : Int} (h : k = 18) : lim k b d = d := by simp [lim, h]
theorem lim_else {k b d : Int} (h1 : k ≠ 1) (h2 : k ≠ 2) (h3 : k ≠ 18) : lim k b d = 1 := by simp [lim, h1, h2, h3]

theorem bound_eq {b : Int} {y : Nat} (h0 : 0 ≤ b) (h1 : b ≤ 1152921504606846976) (hy : y ≤ 2) : wrap64 (b + wrap64 ((48 + (y : Int) - 48) % 256)) = b + y := by
  unfold wrap64
  omega

theorem lookL_step {d b : Int} {f k : Nat} {al : List T} {l : List Nat} {x : T} {y : Nat} (hx : al[k]? = some x) (hy : l[k]? = some y) :
    lookL d (al.drop k) (l.drop k) b f = if look d x (b + y) f = 0 then lookL d (al.drop (k + 1)) (l.drop (k + 1)) b f else look d x (b + y) f := by
  have h1 : k < al.length := (List.getElem?_eq_some_iff.1 hx).1
  have h2 : k < l.length := (List.getElem?_eq_some_iff.1 hy).1
  rw [List.drop_eq_getElem_cons h1, List.drop_eq_getElem_cons h2, (List.getElem?_eq_some_iff.1 hx).2, (List.getElem?_eq_some_iff.1 hy).2, lookL]
  show (if look d x (b + (y : Nat)) f ≠ 0 then look d x (b + (y : Nat)) f else lookL d (al.drop (k + 1)) (l.drop (k + 1)) b f) = _
  by_cases h : look d x (b + y) f = 0
  · rw [if_pos h, if_neg (fun hn => hn h)]
  · rw [if_neg h, if_pos h]

set_option maxHeartbeats 1000000 in
theorem look_any (d : Int) (t : T) : ∀ (b : Int) (f : Nat) (deep : Int) (w : World) (s : Value), argsIn w w.heap.size t s → 0 ≤ b → b + 2 * f ≤ 1152921504606846976 → deep + f = 25 →
    Calls Tryz.prog 40 #[.agg #[.int .i64 t.k, .int .i64 t.n, s], .int .i64 b, .int .i64 d, .int .i64 deep] w (LookPost (look d t b f) w) := by
  induction t using T.ind_args with
  | _ t ih =>
  intro b f deep w s hs hb0 hb1 hd
  obtain ⟨A, cap, rfl, h1, h2, h3⟩ := argsIn_iff.1 hs
  have IH := Lib.hid ih
  have H3 := Lib.hid h3
  clear ih h3 hs
  cases f with
  | zero =>
    rw [look_nil]
    have hdd : 24 < deep := by omega
    clear hd
    go_enter Tryz.func40, Tryz.ntmps40
    go_wp2_with fail
    go_ret
    exact ⟨rfl, (Below.refl _ _).alloc (Nat.le_refl _) _⟩
  | succ f =>
    have hdd : ¬ 24 < deep := by omega
    have hd1 : 1 ≤ deep + f := by omega
    have hd2 : deep ≤ 24 := by omega
    have HD := Lib.hid hd
    clear hd
    cases hsh : shape t.k with
    | none =>
      have htx : shapeText t.k = ⟨#[45]⟩ := by simp [shapeText, shapeBytes, hsh]
      rw [look_none hsh]
      have HTX := Lib.hid htx
      clear htx hsh
      go_enter Tryz.func40, Tryz.ntmps40
      go_wp2_with fail
      refine (shape_any _ _).mono ?_
      rintro e w1 ⟨rfl, hbl⟩
      rw [HTX.out]
      have hbl2 := (box3 hbl).2.2.2
      go_wp2_with fail
      go_ret
      exact ⟨rfl, hbl2⟩
    | some l =>
      obtain ⟨x1, x2, x3⟩ := shape_text hsh
      have X4 := Lib.hid (shape_le hsh)
      have hS4 : (shapeText t.k).size ≤ 4 := by rw [x1]; exact shape_len hsh
      have hR := look_some (d := d) (b := b) (f := f) hsh
      generalize look d t b (f + 1) = R at *
      have HR := Lib.hid hR
      clear hsh hR
      have X1 := Lib.hid x1
      have X3 := Lib.hid x3
      clear x1 x3
      go_enter Tryz.func40, Tryz.ntmps40
      go_wp2_with fail
      refine (shape_any _ _).mono ?_
      rintro e w1 ⟨rfl, hbl⟩
      obtain ⟨q0, q1, q2, hbw⟩ := box3 hbl
      clear hbl
      generalize shapeText t.k = S at *
      by_cases hlen : t.al.length = l.length
      · have hR := HR.out
        rw [if_neg (by simpa using hlen)] at hR
        have HR2 := Lib.hid hR
        clear hR HR
        have hlb : (t.al.length : Int) = (S.size : Int) := by rw [X1.out, hlen]
        have HL := Lib.hid hlen
        clear hlen
        go_upto_block 0 with fail
        go_cut [10] (fun v wc => v = .int .i64 (lim t.k b d) ∧ wc = w1)
        case first =>
          by_cases k1 : t.k = 1
          · have kb : (t.k == 1) = true := by simpa using k1
            have hl := lim_1 (b := b) (d := d) k1
            have HL1 := Lib.hid hl
            clear hl k1
            go_wp2_with fail
            go_meet
            exact ⟨by rw [HL1.out], rfl⟩
          · have kb : (t.k == 1) = false := by simpa using k1
            by_cases k2 : t.k = 2
            · have kb2 : (t.k == 2) = true := by simpa using k2
              have hl := lim_2 (b := b) (d := d) k2
              have HL1 := Lib.hid hl
              clear hl k2 k1
              go_wp2_with fail
              go_meet
              exact ⟨by rw [HL1.out], rfl⟩
            · have kb2 : (t.k == 2) = false := by simpa using k2
              by_cases k3 : t.k = 18
              · have kb3 : (t.k == 18) = true := by simpa using k3
                have hl := lim_18 (b := b) (d := d) k3
                have HL1 := Lib.hid hl
                clear hl k3 k2 k1
                go_wp2_with fail
                go_meet
                exact ⟨by rw [HL1.out], rfl⟩
              · have kb3 : (t.k == 18) = false := by simpa using k3
                have hl := lim_else (b := b) (d := d) k1 k2 k3
                have HL1 := Lib.hid hl
                clear hl k3 k2 k1
                go_wp2_with fail
                go_meet
                exact ⟨by rw [HL1.out], rfl⟩
        case rest =>
          obtain ⟨rfl, rfl⟩ := hcut
          generalize lim t.k b d = L at *
          by_cases hr : t.n < 0 ∨ L ≤ t.n
          · have hR := HR2.out
            rw [if_pos hr] at hR
            subst hR
            clear HR2
            rcases hr with hr | hr
            · go_wp2_with fail
              go_ret
              exact ⟨rfl, hbw⟩
            · by_cases hr2 : t.n < 0
              · go_wp2_with fail
                go_ret
                exact ⟨rfl, hbw⟩
              · go_wp2_with fail
                go_ret
                exact ⟨rfl, hbw⟩
          · have hR := HR2.out
            rw [if_neg hr] at hR
            have HR3 := Lib.hid hR
            have hr1 : ¬ t.n < 0 := fun h => hr (.inl h)
            have hr2 : ¬ L ≤ t.n := fun h => hr (.inr h)
            clear hR HR2 hr
            go_wp2_with fail
            go_loopw [49] (fun i wr => ∃ k : Nat, k ≤ S.size ∧ i = .int .i64 k ∧ Hid (lookL d (t.al.drop k) (l.drop k) b f = R) ∧ Below w.heap.size w wr) (fun i _ => S.size - (intOf i).toNat)
            case atStart => exact ⟨0, by omega, rfl, HR3.out.symm, hbw⟩
            case round =>
              obtain ⟨k, hk, rfl, hL, hb⟩ := hrel
              by_cases hlt : k < S.size
              · obtain ⟨x, hx⟩ := length_getElem (l := t.al) (i := k) (by omega)
                obtain ⟨y, hy⟩ := length_getElem (l := l) (i := k) (by rw [← X1.out]; exact hlt)
                obtain ⟨hi, hch⟩ := X3.out k y hy
                obtain ⟨bl, off, hA, hbb, hc⟩ := H3.out (by intro e; rw [e] at hx; simp at hx)
                obtain ⟨A1, cap1, c1, c2, c3, c4⟩ := hc.at_ hx
                rw [← hb.cell (p := ⟨bl, _, none⟩) hbb] at c1 c2 c3
                subst hA
                have hxm := List.mem_of_getElem? hx
                have HX := Lib.hid hx
                have HY := Lib.hid hy
                have HCH := Lib.hid hch
                clear hc hx hy hch q0 q1 q2
                go_wp2_with fail
                refine still_tail 11 (by kernel_rfl) (by kernel_rfl) ?_
                simp only [List.take_succ_cons, List.take_zero, List.drop_succ_cons, List.drop_zero]
                repeat still_step
                try refine wpStill_nil ?_
                go_wp2_with fail
                have hy2 : y ≤ 2 := X4.out y (List.mem_of_getElem? HY.out)
                rw [HCH.out, bound_eq hb0 (by omega) hy2]
                have hb1 := (hb.alloc hb.size (Obj.cells #[Value.int IntKind.i64 x.k, Value.int IntKind.i64 x.n, Value.slice A1 x.al.length cap1] 30)).drew
                have hLs := lookL_step (d := d) (b := b) (f := f) HX.out HY.out
                refine (IH.out x hxm (b + y) f (deep + 1) _ _ (c4.keep hb1.size hb1) (by omega) (by omega) (by have := HD.out; omega)).mono ?_
                rintro e w2 ⟨rfl, hb2⟩
                have hb3 : Below w.heap.size w w2 := hb1.trans (hb2.mono hb1.size)
                rw [hL.out] at hLs
                clear hb1 hb2 c1 c2 c3 c4 hL
                by_cases hz : look d x (b + y) f = 0
                · rw [if_pos hz] at hLs
                  have HLs := Lib.hid hLs
                  have hz' : (look d x (b + y) f == 0) = true := by simpa using hz
                  clear hLs hz
                  generalize look d x (b + y) f = q at *
                  go_wp2_with fail
                  go_roundw
                  case rel => exact ⟨k + 1, by omega, by go_num, HLs.out.symm, hb3⟩
                  case measure => simp [intOf]; omega
                · rw [if_neg hz] at hLs
                  have hz' : (look d x (b + y) f == 0) = false := by simpa using hz
                  generalize look d x (b + y) f = q at *
                  subst hLs
                  clear hz
                  go_wp2_with fail
                  go_ret
                  exact ⟨rfl, hb3⟩
              · obtain rfl : k = S.size := by omega
                have hR : R = 0 := by rw [← hL.out, List.drop_eq_nil_of_le (by omega)]; cases l.drop S.size <;> rfl
                subst hR
                clear hL q0 q1 q2
                go_wp2_with fail
                go_ret
                exact ⟨rfl, hb⟩
      · have hR := HR.out
        rw [if_pos (by simpa using hlen)] at hR
        subst hR
        clear HR
        have hlb : ((t.al.length : Int) == (S.size : Int)) = false := by rw [X1.out]; simp; omega
        clear hlen
        go_wp2_with fail
        go_ret
        exact ⟨rfl, hbw⟩
end Go.Proofs.YtjboibbgigkhkaaGreatDoor

