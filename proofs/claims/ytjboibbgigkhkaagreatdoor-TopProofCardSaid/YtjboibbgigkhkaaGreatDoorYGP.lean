/- sktop.TopSums answers true. -/
import Derived.Test.YtjboibbgigkhkaaGreatDoorYGQ
import Derived.Test.YtjboibbgigkhkaaGreatDoorYWDecl
import Derived.Test.YtjboibbgigkhkaaGreatDoorYGetDecl
import Derived.Test.YtjboibbgigkhkaaGreatDoorYEvalT
import Derived.ArgAppend
namespace Go.Proofs.YtjboibbgigkhkaaGreatDoor
open Go.RowKit
set_option maxRecDepth 100000

theorem app_two (d : Int) (a b : Nat) (ha : a ≤ 1000) (hb : b ≤ 1000) (w : World) (g : Nat) (h : Blk w g 3 #[.int .i64 a, .int .i64 b]) :
    Calls Tryz.prog 10 #[.int .i64 d, .slice (some ⟨g, 0, none⟩) 2 2] w (TPost (appP d [a, b]) w) :=
  app_any d [a, b] (by simp) w g 2 fun j n hj => by
    match j, hj with
    | 0, hj => cases hj; exact ⟨h.cell 0, by omega⟩
    | 1, hj => cases hj; exact ⟨h.cell 1, by omega⟩
    | j + 2, hj => simp at hj

set_option maxHeartbeats 3200000 in
theorem lawsums_any (hI : AllC) (a b : Int) (w : World) (hV : VarsM w) : Calls Tryz.prog 3 #[.int .i64 a, .int .i64 b] w (StrPost (.bool true) w) := by
  have HV := Lib.hid hV
  have HI := Lib.hid hI
  clear hV hI
  by_cases ha0 : a < 0
  · go_enter Tryz.func3, Tryz.ntmps3
    go_wp2_with fail
    refine (alive_top HI.out w HV.out).mono ?_
    rintro e w1 ⟨rfl, hb1⟩
    go_wp2_with fail
    go_ret
    exact ⟨rfl, hb1⟩
  by_cases ha1 : 12 < a
  · go_enter Tryz.func3, Tryz.ntmps3
    go_wp2_with fail
    refine (alive_top HI.out w HV.out).mono ?_
    rintro e w1 ⟨rfl, hb1⟩
    go_wp2_with fail
    go_ret
    exact ⟨rfl, hb1⟩
  by_cases hb0 : b < 0
  · go_enter Tryz.func3, Tryz.ntmps3
    go_wp2_with fail
    refine (alive_top HI.out w HV.out).mono ?_
    rintro e w1 ⟨rfl, hb1⟩
    go_wp2_with fail
    go_ret
    exact ⟨rfl, hb1⟩
  by_cases hb1' : 12 < b
  · go_enter Tryz.func3, Tryz.ntmps3
    go_wp2_with fail
    refine (alive_top HI.out w HV.out).mono ?_
    rintro e w1 ⟨rfl, hb1⟩
    go_wp2_with fail
    go_ret
    exact ⟨rfl, hb1⟩
  obtain ⟨x, rfl⟩ := Int.eq_ofNat_of_zero_le (Int.not_lt.1 ha0)
  obtain ⟨y, rfl⟩ := Int.eq_ofNat_of_zero_le (Int.not_lt.1 hb0)
  have hx : x < 13 := by omega
  have hy : y < 13 := by omega
  have HS := Lib.hid (sums_at x hx y hy)
  have HM := Lib.hid (muls_at x hx y hy)
  have hxy : x * y ≤ 144 := Nat.mul_le_mul (show x ≤ 12 by omega) (show y ≤ 12 by omega)
  go_enter Tryz.func3, Tryz.ntmps3
  go_wp2_with fail
  refine (alive_top HI.out w HV.out).mono ?_
  rintro e w1 ⟨rfl, hb1⟩
  have HB1 := Lib.hid hb1
  clear hb1
  go_wp2_with fail
  refine (loaded_top HI.out w1 (HV.out.below HB1.out)).mono ?_
  rintro e w2 ⟨A, rfl, hD, hb2⟩
  have HB2 := Lib.hid (below_step HB1.out hb2)
  have HD2 := Lib.hid hD
  clear hb2 hD
  go_wp2_with fail
  refine (app_two 0 x y (by omega) (by omega) _ _ (Blk.new w2 _ _)).mono ?_
  rintro e w3 ⟨s3, rfl, ht3, hb3⟩
  have hb3' := below_step (below_alloc' (Below.refl w2.heap.size w2) _) hb3
  have HB3 := Lib.hid (below_step HB2.out hb3')
  have HD3 := Lib.hid (HD2.out.keep hb3')
  have HT3 := Lib.hid (new_in ht3)
  clear hb3 hb3' ht3
  go_wp2_with fail
  refine (show Calls Tryz.prog 9 _ w3 (StrPost (.tuple #[.int .i64 ((x + y : Nat) : Int), .bool true]) w3) from Number_any fourN 400 200 (appP 0 [x, y]) _ true HS.out (by omega) w3 _ _ HD3.out HT3.out).mono ?_
  rintro e w4 ⟨rfl, hb4⟩
  have HB4 := Lib.hid (below_step HB3.out hb4)
  have HD4 := Lib.hid (HD3.out.keep hb4)
  clear hb4
  go_wp2_with fail
  refine (app_two 1 x y (by omega) (by omega) _ _ (Blk.new w4 _ _)).mono ?_
  rintro e w5 ⟨s5, rfl, ht5, hb5⟩
  have hb5' := below_step (below_alloc' (Below.refl w4.heap.size w4) _) hb5
  have HB5 := Lib.hid (below_step HB4.out hb5')
  have HD5 := Lib.hid (HD4.out.keep hb5')
  have HT5 := Lib.hid (new_in ht5)
  clear hb5 hb5' ht5
  go_wp2_with fail
  refine (show Calls Tryz.prog 9 _ w5 (StrPost (.tuple #[.int .i64 ((x * y : Nat) : Int), .bool true]) w5) from Number_any fourN 400 200 (appP 1 [x, y]) _ true HM.out (by omega) w5 _ _ HD5.out HT5.out).mono ?_
  rintro e w6 ⟨rfl, hb6⟩
  have HB6 := Lib.hid (below_step HB5.out hb6)
  clear hb6
  go_wp2_with fail
  go_ret
  exact ⟨rfl, HB6.out⟩
end Go.Proofs.YtjboibbgigkhkaaGreatDoor

/- kernel.Bytes: declarations, each as the bytes that tell it. -/
namespace Go.Proofs.YtjboibbgigkhkaaGreatDoor
open Go.RowKit
set_option maxRecDepth 100000

theorem Tryz.infoBytes : (Tryz.prog.info? 84).map (fun i => (i.zero, i.size, i.bytes)) = some (some (.slice none 0 0), 1, 24) := by kernel_rfl

/-- a declaration's bytes -/
def bytesN (d : ND) : List UInt8 := declBytes ⟨d.1, d.2.1, d.2.2⟩
/-- rows of bytes, one for each declaration, in blocks of a set -/
def BsS (w : World) (S : Nat → Prop) : List ND → List Value → Prop
  | [], vs => vs = []
  | d :: ds, vs => ∃ v r, vs = v :: r ∧ bytesInS w S (bytesN d) v ∧ BsS w S ds r
theorem BsS.keep {w w' : World} {S S' : Nat → Prop} (hS : ∀ b, S b → S' b) (hk : ∀ p : Addr, S p.block → w'.cell? p = w.cell? p) : ∀ {ds : List ND} {vs : List Value}, BsS w S ds vs → BsS w' S' ds vs
  | [], _, h => h
  | _ :: _, _, ⟨v, r, e, h, hr⟩ => ⟨v, r, e, h.keep hS hk, hr.keep hS hk⟩
theorem BsS.snoc {w : World} {S : Nat → Prop} {d : ND} {v : Value} (h1 : bytesInS w S (bytesN d) v) : ∀ {ds : List ND} {vs : List Value}, BsS w S ds vs → BsS w S (ds ++ [d]) (vs ++ [v])
  | [], vs, h => by subst h; exact ⟨v, [], rfl, h1, rfl⟩
  | _ :: _, _, ⟨u, r, e, h, hr⟩ => by subst e; exact ⟨u, r ++ [v], rfl, h, hr.snoc h1⟩
theorem BsS.len {w : World} {S : Nat → Prop} : ∀ {ds : List ND} {vs : List Value}, BsS w S ds vs → vs.length = ds.length
  | [], vs, h => by subst h; rfl
  | _ :: _, _, ⟨_, _, e, _, hr⟩ => by subst e; simp [hr.len]
theorem BsS.at_ {w : World} {S : Nat → Prop} : ∀ {ds : List ND} {vs : List Value}, BsS w S ds vs → ∀ (j : Nat) (d : ND), ds[j]? = some d → ∃ v, vs[j]? = some v ∧ bytesInS w S (bytesN d) v
  | [], _, _, j, d, h => by simp at h
  | _ :: _, _, ⟨v, r, e, h, hr⟩, 0, d, hd => by subst e; cases hd; exact ⟨v, rfl, h⟩
  | _ :: _, _, ⟨v, r, e, h, hr⟩, j + 1, d, hd => by subst e; exact hr.at_ j d (by simpa using hd)

/-- what the loop has -/
structure KB (w : World) (l : List ND) (vs : List Value) (v : Value) (wr : World) : Prop where
  out : wr.ownsRow w.heap.size 84 1 v l.length vs
  cells : BsS wr (fun b => b < wr.heap.size ∧ v.ownBlock ≠ some b) l vs
  low : Below w.heap.size w wr
theorem KB.more {w wr w2 : World} {l : List ND} {vs : List Value} {v : Value} (h : KB w l vs v wr) (hb : Below wr.heap.size wr w2) : KB w l vs v w2 :=
  ⟨own_keep h.out hb, h.cells.keep (fun _ hq => ⟨Nat.lt_of_lt_of_le hq.1 hb.size, hq.2⟩) (fun _ hp => hb.cell hp.1), below_step h.low hb⟩
theorem KB.grow {w w3 w4 w9 : World} {l : List ND} {vs : List Value} {v v' x : Value} {d : ND} {o : Obj} (h : KB w l vs v w3) (hb : Below w3.heap.size w3 w4) (hx : ownsB w4 w3.heap.size x (bytesN d))
    (hown : w9.ownsRow w.heap.size 84 1 v' (l.length + 1) (vs ++ [x])) (hg : (w4.alloc o).grownBy w9 v.ownBlock) (hbk : v'.ownBlock = v.ownBlock ∨ v'.ownBlock = some (w4.heap.size + 1)) : KB w (l ++ [d]) (vs ++ [x]) v' w9 := by
  have h4 := h.more hb
  have hx4 : bytesInS w4 (fun b => b < w4.heap.size ∧ v.ownBlock ≠ some b) (bytesN d) x := own_bytes hx fun b e => by
    have h1 := World.ownsRow.lt hx b e
    exact ⟨h1.2, fun e2 => by have := (h.out.lt b e2).2; omega⟩
  have hc := h4.cells.snoc hx4
  have hba := below_alloc' (Below.refl w4.heap.size w4) o
  have hsz : w4.heap.size ≤ w9.heap.size := Nat.le_trans hba.size hg.size
  have hS : ∀ b, (b < w4.heap.size ∧ v.ownBlock ≠ some b) → (b < w9.heap.size ∧ v'.ownBlock ≠ some b) := fun b hq => ⟨by have := hq.1; omega, fun e => by
    rcases hbk with e' | e'
    · exact hq.2 (e'.symm.trans e)
    · have e2 := e'.symm.trans e
      have := hq.1
      simp only [Option.some.injEq] at e2
      omega⟩
  have hk : ∀ p : Addr, (p.block < w4.heap.size ∧ v.ownBlock ≠ some p.block) → w9.cell? p = w4.cell? p := fun p hp =>
    World.cell?_of_block ((hg.block p.block (Nat.lt_of_lt_of_le hp.1 hba.size) (fun e => hp.2 e.symm)).trans (hba.block p.block hp.1))
  exact ⟨by simpa using hown, hc.keep hS hk, below_grown (below_step h4.low hba) hg (fun k hk => (h4.out.lt k hk).1)⟩

/-- behind kernel.Bytes -/
def BsPost (ds : List ND) (w : World) (e : Ending) (w' : World) : Prop := ∃ V vs, e = .returned V ∧ w'.ownsRow w.heap.size 84 1 V ds.length vs ∧ BsS w' (fun b => b < w'.heap.size) ds vs ∧ Below w.heap.size w w'

set_option maxHeartbeats 1600000 in
theorem kbytes_any (ds : List ND) (hds : ∀ d ∈ ds, d.1.length < 256 ∧ (bytesT d.2.1).length ≤ 1000 ∧ (bytesT d.2.2).length ≤ 1000) (hl : ds.length ≤ 1000000) (w : World) (D : Value) (hD : DeclsAt w ds D) :
    Calls Tryz.prog 25 #[D] w (BsPost ds w) := by
  obtain ⟨A, cap, rfl, hlc, hcm, -⟩ := id hD
  have HD := Lib.hid hD
  have HDS := Lib.hid hds
  obtain ⟨i0, hi0, hz0, hz1, hz2⟩ := info_parts Tryz.infoBytes
  clear hD hds
  go_enter Tryz.func25, Tryz.ntmps25
  go_wp2_with fail
  go_loopw [3, 8] (fun v iv wr => ∃ (k : Nat) (l : List ND) (vs : List Value), k ≤ ds.length ∧ iv = .int .i64 k ∧ KB w l vs v wr ∧ Hid (l = ds.take k)) (fun _ iv _ => ds.length - (intOf iv).toNat)
  case atStart => exact ⟨0, [], [], Nat.zero_le _, rfl, ⟨World.ownsRow_nil _ _ _ _, rfl, Below.refl _ _⟩, Lib.hid rfl⟩
  case round =>
    obtain ⟨k, l, vs, hk, rfl, hK, hL⟩ := hrel
    have HK := Lib.hid hK
    obtain ⟨VA, vcap, rfl⟩ := ownF hK.out
    clear hK
    have HLEN := Lib.hid (show l.length = k by rw [hL.out]; simp; omega)
    by_cases hlt : k < ds.length
    · obtain ⟨d, hd⟩ : ∃ d, ds[k]? = some d := ⟨_, List.getElem?_eq_getElem hlt⟩
      obtain ⟨b, off, S, m, S', m', rfl, c0, ⟨c1, c2, c3⟩, ⟨c4, c5, c6⟩, a1, a2⟩ := (HD.out.keep HK.out.low).at_ hd
      have HTK := Lib.hid (show l ++ [d] = ds.take (k + 1) from by rw [List.take_add_one, hL.out]; simp [hd])
      have HDD := Lib.hid (HDS.out d (List.mem_of_getElem? hd))
      have hba := below_alloc' (Below.refl wr.heap.size wr) (.cells #[.string ⟨d.1.toArray⟩, .int .i64 d.2.1.k, .int .i64 d.2.1.n, .slice S d.2.1.al.length m, .int .i64 d.2.2.k, .int .i64 d.2.2.n, .slice S' d.2.2.al.length m'] 50)
      have HA := Lib.hid (And.intro (a1.keep hba.size hba) (a2.keep hba.size hba))
      have HK3 := Lib.hid (HK.out.more hba)
      obtain ⟨⟨g0, g1, g2, g3, g4, g5, g6⟩, -⟩ := (Blk.new wr 50 #[.string ⟨d.1.toArray⟩, .int .i64 d.2.1.k, .int .i64 d.2.1.n, .slice S d.2.1.al.length m, .int .i64 d.2.2.k, .int .i64 d.2.2.n, .slice S' d.2.2.al.length m']).seven
      clear hd a1 a2 hba
      go_wp2_with fail
      clear c0 c1 c2 c3 c4 c5 c6
      generalize wr.alloc (.cells #[.string ⟨d.1.toArray⟩, .int .i64 d.2.1.k, .int .i64 d.2.1.n, .slice S d.2.1.al.length m, .int .i64 d.2.2.k, .int .i64 d.2.2.n, .slice S' d.2.2.al.length m'] 50) = w3 at *
      refine (show Calls Tryz.prog 49 _ w3 (fun e w' => ∃ v', e = .returned v' ∧ ownsB w' w3.heap.size v' (bytesN d) ∧ Below w3.heap.size w3 w') from wdecl_any ⟨d.1, d.2.1, d.2.2⟩ w3 _ _ HA.out.1 HA.out.2 HDD.out.1 HDD.out.2.1 HDD.out.2.2).mono ?_
      rintro e w4 ⟨x, rfl, hx, hb4⟩
      obtain ⟨XA, xcap, rfl⟩ := ownF hx
      have HX := Lib.hid (And.intro hx hb4)
      have hl1 : l.length + 1 ≤ maxLen := by have := HLEN.out; unfold maxLen; omega
      have hl2 : (l.length + 1) * 24 ≤ 140737488355328 := by have := HLEN.out; omega
      have HSZ := Lib.hid (show w.heap.size ≤ w4.heap.size from Nat.le_trans HK3.out.low.size hb4.size)
      have HOA := Lib.hid ((HK3.out.more hb4).out.alloc (.cells #[.slice XA (bytesN d).length xcap] 84))
      clear hx hb4
      go_wp2_with (first | (at_builtin; go_loud (refine wpList_append_any _ rfl (.tmp 12) (.tmp 15) 55 rfl w.heap.size 84 i0 (.slice none 0 0) 1 24 Tryz.underlying55 hi0 hz0 hz1 hz2 rfl (by decide) _ l.length vs rfl HOA.out _ _ 1 1 [.slice XA (bytesN d).length xcap] rfl (reads_blk (Blk.new' (t := 84) (by simp))) (by intro u hu; simp at hu; subst hu; rfl) hl1 hl2 (by have := HSZ.out; simp; omega) ?_)))
      intro V9 w9 hown9 hgr9 hbk
      have HE9 := Lib.hid (HK3.out.grow (d := d) HX.out.2 HX.out.1 hown9 hgr9 (by simpa using hbk))
      clear hown9 hgr9 hbk
      go_wp2_with fail
      go_roundw
      case rel => exact ⟨k + 1, l ++ [d], _, by omega, by go_num, HE9.out, HTK⟩
      case measure => simp [intOf]; omega
    · obtain rfl : k = ds.length := by omega
      have HE := Lib.hid (show l = ds from by rw [hL.out, List.take_of_length_le (Nat.le_refl _)])
      clear hL HLEN
      go_wp2_with fail
      go_ret
      have h := HK.out
      rw [HE.out] at h
      rw [HE.out]
      exact ⟨_, vs, rfl, h.out, h.cells.keep (fun _ hq => hq.1) (fun _ _ => rfl), h.low⟩
end Go.Proofs.YtjboibbgigkhkaaGreatDoor

/- wire.GetDecl, whose answer lies in new blocks. -/
namespace Go.Proofs.YtjboibbgigkhkaaGreatDoor
open Go.RowKit
set_option maxRecDepth 100000

/-- behind wire.GetDecl -/
def GetDNPost (r : Except Int D) (w : World) (e : Ending) (w' : World) : Prop := match r with
  | .error c => c ≠ 0 ∧ e = .returned (noDecl c) ∧ Below w.heap.size w w'
  | .ok d => ∃ v, e = .returned (.tuple #[v, .int .i64 0]) ∧ (∃ s s', v = .agg #[.string ⟨d.name.toArray⟩, .int .i64 d.type.k, .int .i64 d.type.n, s, .int .i64 d.body.k, .int .i64 d.body.n, s'] ∧ argsInS w' (newFrom w w') d.type s ∧ argsInS w' (newFrom w w') d.body s') ∧ Below w.heap.size w w'

set_option maxHeartbeats 1000000 in
theorem getdn_any (l : List UInt8) (w : World) (v : Value) (hv : bytesIn w w.heap.size l v) (hl : l.length ≤ 140737488355328) :
    Calls Tryz.prog 81 #[v] w (GetDNPost (getD l) w) := by
  cases l with
  | nil =>
    obtain ⟨A, cap, rfl, h1, h2, h3⟩ := hv
    have hR : getD [] = .error 8 := rfl
    rw [hR]
    clear hR h3
    go_enter Tryz.func81, Tryz.ntmps81
    go_wp2_with fail
    refine bodyPost_ret (v := noDecl 8) (by simp [results, Tryz.results81, go_sem, noDecl]) rfl ⟨by omega, rfl, ?_⟩
    exact (Below.refl w.heap.size w).alloc (Nat.le_refl _) _
  | cons n r =>
    obtain ⟨A, cap, rfl, h1, h2, h3⟩ := hv
    generalize hR : getD (n :: r) = R
    rw [getD] at hR
    have hn : n.toNat < 256 := n.toNat_lt
    have HV := Lib.hid h3
    obtain ⟨⟨b, off, spot⟩, e, hb, hc⟩ := h3.2 (by simp)
    have hsp : spot = none := by simpa [Addr.add] using World.cell?_spot (hc 0 _ (by rw [u8c_get]; rfl))
    subst hsp
    subst e
    have hc0 : w.cell? ⟨b, off, none⟩ = some (.int .u8 (n.toNat : Nat)) := by simpa [Addr.add] using hc 0 _ (by rw [u8c_get]; rfl)
    have hcells : cellsAt w b (off + 1) r := fun j c hj => by
      have := hc (j + 1) (.int .u8 (c.toNat : Nat)) (by rw [u8c_get, List.getElem?_cons_succ, hj]; rfl)
      rw [Go.WideShapes.add_plain] at this
      rw [show off + 1 + j = off + (j + 1) by omega]
      exact this
    clear hc h3
    unfold maxLen at h2
    simp only [List.length_cons] at h1 hl
    have hrl : r.length + 1 ≤ cap := h1
    by_cases hlt : r.length < n.toNat
    · rw [if_pos hlt] at hR
      subst hR
      go_enter Tryz.func81, Tryz.ntmps81
      go_wp2_with fail
      refine bodyPost_ret (v := noDecl 8) (by simp [results, Tryz.results81, go_sem, noDecl]) rfl ⟨by omega, rfl, ?_⟩
      exact (Below.refl w.heap.size w).alloc (Nat.le_refl _) _
    · rw [if_neg hlt] at hR
      have hge : n.toNat ≤ r.length := by omega
      have HC := Lib.hid hcells
      have hba := (Below.refl w.heap.size w).alloc (Nat.le_refl _) (.cells #[.string ⟨#[]⟩, .int .i64 0, .int .i64 0, .slice none 0 0, .int .i64 0, .int .i64 0, .slice none 0 0] 50)
      have hcW := hcells.keep hb hba
      by_cases heq : r.length = n.toNat
      · have hd : r.drop n.toNat = [] := List.drop_eq_nil_of_le (by omega)
        rw [hd] at hR
        have hR' : R = .error 8 := by rw [← hR, getT]
        subst hR'
        clear hR hd
        have hcv1 := conv_any _ b (off + 1) (off + 1) n.toNat (cap - 1) r hcW (by omega) (fun _ => rfl)
        have hcv2 : cap = 1 → _ := fun hc1 => conv_any _ b off (off + 1) n.toNat 0 r hcW (by omega) (fun h => by cases r with | nil => exact absurd rfl h | cons x xs => simp at hrl; omega)
        have HB := Lib.hid hba
        have hcW4 := Lib.hid hcW
        clear hcW hcells hba
        by_cases hc1 : cap = 1
        · have hcv3 := hcv2 hc1
          clear hcv2
          go_enter Tryz.func81, Tryz.ntmps81
          go_wp2_with fail
          have hg : getT 24 [] = .error 8 := by rw [getT]
          have hn0 : n.toNat + 1 - (1 + n.toNat) = 0 := by omega
          refine (get1_any [] _ _ (bytesIn_empty _ _ _ _ _ hn0 (by unfold maxLen; omega)) (by simp)).mono ?_
          rintro e w1 hpost
          rw [hg] at hpost
          obtain ⟨rfl, hbe⟩ := hpost
          have hb1 := (((Below.refl w.heap.size w).alloc (Nat.le_refl _) (.cells #[.string ⟨#[]⟩, .int .i64 0, .int .i64 0, .slice none 0 0, .int .i64 0, .int .i64 0, .slice none 0 0] 50)).alloc (by simp) _).trans (hbe.mono (by simp; omega))
          have hBk := (((Blk.new w 50 #[.string ⟨#[]⟩, .int .i64 0, .int .i64 0, .slice none 0 0, .int .i64 0, .int .i64 0, .slice none 0 0]).alloc _).below hbe (by simp; omega)).alloc (.cells #[.int .i64 0, .int .i64 0, .slice none 0 0] 30)
          obtain ⟨⟨c0, c1, c2, c3, c4, c5, c6⟩, f0, f1, f2, f3, f4, f5, f6⟩ := hBk.seven
          have hb2 := hb1.alloc (by have := hb1.size; omega) (.cells #[.int .i64 0, .int .i64 0, .slice none 0 0] 30)
          have HB2 := Lib.hid hb2
          clear hb1 hBk hb2 hbe
          try unfold noTerm
          go_wp2_with fail
          refine bodyPost_ret (v := noDecl 8) (by simp [results, Tryz.results81, go_sem, noDecl, c0, c1, c2, c3, c4, c5, c6]) rfl ⟨by omega, rfl, ?_⟩
          exact ((((((HB2.out.setCell (Nat.le_refl _) _).setCell (Nat.le_refl _) _).setCell (Nat.le_refl _) _).setCell (Nat.le_refl _) _).setCell (Nat.le_refl _) _).setCell (Nat.le_refl _) _).setCell (Nat.le_refl _) _
        · clear hcv2
          have hcv4 := conv_any _ b (off + 1) (off + 1) n.toNat n.toNat r hcW4.out (by omega) (fun _ => rfl)
          by_cases hc2 : cap = 1 + n.toNat
          · go_enter Tryz.func81, Tryz.ntmps81
            go_wp2_with fail
            have hg : getT 24 [] = .error 8 := by rw [getT]
            have hn0 : n.toNat + 1 - (1 + n.toNat) = 0 := by omega
            refine (get1_any [] _ _ (bytesIn_empty _ _ _ _ _ hn0 (by unfold maxLen; omega)) (by simp)).mono ?_
            rintro e w1 hpost
            rw [hg] at hpost
            obtain ⟨rfl, hbe⟩ := hpost
            have hb1 := (((Below.refl w.heap.size w).alloc (Nat.le_refl _) (.cells #[.string ⟨#[]⟩, .int .i64 0, .int .i64 0, .slice none 0 0, .int .i64 0, .int .i64 0, .slice none 0 0] 50)).alloc (by simp) _).trans (hbe.mono (by simp; omega))
            have hBk := (((Blk.new w 50 #[.string ⟨#[]⟩, .int .i64 0, .int .i64 0, .slice none 0 0, .int .i64 0, .int .i64 0, .slice none 0 0]).alloc _).below hbe (by simp; omega)).alloc (.cells #[.int .i64 0, .int .i64 0, .slice none 0 0] 30)
            obtain ⟨⟨c0, c1, c2, c3, c4, c5, c6⟩, f0, f1, f2, f3, f4, f5, f6⟩ := hBk.seven
            have hb2 := hb1.alloc (by have := hb1.size; omega) (.cells #[.int .i64 0, .int .i64 0, .slice none 0 0] 30)
            have HB2 := Lib.hid hb2
            clear hb1 hBk hb2 hbe
            try unfold noTerm
            go_wp2_with fail
            refine bodyPost_ret (v := noDecl 8) (by simp [results, Tryz.results81, go_sem, noDecl, c0, c1, c2, c3, c4, c5, c6]) rfl ⟨by omega, rfl, ?_⟩
            exact ((((((HB2.out.setCell (Nat.le_refl _) _).setCell (Nat.le_refl _) _).setCell (Nat.le_refl _) _).setCell (Nat.le_refl _) _).setCell (Nat.le_refl _) _).setCell (Nat.le_refl _) _).setCell (Nat.le_refl _) _
          · go_enter Tryz.func81, Tryz.ntmps81
            go_wp2_with fail
            have hg : getT 24 [] = .error 8 := by rw [getT]
            have hn0 : n.toNat + 1 - (1 + n.toNat) = 0 := by omega
            refine (get1_any [] _ _ (bytesIn_empty _ _ _ _ _ hn0 (by unfold maxLen; omega)) (by simp)).mono ?_
            rintro e w1 hpost
            rw [hg] at hpost
            obtain ⟨rfl, hbe⟩ := hpost
            have hb1 := (((Below.refl w.heap.size w).alloc (Nat.le_refl _) (.cells #[.string ⟨#[]⟩, .int .i64 0, .int .i64 0, .slice none 0 0, .int .i64 0, .int .i64 0, .slice none 0 0] 50)).alloc (by simp) _).trans (hbe.mono (by simp; omega))
            have hBk := (((Blk.new w 50 #[.string ⟨#[]⟩, .int .i64 0, .int .i64 0, .slice none 0 0, .int .i64 0, .int .i64 0, .slice none 0 0]).alloc _).below hbe (by simp; omega)).alloc (.cells #[.int .i64 0, .int .i64 0, .slice none 0 0] 30)
            obtain ⟨⟨c0, c1, c2, c3, c4, c5, c6⟩, f0, f1, f2, f3, f4, f5, f6⟩ := hBk.seven
            have hb2 := hb1.alloc (by have := hb1.size; omega) (.cells #[.int .i64 0, .int .i64 0, .slice none 0 0] 30)
            have HB2 := Lib.hid hb2
            clear hb1 hBk hb2 hbe
            try unfold noTerm
            go_wp2_with fail
            refine bodyPost_ret (v := noDecl 8) (by simp [results, Tryz.results81, go_sem, noDecl, c0, c1, c2, c3, c4, c5, c6]) rfl ⟨by omega, rfl, ?_⟩
            exact ((((((HB2.out.setCell (Nat.le_refl _) _).setCell (Nat.le_refl _) _).setCell (Nat.le_refl _) _).setCell (Nat.le_refl _) _).setCell (Nat.le_refl _) _).setCell (Nat.le_refl _) _).setCell (Nat.le_refl _) _
      · have HR := Lib.hid hR
        clear hR
        have hcv := conv_any _ b (off + 1) (off + 1) n.toNat (cap - 1) (r.take n.toNat) hcW.take (by simp; omega) (fun _ => rfl)
        have HB := Lib.hid hba
        have hne1 : ¬ cap = 1 := by omega
        have hne2 : ¬ cap = 1 + n.toNat := by omega
        clear hcW hcells hba
        go_enter Tryz.func81, Tryz.ntmps81
        go_wp2_with fail

        have hcW2 := HC.out.keep hb (HB.out.trans (((Below.refl _ _).alloc (Nat.le_refl _) (.cells #[.string ⟨(r.take n.toNat).toArray⟩, .int .i64 0, .int .i64 0, .slice none 0 0, .int .i64 0, .int .i64 0, .slice none 0 0] 50)).mono (by simp)))
        have hget := get1_any (r.drop n.toNat) _ _ (hcW2.drop.bytes (o := off + (1 + n.toNat)) (n := r.length + 1 - (1 + n.toNat)) (cap := cap - (1 + n.toNat)) (by simp; omega) (by omega) (by simp; omega) (by omega) (by unfold maxLen; omega)) (by simp; omega)
        refine hget.mono ?_
        clear hget
        rintro e w1 hpost
        have herr := getT_err 24 (r.drop n.toNat)
        have hlen := bytes_get 24 (r.drop n.toNat)
        have HR2 := HR.out
        clear HR
        revert HR2 hpost herr hlen
        cases getT 24 (r.drop n.toNat) with
        | error c =>
          intro hpost herr hlen HR2
          clear hlen
          have hRe : R = .error c := HR2.symm
          subst hRe
          clear HR2 hcW2
          obtain ⟨rfl, hbe⟩ := hpost
          have hcz : c ≠ 0 := herr c rfl
          clear herr
          have hcb : (c != 0) = true := by simpa using hcz
          have hb1 := (((Below.refl w.heap.size w).alloc (Nat.le_refl _) (.cells #[.string ⟨#[]⟩, .int .i64 0, .int .i64 0, .slice none 0 0, .int .i64 0, .int .i64 0, .slice none 0 0] 50)).alloc (by simp) _).trans (hbe.mono (by simp; omega))
          have hBk := (((Blk.new w 50 #[.string ⟨#[]⟩, .int .i64 0, .int .i64 0, .slice none 0 0, .int .i64 0, .int .i64 0, .slice none 0 0]).alloc _).below hbe (by simp; omega)).alloc (.cells #[.int .i64 0, .int .i64 0, .slice none 0 0] 30)
          obtain ⟨⟨c0, c1, c2, c3, c4, c5, c6⟩, f0, f1, f2, f3, f4, f5, f6⟩ := hBk.seven
          have hb2 := hb1.alloc (by have := hb1.size; omega) (.cells #[.int .i64 0, .int .i64 0, .slice none 0 0] 30)
          have HB2 := Lib.hid hb2
          clear hb1 hBk hb2 hbe
          try unfold noTerm
          go_wp2_with fail
          refine bodyPost_ret (v := noDecl c) (by simp [results, Tryz.results81, go_sem, noDecl, c0, c1, c2, c3, c4, c5, c6]) rfl ⟨by omega, rfl, ?_⟩
          exact ((((((HB2.out.setCell (Nat.le_refl _) _).setCell (Nat.le_refl _) _).setCell (Nat.le_refl _) _).setCell (Nat.le_refl _) _).setCell (Nat.le_refl _) _).setCell (Nat.le_refl _) _).setCell (Nat.le_refl _) _
        | ok tr =>
          intro hpost herr hlen HR2
          clear herr
          obtain ⟨t, r1⟩ := tr
          have hl1 : r1.length ≤ 140737488355328 := by have h := congrArg List.length (hlen t r1 rfl); rw [List.length_append, List.length_drop] at h; omega
          clear hlen hcW2
          obtain ⟨s, v1, rfl, ht, hr, hbe⟩ := hpost
          have HR3 := Lib.hid (show (match getT 24 r1 with
              | .error c => .error c
              | .ok (u, r2) => if r2 = [] then .ok ⟨r.take n.toNat, t, u⟩ else .error 2) = R from HR2)
          clear HR2
          obtain ⟨A, cp, rfl, -⟩ := argsInS_iff.1 ht
          have hb1 := (((Below.refl w.heap.size w).alloc (Nat.le_refl _) (.cells #[.string ⟨#[]⟩, .int .i64 0, .int .i64 0, .slice none 0 0, .int .i64 0, .int .i64 0, .slice none 0 0] 50)).alloc (by simp) _).trans (hbe.mono (by simp; omega))
          have hBr := ((Blk.new w 50 #[.string ⟨#[]⟩, .int .i64 0, .int .i64 0, .slice none 0 0, .int .i64 0, .int .i64 0, .slice none 0 0]).alloc _).below hbe (by simp; omega)
          have hBd := (Blk.new (w.alloc _) 50 #[.string ⟨(r.take n.toNat).toArray⟩, .int .i64 0, .int .i64 0, .slice none 0 0, .int .i64 0, .int .i64 0, .slice none 0 0]).below hbe (by simp)
          have hsz1 := hbe.size
          simp at hsz1 hBd
          have HT := Lib.hid (ht.keep (S' := fun b => w.heap.size + 2 ≤ b ∧ b < w1.heap.size) (fun b h => ⟨by have h1 := h.1; simp at h1; omega, h.2⟩) (fun _ _ => rfl))
          have hrB := hr.toB (B := w1.heap.size) (fun b h => h.2)
          clear ht hr hbe
          have hBelow1 := Lib.hid hb1
          have hget := get1_any r1 (w1.alloc (.cells #[.int .i64 t.k, .int .i64 t.n, .slice A t.al.length cp] 30)) v1 (hrB.keep (by simp) ((Below.refl _ _).alloc (Nat.le_refl _) _)) hl1
          have HBr := Lib.hid hBr
          have HBd := Lib.hid hBd
          have HG := Lib.hid hget
          clear hget hrB hBr hBd hb1
          go_wp2_with fail
          refine (HG.out).mono ?_
          clear HG
          rintro e w3 hpost
          have herr := getT_err 24 r1
          have HR4 := HR3.out
          clear HR3
          revert HR4 hpost herr
          cases getT 24 r1 with
          | error c =>
            intro hpost herr HR4
            have hRe : R = .error c := HR4.symm
            subst hRe
            clear HR4
            obtain ⟨rfl, hbe⟩ := hpost
            have hcz : c ≠ 0 := herr c rfl
            clear herr
            have hcb : (c != 0) = true := by simpa using hcz
            have hb3 := (hBelow1.out.alloc (by omega) (.cells #[.int .i64 t.k, .int .i64 t.n, .slice A t.al.length cp] 30)).trans (hbe.mono (by simp; omega))
            have hsz3 := hbe.size
            simp at hsz3
            have hBk := ((HBr.out.alloc (.cells #[.int .i64 t.k, .int .i64 t.n, .slice A t.al.length cp] 30)).below hbe (by simp; omega)).alloc (.cells #[.int .i64 0, .int .i64 0, .slice none 0 0] 30)
            obtain ⟨⟨c0, c1, c2, c3, c4, c5, c6⟩, f0, f1, f2, f3, f4, f5, f6⟩ := hBk.seven
            have HB2 := Lib.hid (hb3.alloc (by omega) (.cells #[.int .i64 0, .int .i64 0, .slice none 0 0] 30))
            clear hb3 hBk hbe
            try unfold noTerm
            go_wp2_with fail
            refine bodyPost_ret (v := noDecl c) (by simp [results, Tryz.results81, go_sem, noDecl, c0, c1, c2, c3, c4, c5, c6]) rfl ⟨by omega, rfl, ?_⟩
            exact ((((((HB2.out.setCell (Nat.le_refl _) _).setCell (Nat.le_refl _) _).setCell (Nat.le_refl _) _).setCell (Nat.le_refl _) _).setCell (Nat.le_refl _) _).setCell (Nat.le_refl _) _).setCell (Nat.le_refl _) _
          | ok ur =>
            intro hpost herr HR4
            clear herr
            obtain ⟨u, r2⟩ := ur
            obtain ⟨s2, v2, rfl, hu, hr2, hbe⟩ := hpost
            obtain ⟨A2, cp2, rfl, -⟩ := argsInS_iff.1 hu
            obtain ⟨A3, cp3, rfl, -⟩ := hr2
            by_cases hr2e : r2 = []
            · subst hr2e
              have hRe : R = .ok ⟨r.take n.toNat, t, u⟩ := HR4.symm
              subst hRe
              clear HR4
              simp only [List.length_nil]
              have hsz3 := hbe.size
              simp at hsz3
              have hb3 := (hBelow1.out.alloc (by omega) (.cells #[.int .i64 t.k, .int .i64 t.n, .slice A t.al.length cp] 30)).trans (hbe.mono (by simp; omega))
              have hbt := ((Below.refl w1.heap.size w1).alloc (Nat.le_refl _) (.cells #[.int .i64 t.k, .int .i64 t.n, .slice A t.al.length cp] 30)).trans (hbe.mono (by simp))
              have HT3 := Lib.hid (HT.out.keep (S' := fun b => w.heap.size + 2 ≤ b ∧ b < w3.heap.size) (fun b h => ⟨h.1, by omega⟩) (fun p hp => hbt.cell hp.2))
              have HU3 := Lib.hid (hu.keep (S' := fun b => w.heap.size + 2 ≤ b ∧ b < w3.heap.size) (fun b h => ⟨by have h1 := h.1; simp at h1; omega, h.2⟩) (fun _ _ => rfl))
              have hBr3 := ((HBr.out.alloc (.cells #[.int .i64 t.k, .int .i64 t.n, .slice A t.al.length cp] 30)).below hbe (by simp; omega)).alloc (.cells #[.int .i64 u.k, .int .i64 u.n, .slice A2 u.al.length cp2] 30)
              have hBd3 := ((HBd.out.alloc (.cells #[.int .i64 t.k, .int .i64 t.n, .slice A t.al.length cp] 30)).below hbe (by simp; omega)).alloc (.cells #[.int .i64 u.k, .int .i64 u.n, .slice A2 u.al.length cp2] 30)
              have hBt3 := ((Blk.new w1 30 #[.int .i64 t.k, .int .i64 t.n, .slice A t.al.length cp]).below hbe (by simp)).alloc (.cells #[.int .i64 u.k, .int .i64 u.n, .slice A2 u.al.length cp2] 30)
              obtain ⟨⟨c0, c1, c2, c3, c4, c5, c6⟩, f0, f1, f2, f3, f4, f5, f6⟩ := hBr3.seven
              obtain ⟨⟨d0, d1, d2, d3, d4, d5, d6⟩, g0, g1, g2, g3, g4, g5, g6⟩ := hBd3.seven
              obtain ⟨⟨t0, t1, t2⟩, -, -, -⟩ := hBt3.three
              have HB4 := Lib.hid (hb3.alloc (by omega) (.cells #[.int .i64 u.k, .int .i64 u.n, .slice A2 u.al.length cp2] 30))
              obtain ⟨⟨u0, u1, u2⟩, -, -, -⟩ := (Blk.new w3 30 #[.int .i64 u.k, .int .i64 u.n, .slice A2 u.al.length cp2]).three
              clear hu hbe hb3 hbt hBr3 hBd3 hBt3 HBr HBd HT hBelow1
              go_wp2_with fail
              have hk4 : ∀ p : Addr, p.block < w3.heap.size → (w3.alloc (.cells #[.int .i64 u.k, .int .i64 u.n, .slice A2 u.al.length cp2] 30)).cell? p = w3.cell? p := fun p hp => (((Below.refl w3.heap.size w3).alloc (Nat.le_refl _) _).cell hp)
              have hs4 : (w3.alloc (.cells #[.int .i64 u.k, .int .i64 u.n, .slice A2 u.al.length cp2] 30)).heap.size = w3.heap.size + 1 := by simp
              generalize w3.alloc (.cells #[.int .i64 u.k, .int .i64 u.n, .slice A2 u.al.length cp2] 30) = w4 at *
              have HK4 := Lib.hid hk4
              clear hk4
              go_region
              go_wp2_with fail
              have hsz5 := HB4.out.size
              refine bodyPost_ret (v := .tuple #[.agg #[.string ⟨(r.take n.toNat).toArray⟩, .int .i64 t.k, .int .i64 t.n, .slice A t.al.length cp, .int .i64 u.k, .int .i64 u.n, .slice A2 u.al.length cp2], .int .i64 0]) (by simp [results, Tryz.results81, go_sem, c0, c1, c2, c3, c4, c5, c6]) rfl ⟨_, rfl, ⟨_, _, rfl, HT3.out.keep (fun b h => ?_) (fun p hp => ?_), HU3.out.keep (fun b h => ?_) (fun p hp => ?_)⟩, ?_⟩
              · refine ⟨by have := h.1; omega, ?_⟩
                have h2 := h.2
                simp [World.setCell, World.drew]
                omega
              · rw [← HK4.out p hp.2]
                have e0 : ∀ (W : World) (v : Value) (o : Nat), (W.setCell ⟨w.heap.size, o, none⟩ v).cell? p = W.cell? p := fun W v o => World.cell?_of_block (Below.heap_setCell _ _ _ _ (by have := hp.1; show p.block ≠ w.heap.size; omega))
                have e1 : ∀ (W : World) (v : Value) (o : Nat), (W.setCell ⟨w.heap.size + 1, o, none⟩ v).cell? p = W.cell? p := fun W v o => World.cell?_of_block (Below.heap_setCell _ _ _ _ (by have := hp.1; show p.block ≠ w.heap.size + 1; omega))
                have e2 : ∀ (W : World), (W.drew).cell? p = W.cell? p := fun W => rfl
                rw [e2]
                simp only [e0, e1]
              · refine ⟨by have := h.1; omega, ?_⟩
                have h2 := h.2
                simp [World.setCell, World.drew]
                omega
              · rw [← HK4.out p hp.2]
                have e0 : ∀ (W : World) (v : Value) (o : Nat), (W.setCell ⟨w.heap.size, o, none⟩ v).cell? p = W.cell? p := fun W v o => World.cell?_of_block (Below.heap_setCell _ _ _ _ (by have := hp.1; show p.block ≠ w.heap.size; omega))
                have e1 : ∀ (W : World) (v : Value) (o : Nat), (W.setCell ⟨w.heap.size + 1, o, none⟩ v).cell? p = W.cell? p := fun W v o => World.cell?_of_block (Below.heap_setCell _ _ _ _ (by have := hp.1; show p.block ≠ w.heap.size + 1; omega))
                have e2 : ∀ (W : World), (W.drew).cell? p = W.cell? p := fun W => rfl
                rw [e2]
                simp only [e0, e1]
              · have H := HB4.out
                refine Below.drew ?_
                iterate 13 refine Below.setCell ?_ (by first | exact Nat.le_refl _ | exact Nat.le_succ _) _
                exact H
            · have hRe : R = .error 2 := by rw [← HR4]; exact if_neg hr2e
              subst hRe
              clear HR4
              have hpos : 0 < r2.length := List.length_pos_iff.2 hr2e
              have hb3 := (hBelow1.out.alloc (by omega) (.cells #[.int .i64 t.k, .int .i64 t.n, .slice A t.al.length cp] 30)).trans (hbe.mono (by simp; omega))
              have hsz3 := hbe.size
              simp at hsz3
              have hBk := ((HBr.out.alloc (.cells #[.int .i64 t.k, .int .i64 t.n, .slice A t.al.length cp] 30)).below hbe (by simp; omega)).alloc (.cells #[.int .i64 u.k, .int .i64 u.n, .slice A2 u.al.length cp2] 30)
              obtain ⟨⟨c0, c1, c2, c3, c4, c5, c6⟩, f0, f1, f2, f3, f4, f5, f6⟩ := hBk.seven
              have HB2 := Lib.hid (hb3.alloc (by omega) (.cells #[.int .i64 u.k, .int .i64 u.n, .slice A2 u.al.length cp2] 30))
              clear hb3 hBk hbe
              try unfold noTerm
              go_wp2_with fail
              refine bodyPost_ret (v := noDecl 2) (by simp [results, Tryz.results81, go_sem, noDecl, c0, c1, c2, c3, c4, c5, c6]) rfl ⟨by omega, rfl, ?_⟩
              exact ((((((HB2.out.setCell (Nat.le_refl _) _).setCell (Nat.le_refl _) _).setCell (Nat.le_refl _) _).setCell (Nat.le_refl _) _).setCell (Nat.le_refl _) _).setCell (Nat.le_refl _) _).setCell (Nat.le_refl _) _
end Go.Proofs.YtjboibbgigkhkaaGreatDoor

/- kernel.Own: a state of the caller's own; slices.Clone of verdicts. -/
namespace Go.Proofs.YtjboibbgigkhkaaGreatDoor
open Go.RowKit
set_option maxRecDepth 100000

theorem vclone_raw (n : Nat) (cs : List Value) (w : World) (A : Option Addr) (cap : Nat) (hR : Reads w w.heap.size 2 A n cs) (h1 : ∀ u ∈ cs, u.oneCell' = true) (hn : n ≤ 1000000) :
    Calls Tryz.prog 102 #[.slice A n cap] w (OwnPost 58 2 n w.heap.size cs w) := by
  cases A with
  | none =>
    have hn0 : n = 0 := by
      rcases Nat.eq_zero_or_pos n with h0 | h0
      · exact h0
      · obtain ⟨ad, e, -⟩ := hR.2 h0; cases e
    subst hn0
    have hp : cs = [] := List.eq_nil_of_length_eq_zero (by simpa using hR.1)
    subst hp
    clear hR h1
    have heq : (binOp BinOp.eql 51 (.slice none 0 cap) (.slice none 0 0)).run Tryz.prog w = .ok (.bool true) w := by kernel_rfl
    go_enter Tryz.func102, Tryz.ntmps102
    go_wp2_with fail
    go_ret
    exact ⟨_, rfl, World.ownsRow_nil _ _ _ _, Below.refl _ _⟩
  | some ad =>
    have HRD := Lib.hid (hR.alloc (Nat.le_refl _) (.cells #[] 58))
    have hm1 : 0 + n ≤ maxLen := by unfold maxLen; omega
    have hm2 : (0 + n) * 16 ≤ 140737488355328 := by omega
    obtain ⟨i0, hi0, hz0, hz1, hz2⟩ := info_parts Tryz.infoVerdict
    clear hR
    have heq : (binOp BinOp.eql 51 (.slice (some ad) n cap) (.slice none 0 0)).run Tryz.prog w = .ok (.bool false) w := by kernel_rfl
    go_enter Tryz.func102, Tryz.ntmps102
    go_wp2_with (first | (at_builtin; go_loud (refine wpList_append_any _ rfl (.tmp 5) (.tmp 6) 51 rfl w.heap.size 58 i0 _ 2 16 Tryz.underlying51 hi0 hz0 hz1 hz2 rfl (by decide) _ 0 [] rfl (own_emptyN _ _ (Nat.le_refl _) _ _) w.heap.size (some ad) n cap cs rfl HRD.out h1 hm1 hm2 (by simp) ?_)))
    intro V wa hown hgr _
    have hba : Below w.heap.size w wa := (((Below.refl w.heap.size w).alloc (Nat.le_refl _) (.cells #[] 58))).grown hgr (by simp) (by intro k hk; simp [Value.ownBlock] at hk; omega)
    have HO := Lib.hid (And.intro hown hba)
    clear hown hgr hba
    go_wp2_with fail
    go_ret
    exact ⟨_, rfl, by simpa using HO.out.1, HO.out.2⟩

theorem blk_put2 {w : World} {g : Nat} {t : TypeId} {a b : Value} (h : Blk w g t #[a, b]) (x y : Value) : Blk ((w.setCell ⟨g, 0, none⟩ x).setCell ⟨g, 1, none⟩ y) g t #[x, y] := by
  have := (h.set_ 0 x).set_ 1 y
  simpa using this
/-- a row of verdicts, anywhere -/
def VsAt (w : World) (n : Nat) (cs : List Value) (V : Value) : Prop := ∃ A cap, V = .slice A n cap ∧ n ≤ 1000000 ∧ (∀ u ∈ cs, u.oneCell' = true) ∧ Reads w w.heap.size 2 A n cs
theorem VsAt.keep {w w' : World} {n : Nat} {cs : List Value} {V : Value} (h : VsAt w n cs V) (hb : Below w.heap.size w w') : VsAt w' n cs V := by
  obtain ⟨A, cap, h1, h2, h3, h4⟩ := h
  exact ⟨A, cap, h1, h2, h3, (h4.below hb).more hb.size⟩

/-- behind kernel.Own: both rows are new -/
def OwnKPost (ds : List ND) (n : Nat) (cs : List Value) (w : World) (e : Ending) (w' : World) : Prop := ∃ D V, e = .returned (.agg #[D, V]) ∧ DeclsAt w' ds D ∧ w'.ownsRow w.heap.size 58 2 V n cs ∧ Below w.heap.size w w'
/- PRINTED -/
set_option maxHeartbeats 1600000 in
theorem kown_any (ds : List ND) (n : Nat) (cs : List Value) (w : World) (D V : Value) (hD : DeclsAt w ds D) (hV : VsAt w n cs V) (hl : ds.length ≤ 1000000) :
    Calls Tryz.prog 80 #[.agg #[D, V]] w (OwnKPost ds n cs w) := by
  obtain ⟨DA, dcap, rfl⟩ := hD.form
  obtain ⟨-, -, -, dc, hdc, hrd⟩ := hD.reads
  obtain ⟨VA, vcap, rfl, hn, h1, hrv⟩ := hV
  have HDC := Lib.hid hdc
  have hba := below_alloc' (below_alloc' (Below.refl w.heap.size w) (.cells #[.slice DA ds.length dcap, .slice VA n vcap] 53)) (.cells #[.slice none 0 0, .slice none 0 0] 53)
  have HBA := Lib.hid hba
  have HCD := Lib.hid (show ∀ w' : World, Below ((w.alloc (.cells #[.slice DA ds.length dcap, .slice VA n vcap] 53)).alloc (.cells #[.slice none 0 0, .slice none 0 0] 53)).heap.size ((w.alloc (.cells #[.slice DA ds.length dcap, .slice VA n vcap] 53)).alloc (.cells #[.slice none 0 0, .slice none 0 0] 53)) w' → Calls Tryz.prog 87 #[.slice DA ds.length dcap] w' (OwnPost 50 7 ds.length w'.heap.size dc w') from
    fun w' hb => dclone_raw ds.length dc w' DA dcap ((hrd.below (below_step hba hb)).more (below_step hba hb).size) hdc.one hl)
  have HCV := Lib.hid (show ∀ w' : World, Below ((w.alloc (.cells #[.slice DA ds.length dcap, .slice VA n vcap] 53)).alloc (.cells #[.slice none 0 0, .slice none 0 0] 53)).heap.size ((w.alloc (.cells #[.slice DA ds.length dcap, .slice VA n vcap] 53)).alloc (.cells #[.slice none 0 0, .slice none 0 0] 53)) w' → Calls Tryz.prog 102 #[.slice VA n vcap] w' (OwnPost 58 2 n w'.heap.size cs w') from
    fun w' hb => vclone_raw n cs w' VA vcap ((hrv.below (below_step hba hb)).more (below_step hba hb).size) h1 hn)
  obtain ⟨⟨c0, c1⟩, -⟩ := ((Blk.new w 53 #[.slice DA ds.length dcap, .slice VA n vcap]).alloc (.cells #[.slice none 0 0, .slice none 0 0] 53)).two
  have HB2 := Lib.hid (Blk.new' (g := w.heap.size + 1) (t := 53) (cs := #[.slice none 0 0, .slice none 0 0]) (show w.heap.size + 1 = (w.alloc (.cells #[.slice DA ds.length dcap, .slice VA n vcap] 53)).heap.size by simp))
  have HSZ := Lib.hid (show ((w.alloc (.cells #[.slice DA ds.length dcap, .slice VA n vcap] 53)).alloc (.cells #[.slice none 0 0, .slice none 0 0] 53)).heap.size = w.heap.size + 2 by simp)
  clear hD hrd hrv hdc h1 hba
  go_enter Tryz.func80, Tryz.ntmps80
  go_wp2_with fail
  generalize ((w.alloc (.cells #[.slice DA ds.length dcap, .slice VA n vcap] 53)).alloc (.cells #[.slice none 0 0, .slice none 0 0] 53)) = wa at *
  have HM1 := Lib.hid trivial
  have HM2 := Lib.hid trivial
  have HK := Lib.hid (And.intro c0 (c1))
  have HKP := Lib.hid (show ∀ W : World, Below wa.heap.size wa W → W.cell? ⟨w.heap.size, 0, none⟩ = some (.slice DA ds.length dcap) ∧ W.cell? ⟨w.heap.size, 1, none⟩ = some (.slice VA n vcap) from fun W hb => And.intro (cell_keep hb HK.out.1) (cell_keep hb HK.out.2))
  go_region_held3 (fun w' => w'.cell? ⟨w.heap.size, 0, none⟩ = some (.slice DA ds.length dcap) ∧ w'.cell? ⟨w.heap.size, 1, none⟩ = some (.slice VA n vcap)) (first | (with_reducible refine HKP.out _ ?_; ((repeat (first | with_reducible exact Below.refl _ _ | with_reducible refine below_alloc' ?_ _ | with_reducible refine below_step ?_ HM1.out | with_reducible refine below_step ?_ HM2.out | with_reducible refine below_drew ?_))); done) | go_keep)
    (first
      | ((go_at_call 87); (with_reducible refine (HCD.out _ (by (repeat (first | with_reducible exact Below.refl _ _ | with_reducible refine below_alloc' ?_ _ | with_reducible refine below_step ?_ HM1.out | with_reducible refine below_step ?_ HM2.out | with_reducible refine below_drew ?_)))).mono ?_); rintro e2 w2 ⟨d2, rfl, hoe2, hbe2⟩; (obtain ⟨Ad2, cd2, rfl⟩ := ownF hoe2); (have HM1 := Lib.hid hbe2); (have hbw : Below wa.heap.size wa w2 := by (repeat (first | with_reducible exact Below.refl _ _ | with_reducible refine below_alloc' ?_ _ | with_reducible refine below_step ?_ HM1.out | with_reducible refine below_step ?_ HM2.out | with_reducible refine below_drew ?_))); (have HO2 := Lib.hid hoe2); (have zHK0_0 := cell_keep hbw HK.out.1); (have zHK0_1 := cell_keep hbw HK.out.2); (obtain ⟨⟨u0, u1⟩, uf0, uf1⟩ := (HB2.out.more hbw).two); clear hoe2 hbe2 hbw)
      | ((go_at_call 102); (with_reducible refine (HCV.out _ (by (repeat (first | with_reducible exact Below.refl _ _ | with_reducible refine below_alloc' ?_ _ | with_reducible refine below_step ?_ HM1.out | with_reducible refine below_step ?_ HM2.out | with_reducible refine below_drew ?_)))).mono ?_); rintro e3 w3 ⟨v3, rfl, hoe3, hbe3⟩; (obtain ⟨Av3, cv3, rfl⟩ := ownF hoe3); (have HM2 := Lib.hid hbe3); (have hbw : Below wa.heap.size wa w3 := by (repeat (first | with_reducible exact Below.refl _ _ | with_reducible refine below_alloc' ?_ _ | with_reducible refine below_step ?_ HM1.out | with_reducible refine below_step ?_ HM2.out | with_reducible refine below_drew ?_))); (have HO3 := Lib.hid hoe3); (have zHK1_0 := cell_keep hbw HK.out.1); (have zHK1_1 := cell_keep hbw HK.out.2); (obtain ⟨⟨u0, u1⟩, uf0, uf1⟩ := (HB2.out.more hbw).two); clear hoe3 hbe3 hbw)
      | fail)
  all_goals go_wp2_with fail
  have hm1 : Below wa.heap.size wa w2 := by ((repeat (first | with_reducible exact Below.refl _ _ | with_reducible refine below_alloc' ?_ _ | with_reducible refine below_step ?_ HM1.out | with_reducible refine below_step ?_ HM2.out | with_reducible refine below_drew ?_)); done)
  have HB3 := Lib.hid (HB2.out.more (below_step hm1 HM2.out))
  obtain ⟨⟨e0, e1⟩, -⟩ := (blk_put2 HB3.out (.slice Ad2 ds.length cd2) (.slice Av3 n cv3)).two
  have hbw := ((below_step HBA.out (below_step hm1 HM2.out)).setCell (p := ⟨w.heap.size + 1, 0, none⟩) (by simp) (.slice Ad2 ds.length cd2)).setCell (p := ⟨w.heap.size + 1, 1, none⟩) (by simp) (.slice Av3 n cv3)
  have hsz := HSZ.out
  have h23 := HM1.out.size
  have hd1 : wa.drew.heap.size = wa.heap.size := rfl
  refine bodyPost_ret (v := .agg #[.slice Ad2 ds.length cd2, .slice Av3 n cv3]) (by simp [results, Tryz.results80, go_sem, e0, e1]) rfl ?_
  exact ⟨_, _, rfl, DeclsAt.of_own (own_set (own_set (own_keep HO2.out HM2.out) (by simp; omega) _) (by simp; omega) _) (HDC.out.keep hbw), own_mono (own_set (own_set HO3.out (by simp; omega) _) (by simp; omega) _) (by omega), hbw⟩
end Go.Proofs.YtjboibbgigkhkaaGreatDoor

/- kernel.Do: one more declaration's bytes. -/
namespace Go.Proofs.YtjboibbgigkhkaaGreatDoor
open Go.RowKit
set_option maxRecDepth 100000

def dsQ (ds : List ND) (d : ND) (q : Bool) : List ND := if q then ds ++ [d] else ds
def csQ (cs cd : List Value) (q : Bool) : List Value := if q then cs ++ cd else cs
def errQ (q : Bool) : Int := if q then 0 else 10
def sideQ (q : Bool) : Int := if q then 0 else 2
/-- behind decl.Add, in these words -/
def AddQ (ds : List ND) (d : ND) (cs cd : List Value) (q : Bool) (w : World) (e : Ending) (w' : World) : Prop := ∃ V, e = .returned (.tuple #[V, .agg #[.int .i64 (errQ q), .int .i64 (sideQ q)]]) ∧ w'.ownsRow w.heap.size 50 7 V (dsQ ds d q).length (csQ cs cd q) ∧ Below w.heap.size w w'
theorem addq {ds : List ND} {d : ND} {cs cd : List Value} {q : Bool} {w w' : World} {e : Ending} (h : AddRawQ ds.length cs cd q w e w') : AddQ ds d cs cd q w e w' := by
  obtain ⟨V, h1, h2, h3⟩ := h
  refine ⟨V, ?_, ?_, h3⟩
  · rw [h1]; rfl
  · cases q with
    | false => exact h2
    | true => simpa [dsQ, csQ] using h2
theorem dcellsQ {w : World} {S : Nat → Prop} {ds : List ND} {d : ND} {dc : List Value} {s s' : Value} {q : Bool} (h : DCellsS w S ds dc) (h1 : argsInS w S d.2.1 s) (h2 : argsInS w S d.2.2 s') : DCellsS w S (dsQ ds d q) (csQ dc (dcell d s s') q) := by
  cases q with
  | false => exact h
  | true => exact h.snoc h1 h2
theorem DCells.toS {w : World} : ∀ {ds : List ND} {cs : List Value}, DCells w ds cs → DCellsS w (fun b => b < w.heap.size) ds cs
  | [], _, h => h
  | _ :: _, _, ⟨s, s', r, e, h1, h2, hr⟩ => ⟨s, s', r, e, h1, h2, hr.toS⟩
theorem own_far {w : World} {base : Nat} {e : TypeId} {size : Nat} {V : Value} {n : Nat} {xs : List Value} (h : w.ownsRow base e size V n xs) {p : Addr} (hp : V.ownBlock ≠ some p.block) (u : Value) : (w.setCell p u).ownsRow base e size V n xs := by
  refine ⟨h.1, ?_⟩
  rcases h.2 with h2 | ⟨g, cap, cur, h1, h2, h3, h4⟩
  · exact .inl h2
  · exact .inr ⟨g, cap, cur, h1, h2, (Below.heap_setCell _ _ _ _ (fun e => hp (by rw [h1, ← e]; rfl))).trans h3, h4⟩

/-- behind kernel.Do -/
def DoPost (S : Nat → Prop) (ds : List ND) (n : Nat) (cs : List Value) (w : World) (e : Ending) (w' : World) : Prop := ∃ D V dc, e = .returned (.agg #[D, V]) ∧ w'.ownsRow w.heap.size 50 7 D ds.length dc ∧ DCellsS w' (fun b => S b ∨ newFrom w w' b) ds dc ∧ w'.ownsRow w.heap.size 58 2 V n cs ∧ Below w.heap.size w w'

theorem vsat_own {w : World} {base n : Nat} {cs : List Value} {V : Value} (h : w.ownsRow base 58 2 V n cs) (hn : n ≤ 1000000) (h1 : ∀ u ∈ cs, u.oneCell' = true) : VsAt w n cs V := by
  obtain ⟨A, cap, rfl⟩ := ownF h
  exact ⟨A, cap, rfl, hn, h1, Reads.of_own h⟩
def doEnd (w w2 w9 : World) (V6 V9 : Value) : World := (((w9.setCell ⟨w2.heap.size, 0, none⟩ V6).setCell ⟨w2.heap.size, 1, none⟩ V9).setCell ⟨w.heap.size + 1, 0, none⟩ V6).setCell ⟨w.heap.size + 1, 1, none⟩ V9
theorem do_end {S : Nat → Prop} {w w1 w2 w3 w6 w9 : World} {o o' : Obj} {ds : List ND} {cs cs9 : List Value} {V2 V6 V9 : Value} {n : Nat} (h1 : w1.heap.size = w.heap.size + 2) (hb2 : w1.heap.size ≤ w2.heap.size) (h3 : w3.heap.size = w2.heap.size + 1) (hb6 : w3.heap.size ≤ w6.heap.size)
    (hSw : ∀ b, S b → b < w.heap.size) (hS : DCellsS w6 (fun b => S b ∨ (w3.heap.size ≤ b ∧ b < w6.heap.size)) ds cs) (hV6 : w6.ownsRow w3.heap.size 50 7 V6 ds.length cs)
    (hV2 : ∀ b, V2.ownBlock = some b → w1.heap.size ≤ b ∧ b < w2.heap.size) (hg : ((w6.alloc o).alloc o').grownBy w9 V2.ownBlock)
    (hV9 : w9.ownsRow w1.heap.size 58 2 V9 n cs9) (hbk : V9.ownBlock = V2.ownBlock ∨ V9.ownBlock = some (w6.heap.size + 1 + 1)) (hbw : Below w.heap.size w w6) :
    (doEnd w w2 w9 V6 V9).ownsRow w.heap.size 50 7 V6 ds.length cs ∧ DCellsS (doEnd w w2 w9 V6 V9) (fun b => S b ∨ newFrom w (doEnd w w2 w9 V6 V9) b) ds cs ∧ (doEnd w w2 w9 V6 V9).ownsRow w.heap.size 58 2 V9 n cs9 ∧ Below w.heap.size w (doEnd w w2 w9 V6 V9) := by
  have hba := below_alloc' (below_alloc' (Below.refl w6.heap.size w6) o) o'
  have hsz : w6.heap.size ≤ w9.heap.size := Nat.le_trans hba.size hg.size
  have hs0 : (doEnd w w2 w9 V6 V9).heap.size = w9.heap.size := by simp [doEnd, World.setCell]
  have h9 : Below w.heap.size w w9 := below_grown (below_step hbw hba) hg (fun k hk => by have := (hV2 k hk).1; omega)
  have hF : Below w.heap.size w (doEnd w w2 w9 V6 V9) := (((h9.setCell (by simp; omega) _).setCell (by simp; omega) _).setCell (by simp) _).setCell (by simp) _
  have hk : ∀ p : Addr, (p.block < w.heap.size ∨ (w3.heap.size ≤ p.block ∧ p.block < w6.heap.size)) → (doEnd w w2 w9 V6 V9).cell? p = w6.cell? p := fun p hp => by
    refine World.cell?_of_block ?_
    unfold doEnd
    rw [Below.heap_setCell _ _ _ _ (by simp; omega), Below.heap_setCell _ _ _ _ (by simp; omega), Below.heap_setCell _ _ _ _ (by simp; omega), Below.heap_setCell _ _ _ _ (by simp; omega)]
    have hw := hbw.size
    exact (hg.block p.block (by have := hba.size; omega) (fun e => by have := hV2 p.block e.symm; omega)).trans (hba.block p.block (by omega))
  have hC := hS.keep (w' := doEnd w w2 w9 V6 V9) (S' := fun b => S b ∨ newFrom w (doEnd w w2 w9 V6 V9) b) (fun b hb => hb.imp id (fun h => ⟨by omega, by rw [hs0]; omega⟩)) (fun p hp => hk p (hp.imp (hSw _) id))
  have hV6lt : ∀ b, V6.ownBlock = some b → w3.heap.size ≤ b ∧ b < w6.heap.size := fun b e => World.ownsRow.lt hV6 b e
  have hne : V6.ownBlock = none ∨ V6.ownBlock ≠ V2.ownBlock := by
    cases hv : V6.ownBlock with
    | none => exact .inl rfl
    | some g => exact .inr fun e => by have := hV6lt g hv; have := hV2 g e.symm; omega
  have hO6 : (doEnd w w2 w9 V6 V9).ownsRow w3.heap.size 50 7 V6 ds.length cs :=
    own_far (own_far (own_far (own_far (((hV6.alloc o).alloc o').kept hg hne) (fun e => by have := hV6lt _ e; simp at this; omega) _) (fun e => by have := hV6lt _ e; simp at this; omega) _) (fun e => by have := hV6lt _ e; simp at this; omega) _) (fun e => by have := hV6lt _ e; simp at this; omega) _
  have hlt9 : ∀ b, V9.ownBlock = some b → w1.heap.size ≤ b ∧ b ≠ w2.heap.size := fun b e => by
    refine ⟨(World.ownsRow.lt hV9 b e).1, ?_⟩
    rcases hbk with e' | e'
    · have := hV2 b (e'.symm.trans e); omega
    · have e2 := e'.symm.trans e
      simp only [Option.some.injEq] at e2
      omega
  have hO9 : (doEnd w w2 w9 V6 V9).ownsRow w1.heap.size 58 2 V9 n cs9 :=
    own_far (own_far (own_far (own_far hV9 (fun e => (hlt9 _ e).2 rfl) _) (fun e => (hlt9 _ e).2 rfl) _) (fun e => by have := (hlt9 _ e).1; simp at this; omega) _) (fun e => by have := (hlt9 _ e).1; simp at this; omega) _
  exact ⟨own_mono hO6 (by omega), hC, own_mono hO9 (by omega), hF⟩

set_option maxHeartbeats 3200000 in
theorem do_any (ds : List ND) (hI : InferC ds 400) (d : ND) (q : Bool) (hd : addable ds d = true) (hq : checkTop' (ds.map Prod.snd) 400 d.2.2 d.2.1 = some q) (hg : getD (bytesN d) = .ok ⟨d.1, d.2.1, d.2.2⟩) (hbl : (bytesN d).length ≤ 140737488355328) (n : Nat) (cs : List Value) (hn : n + 1 ≤ 1000000) (w : World) (D V bv : Value) (S : Nat → Prop) (hSw : ∀ b, S b → b < w.heap.size) (base : Nat) (dc : List Value)
    (hO : w.ownsRow base 50 7 D ds.length dc) (hdc : DCellsS w S ds dc) (hV : VsAt w n cs V) (hbv : bytesIn w w.heap.size (bytesN d) bv) :
    Calls Tryz.prog 48 #[.agg #[D, V], bv] w (DoPost S (dsQ ds d q) (n + 1) (cs ++ [.int .i64 (errQ q), .int .i64 (sideQ q)]) w) := by
  have hD : DeclsAt w ds D := DeclsAt.of_own hO (hdc.cells hSw)
  obtain ⟨DA, dcap, rfl⟩ := ownF hO
  have hrd := Reads.of_own hO
  have HSW := Lib.hid hSw
  obtain ⟨VA, vcap, rfl, -⟩ := id hV
  obtain ⟨BA, bcap, rfl, -⟩ := id hbv
  have hlen := addable_len hd
  have HP := Lib.hid (And.intro hI (And.intro hd hq))
  have HG := Lib.hid hg
  have h1c : ∀ u ∈ cs, u.oneCell' = true := by obtain ⟨_, _, _, _, h, _⟩ := hV; exact h
  have H1C := Lib.hid h1c
  obtain ⟨i0, hi0, hz0, hz1, hz2⟩ := info_parts Tryz.infoVerdict
  obtain ⟨w1, hw1⟩ : ∃ w1, w1 = (w.alloc (.cells #[.slice DA ds.length dcap, .slice VA n vcap] 53)).alloc (.cells #[.slice none 0 0, .slice none 0 0] 53) := ⟨_, rfl⟩
  have hba : Below w.heap.size w w1 := by rw [hw1]; exact below_alloc' (below_alloc' (Below.refl w.heap.size w) _) _
  have HBA := Lib.hid hba
  have HB0 := Lib.hid (show Blk w1 w.heap.size 53 #[.slice DA ds.length dcap, .slice VA n vcap] from by rw [hw1]; exact (Blk.new w _ _).alloc _)
  have HB1 := Lib.hid (show Blk w1 (w.heap.size + 1) 53 #[.slice none 0 0, .slice none 0 0] from by rw [hw1]; exact Blk.new' (by simp))
  have HS1 := Lib.hid (show w1.heap.size = w.heap.size + 2 from by rw [hw1]; simp)
  have HOW := Lib.hid (kown_any ds n cs w1 _ _ (hD.keep hba) (hV.keep hba) (by omega))
  have HDD := Lib.hid (And.intro hD (And.intro hdc (And.intro hrd hbv)))
  obtain ⟨⟨c0, c1⟩, -⟩ := HB0.out.two
  have HW1 := Lib.hid hw1
  clear hO hD hV hbv hdc hrd hI hd hq hg hba h1c hw1 hSw
  go_enter Tryz.func48, Tryz.ntmps48
  go_wp2_with fail
  rw [← HW1.out]
  go_wp2_with fail
  refine HOW.out.mono ?_
  rintro e w2 ⟨D2, V2, rfl, hd2, hv2, hb2⟩
  obtain ⟨A2, cap2, rfl⟩ := hd2.form
  obtain ⟨VA2, vcap2, rfl⟩ := ownF hv2
  have HV2 := Lib.hid (And.intro hv2 hb2)
  obtain ⟨⟨e0, e1⟩, -⟩ := (Blk.new w2 53 #[.slice A2 ds.length cap2, .slice VA2 n vcap2]).two
  have HB5 := Lib.hid (Blk.new w2 53 #[.slice A2 ds.length cap2, .slice VA2 n vcap2])
  have HS3 := Lib.hid (show (w2.alloc (.cells #[.slice A2 ds.length cap2, .slice VA2 n vcap2] 53)).heap.size = w2.heap.size + 1 by simp)
  have HL3 := Lib.hid (below_step hb2 (below_alloc' (Below.refl w2.heap.size w2) (.cells #[.slice A2 ds.length cap2, .slice VA2 n vcap2] 53)))
  have HL23 := Lib.hid (below_alloc' (Below.refl w2.heap.size w2) (.cells #[.slice A2 ds.length cap2, .slice VA2 n vcap2] 53))
  clear hd2 hv2 hb2 HOW c0 c1
  go_wp2_with fail
  generalize w2.alloc (.cells #[.slice A2 ds.length cap2, .slice VA2 n vcap2] 53) = w3 at *
  have HLW3 := Lib.hid (below_step HBA.out HL3.out)
  have hgd := getdn_any (bytesN d) w3 _ (HDD.out.2.2.2.keep HLW3.out.size HLW3.out) hbl
  rw [HG.out] at hgd
  refine hgd.mono ?_
  rintro e w4 ⟨v4, rfl, ⟨s, s', rfl, ha1, ha2⟩, hb4⟩
  obtain ⟨SA, ca, rfl, -⟩ := argsInS_iff.1 ha1
  obtain ⟨SB, cb, rfl, -⟩ := argsInS_iff.1 ha2
  have hba4 := below_alloc' (Below.refl w4.heap.size w4) (.cells #[.string ⟨d.1.toArray⟩, .int .i64 d.2.1.k, .int .i64 d.2.1.n, .slice SA d.2.1.al.length ca, .int .i64 d.2.2.k, .int .i64 d.2.2.n, .slice SB d.2.2.al.length cb] 50)
  have HA4 := Lib.hid (And.intro ha1 ha2)
  have HL4 := Lib.hid hb4
  have HL5 := Lib.hid hba4
  obtain ⟨⟨g0, g1, g2, g3, g4, g5, g6⟩, -⟩ := (Blk.new w4 50 #[.string ⟨d.1.toArray⟩, .int .i64 d.2.1.k, .int .i64 d.2.1.n, .slice SA d.2.1.al.length ca, .int .i64 d.2.2.k, .int .i64 d.2.2.n, .slice SB d.2.2.al.length cb]).seven
  obtain ⟨⟨c0, c1⟩, -⟩ := (((HB0.out.more HL3.out).more hb4).alloc (.cells #[.string ⟨d.1.toArray⟩, .int .i64 d.2.1.k, .int .i64 d.2.1.n, .slice SA d.2.1.al.length ca, .int .i64 d.2.2.k, .int .i64 d.2.2.n, .slice SB d.2.2.al.length cb] 50)).two
  have h0b : ((0 : Int) != 0) = false := by decide
  clear ha1 ha2 hb4 hba4 hgd
  go_wp2_with fail
  generalize w4.alloc (.cells #[.string ⟨d.1.toArray⟩, .int .i64 d.2.1.k, .int .i64 d.2.1.n, .slice SA d.2.1.al.length ca, .int .i64 d.2.2.k, .int .i64 d.2.2.n, .slice SB d.2.2.al.length cb] 50) = w5 at *
  have HL35 := Lib.hid (below_step HL4.out HL5.out)
  have HLW5 := Lib.hid (below_step HLW3.out HL35.out)
  refine (show Calls Tryz.prog 52 _ w5 (AddQ ds d dc (dcell d (.slice SA d.2.1.al.length ca) (.slice SB d.2.2.al.length cb)) q w5) from (add_raw ds HP.out.1 d q HP.out.2.1 (by have := hlen.2; omega) HP.out.2.2 w5 DA dcap dc _ _ (HDD.out.1.keep HLW5.out) ((HDD.out.2.1.cells HSW.out).keep HLW5.out) ((HDD.out.2.2.1.below HLW5.out).more HLW5.out.size)
    (argsInS.keep HA4.out.1 (fun _ h => Nat.lt_of_lt_of_le h.2 HL5.out.size) (fun p hp => HL5.out.cell hp.2)) (argsInS.keep HA4.out.2 (fun _ h => Nat.lt_of_lt_of_le h.2 HL5.out.size) (fun p hp => HL5.out.cell hp.2))).mono fun e w' h => addq h).mono ?_
  rintro e w6 ⟨V6, rfl, hown6, hb6⟩
  obtain ⟨A6, cap6, rfl⟩ := ownF hown6
  have HO6 := Lib.hid hown6
  have HL56 := Lib.hid hb6
  have HL36 := Lib.hid (below_step HL35.out hb6)
  have HL26 := Lib.hid (below_step HL23.out HL36.out)
  have HLW6 := Lib.hid (below_step HLW3.out HL36.out)
  have HVL := Lib.hid (show ∀ b, (Value.slice VA2 n vcap2).ownBlock = some b → w1.heap.size ≤ b ∧ b < w2.heap.size from fun b e => World.ownsRow.lt HV2.out.1 b e)
  have HOA := Lib.hid (((own_keep HV2.out.1 HL26.out).alloc (.cells #[.int .i64 (errQ q), .int .i64 (sideQ q)] 58)).alloc (.cells #[.int .i64 (errQ q), .int .i64 (sideQ q)] 58))
  have HSZ := Lib.hid (show w1.heap.size ≤ w6.heap.size from Nat.le_trans HL3.out.size HL36.out.size)
  have HB5b := Lib.hid (((HB5.out.more HL36.out).alloc (.cells #[.int .i64 (errQ q), .int .i64 (sideQ q)] 58)).alloc (.cells #[.int .i64 (errQ q), .int .i64 (sideQ q)] 58))
  have HB1b := Lib.hid ((((HB1.out.more HL3.out).more HL36.out).alloc (.cells #[.int .i64 (errQ q), .int .i64 (sideQ q)] 58)).alloc (.cells #[.int .i64 (errQ q), .int .i64 (sideQ q)] 58))
  obtain ⟨⟨v0, v1⟩, -⟩ := (Blk.new w6 58 #[.int .i64 (errQ q), .int .i64 (sideQ q)]).two
  obtain ⟨⟨x0, x1⟩, -⟩ := ((HB5.out.more HL36.out).alloc (.cells #[.int .i64 (errQ q), .int .i64 (sideQ q)] 58)).two
  have hl1 : n + 1 ≤ maxLen := by unfold maxLen; omega
  have hl2 : (n + 1) * 16 ≤ 140737488355328 := by omega
  clear hown6 hb6 g0 g1 g2 g3 g4 g5 g6 e0 e1 c0 c1
  go_wp2_with (first | (at_builtin; go_loud (refine wpList_append_any _ rfl (.tmp 36) (.tmp 38) 51 rfl w1.heap.size 58 i0 _ 2 16 Tryz.underlying51 hi0 hz0 hz1 hz2 rfl (by decide) _ n cs rfl HOA.out _ _ 1 1 [.int .i64 (errQ q), .int .i64 (sideQ q)] rfl (reads_two (Blk.new' (t := 58) (by simp))) (by intro u hu; simp at hu; rcases hu with rfl | rfl <;> rfl) hl1 hl2 (by have := HSZ.out; simp; omega) ?_)))
  intro V9 w9 hown9 hgr9 hbk
  obtain ⟨VA9, vc9, rfl⟩ := ownF hown9
  have hs1 := HS1.out
  have hB5 := HB5b.out.grown hgr9 (fun e => by have := (HVL.out _ e.symm).2; omega)
  have hB1 := HB1b.out.grown hgr9 (fun e => by have := (HVL.out _ e.symm).1; omega)
  have HE := Lib.hid (do_end HS1.out (Nat.le_trans (Nat.le_refl _) HV2.out.2.size) HS3.out HL36.out.size HSW.out (dcellsQ (q := q) ((HDD.out.2.1.keep (w' := w6) (S' := fun b => S b ∨ (w3.heap.size ≤ b ∧ b < w6.heap.size)) (fun b hb => .inl hb) (fun p hp => HLW6.out.cell (HSW.out _ hp))))
    (HA4.out.1.keep (w' := w6) (fun b hb => .inr ⟨hb.1, Nat.lt_of_lt_of_le hb.2 (Nat.le_trans HL5.out.size HL56.out.size)⟩) (fun p hp => (below_step HL5.out HL56.out).cell hp.2)) (HA4.out.2.keep (w' := w6) (fun b hb => .inr ⟨hb.1, Nat.lt_of_lt_of_le hb.2 (Nat.le_trans HL5.out.size HL56.out.size)⟩) (fun p hp => (below_step HL5.out HL56.out).cell hp.2)))
    (own_mono HO6.out HL35.out.size) HVL.out hgr9 hown9 (by simpa using hbk) HLW6.out)
  obtain ⟨⟨y0, y1⟩, yf0, yf1⟩ := hB5.two
  have hB5s := blk_put2 hB5 (.slice A6 (dsQ ds d q).length cap6) (.slice VA9 (n + 1) vc9)
  obtain ⟨⟨z0, z1⟩, -⟩ := hB5s.two
  have hne : w.heap.size + 1 ≠ w2.heap.size := by have := HV2.out.2.size; omega
  have hB1s := (hB1.far (p := ⟨w2.heap.size, 0, none⟩) hne (.slice A6 (dsQ ds d q).length cap6)).far (p := ⟨w2.heap.size, 1, none⟩) hne (.slice VA9 (n + 1) vc9)
  obtain ⟨⟨t0, t1⟩, tf0, tf1⟩ := hB1s.two
  obtain ⟨⟨r0, r1⟩, -⟩ := (blk_put2 hB1s (.slice A6 (dsQ ds d q).length cap6) (.slice VA9 (n + 1) vc9)).two
  clear hgr9 hown9 hbk hB5 hB1 hB5s hB1s
  go_wp2_with fail
  refine bodyPost_ret (v := .agg #[.slice A6 (dsQ ds d q).length cap6, .slice VA9 (n + 1) vc9]) (by simp [results, Tryz.results48, go_sem, r0, r1]) rfl ?_
  exact ⟨_, _, _, rfl, HE.out.1, HE.out.2.1, HE.out.2.2.1, HE.out.2.2.2⟩
end Go.Proofs.YtjboibbgigkhkaaGreatDoor

/- kernel.All: declarations' bytes, one behind the other. -/
namespace Go.Proofs.YtjboibbgigkhkaaGreatDoor
open Go.RowKit
set_option maxRecDepth 100000

/-- each of these is looked at, behind those before it -/
def AllP (ds : List ND) : List (ND × Bool) → Prop
  | [] => True
  | (d, q) :: r => (addable ds d = true ∧ checkTop' (ds.map Prod.snd) 400 d.2.2 d.2.1 = some q ∧ getD (bytesN d) = .ok ⟨d.1, d.2.1, d.2.2⟩ ∧ (bytesN d).length ≤ 1000000) ∧ AllP (dsQ ds d q) r
def endD (ds : List ND) : List (ND × Bool) → List ND
  | [] => ds
  | (d, q) :: r => endD (dsQ ds d q) r
def endV (cs : List Value) : List (ND × Bool) → List Value
  | [] => cs
  | (_, q) :: r => endV (cs ++ [.int .i64 (errQ q), .int .i64 (sideQ q)]) r

/-- what the loop has -/
structure KA (w : World) (ds : List ND) (n : Nat) (cs : List Value) (D V : Value) (dc : List Value) (wr : World) : Prop where
  b0 : Blk wr w.heap.size 53 #[.slice none 0 0, .slice none 0 0]
  b1 : Blk wr (w.heap.size + 1) 53 #[D, V]
  out : wr.ownsRow (w.heap.size + 2) 50 7 D ds.length dc
  cells : DCellsS wr (fun b => w.heap.size + 2 ≤ b ∧ b < wr.heap.size) ds dc
  vs : wr.ownsRow (w.heap.size + 2) 58 2 V n cs
  low : Below w.heap.size w wr
  size : w.heap.size + 2 ≤ wr.heap.size
theorem ka_new (w : World) : KA w [] 0 [] (.slice none 0 0) (.slice none 0 0) [] ((w.alloc (.cells #[.slice none 0 0, .slice none 0 0] 53)).alloc (.cells #[.slice none 0 0, .slice none 0 0] 53)) :=
  ⟨(Blk.new w _ _).alloc _, Blk.new' (by simp), World.ownsRow_nil _ _ _ _, rfl, World.ownsRow_nil _ _ _ _, below_alloc' (below_alloc' (Below.refl _ _) _) _, by simp⟩
theorem KA.next {w wr w4 : World} {ds ds' : List ND} {n n' : Nat} {cs cs' : List Value} {D V D' V' : Value} {dc dc' : List Value} (h : KA w ds n cs D V dc wr) (hb : Below wr.heap.size wr w4) (hO : w4.ownsRow wr.heap.size 50 7 D' ds'.length dc')
    (hC : DCellsS w4 (fun b => (w.heap.size + 2 ≤ b ∧ b < wr.heap.size) ∨ newFrom wr w4 b) ds' dc') (hV : w4.ownsRow wr.heap.size 58 2 V' n' cs') :
    KA w ds' n' cs' D' V' dc' ((w4.setCell ⟨w.heap.size + 1, 0, none⟩ D').setCell ⟨w.heap.size + 1, 1, none⟩ V') := by
  have hsz : ∀ (v : World) (a : Addr) (u : Value), (v.setCell a u).heap.size = v.heap.size := fun v a u => by simp [World.setCell]
  have h1 := h.size
  have h2 := hb.size
  refine ⟨((h.b0.more hb).far (by simp) _).far (by simp) _, blk_put2 (h.b1.more hb) _ _, own_set (own_set (own_mono hO h1) (by simp) _) (by simp) _, hC.keep (fun b hb' => ?_) (fun p hp => ?_), own_set (own_set (own_mono hV h1) (by simp) _) (by simp) _, (((below_step h.low hb)).setCell (by simp) _).setCell (by simp) _, by rw [hsz, hsz]; omega⟩
  · rw [hsz, hsz]
    rcases hb' with hb' | hb'
    · omega
    · have := hb'.1; have := hb'.2; omega
  · refine World.cell?_of_block ?_
    have h3 : w.heap.size + 2 ≤ p.block := by rcases hp with hp | hp; exact hp.1; exact Nat.le_trans h1 hp.1
    rw [Below.heap_setCell _ _ _ _ (by simp; omega), Below.heap_setCell _ _ _ _ (by simp; omega)]

theorem KA.fin {w wr : World} {ds : List ND} {n : Nat} {cs : List Value} {D V : Value} {dc : List Value} (h : KA w ds n cs D V dc wr) :
    DeclsAt ((wr.setCell ⟨w.heap.size, 0, none⟩ D).setCell ⟨w.heap.size, 1, none⟩ V) ds D ∧ ((wr.setCell ⟨w.heap.size, 0, none⟩ D).setCell ⟨w.heap.size, 1, none⟩ V).ownsRow w.heap.size 58 2 V n cs ∧ Below w.heap.size w ((wr.setCell ⟨w.heap.size, 0, none⟩ D).setCell ⟨w.heap.size, 1, none⟩ V) := by
  have hsz : ∀ (v : World) (a : Addr) (u : Value), (v.setCell a u).heap.size = v.heap.size := fun v a u => by simp [World.setCell]
  refine ⟨DeclsAt.of_own (own_set (own_set h.out (by simp) _) (by simp) _) ((h.cells.keep (S' := fun b => b < wr.heap.size) (fun b hb => hb.2) (fun p hp => ?_)).cells (fun b hb => by rw [hsz, hsz]; exact hb)), own_mono (own_set (own_set h.vs (by simp) _) (by simp) _) (by omega), (h.low.setCell (by simp) _).setCell (by simp) _⟩
  refine World.cell?_of_block ?_
  have := hp.1
  rw [Below.heap_setCell _ _ _ _ (by simp; omega), Below.heap_setCell _ _ _ _ (by simp; omega)]
theorem own_at {w : World} {base : Nat} {t : TypeId} {n cap : Nat} {A : Option Addr} {xs : List Value} (h : w.ownsRow base t 1 (.slice A n cap) n xs) {k : Nat} {x : Value} (hx : xs[k]? = some x) (hk : k < n) : ∃ b off, A = some ⟨b, off, none⟩ ∧ w.cell? ⟨b, off + k, none⟩ = some x := by
  rcases h.2 with ⟨-, h0⟩ | ⟨g, c, cur, e, -⟩
  · omega
  · cases e
    have := h.cells (g := g) rfl k x hx
    rw [Go.WideShapes.add_plain] at this
    exact ⟨g, 0, rfl, this⟩

/-- behind kernel.All -/
def AllPost (ds : List ND) (n : Nat) (cs : List Value) (w : World) (e : Ending) (w' : World) : Prop := ∃ D V, e = .returned (.agg #[D, V]) ∧ DeclsAt w' ds D ∧ w'.ownsRow w.heap.size 58 2 V n cs ∧ Below w.heap.size w w'

set_option maxHeartbeats 1600000 in
theorem kall_any (hI : ∀ ds' : List ND, ds'.length ≤ 1000000 → InferC ds' 400) (l : List (ND × Bool)) (hA : AllP [] l) (hl : l.length ≤ 1000) (w : World) (base : Nat) (V : Value) (vs : List Value) (hV : w.ownsRow base 84 1 V l.length vs) (hB : BsS w (fun b => b < w.heap.size) (l.map Prod.fst) vs) :
    Calls Tryz.prog 24 #[V] w (AllPost (endD [] l) l.length (endV [] l) w) := by
  obtain ⟨A, cap, rfl⟩ := ownF hV
  have HV := Lib.hid (And.intro hV hB)
  have HI := Lib.hid hI
  have HA := Lib.hid hA
  clear hV hB hI hA
  go_enter Tryz.func24, Tryz.ntmps24
  go_wp2_with fail
  go_loopw [8] (fun iv wr => ∃ (k : Nat) (ds : List ND) (cs : List Value) (D V : Value) (dc : List Value), k ≤ l.length ∧ iv = .int .i64 k ∧ KA w ds k cs D V dc wr ∧ Hid (AllP ds (l.drop k) ∧ endD ds (l.drop k) = endD [] l ∧ endV cs (l.drop k) = endV [] l ∧ ∀ u ∈ cs, u.oneCell' = true) ∧ ds.length ≤ 12) (fun iv _ => l.length - (intOf iv).toNat)
  case atStart => exact ⟨0, [], [], _, _, [], Nat.zero_le _, rfl, ka_new w, Lib.hid ⟨HA.out, rfl, rfl, by simp⟩, by simp⟩
  case round =>
    obtain ⟨k, ds, cs, D, V, dc, hk, rfl, hK, hL, hd12⟩ := hrel
    have HK := Lib.hid hK
    obtain ⟨DA, dcap, rfl⟩ := ownF hK.out
    obtain ⟨VA, vcap, rfl⟩ := ownF hK.vs
    clear hK
    obtain ⟨⟨c0, c1⟩, -⟩ := HK.out.b1.two
    by_cases hlt : k < l.length
    · obtain ⟨⟨d, q⟩, hd⟩ : ∃ x, l[k]? = some x := ⟨_, List.getElem?_eq_getElem hlt⟩
      have hdr : l.drop k = (d, q) :: l.drop (k + 1) := by rw [List.drop_eq_getElem_cons hlt, (List.getElem?_eq_some_iff.1 hd).2]
      have hl2 := hL.out
      rw [hdr] at hl2
      obtain ⟨⟨⟨had, hq, hg, hbl⟩, hr⟩, he, hv, h1c⟩ := hl2
      have hlen := addable_len had
      obtain ⟨x, hx, hxb⟩ := HV.out.2.at_ k d (by simp [hd])
      have hcx : ∃ b off, A = some ⟨b, off, none⟩ ∧ wr.cell? ⟨b, off + k, none⟩ = some x := by
        obtain ⟨b, off, e, h⟩ := own_at HV.out.1 hx hlt
        exact ⟨b, off, e, cell_keep HK.out.low h⟩
      obtain ⟨b, off, rfl, hcx⟩ := hcx
      obtain ⟨XA, xcap, rfl, -⟩ := id hxb
      have HX := Lib.hid ((hxb.toB (B := w.heap.size) (fun b h => h)).keep HK.out.low.size HK.out.low)
      have HDO := Lib.hid (do_any ds (HI.out ds (by omega)) d q had hq hg (by omega) k cs (by omega) wr _ _ _ _ (fun b hb => hb.2) _ dc HK.out.out HK.out.cells (vsat_own HK.out.vs (by omega) h1c) HX.out)
      have HL3 := Lib.hid (And.intro hr (And.intro he (And.intro hv (show ∀ u ∈ cs ++ [.int .i64 (errQ q), .int .i64 (sideQ q)], u.oneCell' = true from by
        intro u hu
        rcases List.mem_append.1 hu with hu | hu
        · exact h1c u hu
        · simp at hu; rcases hu with rfl | rfl <;> rfl))))
      have hln : (dsQ ds d q).length ≤ 12 := by cases q <;> simp [dsQ] <;> omega
      clear hd hdr hL had hq hg hbl hr he hv hx hxb h1c
      go_wp2_with fail
      refine HDO.out.mono ?_
      rintro e w4 ⟨D4, V4, dc4, rfl, hO4, hC4, hV4, hb4⟩
      obtain ⟨DA4, dcap4, rfl⟩ := ownF hO4
      obtain ⟨VA4, vcap4, rfl⟩ := ownF hV4
      have HK4 := Lib.hid (HK.out.next hb4 hO4 hC4 hV4)
      obtain ⟨⟨e0, e1⟩, ef0, ef1⟩ := (HK.out.b1.more hb4).two
      clear hO4 hC4 hV4 hb4 c0 c1 hcx
      go_wp2_with fail
      go_roundw
      case rel => exact ⟨k + 1, dsQ ds d q, _, _, _, _, by omega, by go_num, HK4.out, HL3, hln⟩
      case measure => simp [intOf]; omega
    · obtain rfl : k = l.length := by omega
      have hl2 := hL.out
      rw [List.drop_length] at hl2
      obtain ⟨-, he, hv, -⟩ := hl2
      have HE := Lib.hid (And.intro he hv)
      obtain ⟨⟨e0, e1⟩, ef0, ef1⟩ := HK.out.b0.two
      obtain ⟨⟨r0, r1⟩, -⟩ := (blk_put2 HK.out.b0 (.slice DA ds.length dcap) (.slice VA l.length vcap)).two
      clear hL he hv
      go_wp2_with fail
      refine bodyPost_ret (v := .agg #[.slice DA ds.length dcap, .slice VA l.length vcap]) (by simp [results, Tryz.results24, go_sem, r0, r1]) rfl ?_
      have h1 := HE.out.1
      have h2 := HE.out.2
      rw [endD] at h1
      rw [endV] at h2
      rw [← h1, ← h2]
      exact ⟨_, _, rfl, HK.out.fin.1, HK.out.fin.2.1, HK.out.fin.2.2⟩
end Go.Proofs.YtjboibbgigkhkaaGreatDoor

/- The plain law of TopProof: which declarations are taken. -/
namespace Go.Proofs.YtjboibbgigkhkaaGreatDoor
set_option maxRecDepth 100000

theorem getDN_bytes (d : D) (hn : d.name.length < 256) (h1 : wrong d.type 200 200 = 0) (h2 : wrong d.body 200 200 = 0) : getD (declBytes d) = .ok d := by
  have hw1 := (wrong_zero h1).1
  have hw2 := (wrong_zero h2).1
  have hl : (UInt8.ofNat d.name.length).toNat = d.name.length := by have := u8_len hn; omega
  have g1 := (get_bytes 200 (by omega)).1 d.type 200 24 (bytesT d.body) (by omega) hw1
  have g2 := (get_bytes 200 (by omega)).1 d.body 200 24 [] (by omega) hw2
  rw [List.append_nil] at g2
  unfold declBytes getD
  dsimp only
  rw [hl, if_neg (by simp), List.drop_left, g1]
  dsimp only
  rw [g2]
  dsimp only
  rw [if_pos rfl, List.take_left]

def proofN (a b c : Nat) : ND := ([112, 114, 111, 111, 102], isT a b c, .mk 11 0 [])
def fiveN (a b c : Nat) : List ND := fourN ++ [proofN a b c]
def fiveQ (a b c : Nat) : List (ND × Bool) := fourN.map (fun d => (d, true)) ++ [(proofN a b c, decide (a + b = c))]
/-- what is asked of a declaration, but for what its bytes read as -/
def fitN (d : ND) : Bool := decide (d.1.length < 256) && wrong d.2.1 200 200 == 0 && wrong d.2.2 200 200 == 0 && decide ((bytesT d.2.1).length ≤ 1000) && decide ((bytesT d.2.2).length ≤ 1000)
theorem fit_four : fourN.all fitN = true := by decide +kernel
theorem fit_proof : ∀ a < 9, ∀ b < 9, ∀ c < 17, fitN (proofN a b c) = true := by decide +kernel
theorem add_proof : ∀ a < 9, ∀ b < 9, ∀ c < 17, addable fourN (proofN a b c) = true := by decide +kernel
theorem add_one : addable [] ([97, 100, 100], dAdd) = true := by decide +kernel
theorem add_two : addable [([97, 100, 100], dAdd)] ([109, 117, 108], dMul) = true := by decide +kernel
theorem add_three : addable [([97, 100, 100], dAdd), ([109, 117, 108], dMul)] ([115, 119, 97, 112], dSwap) = true := by decide +kernel
theorem add_four : addable [([97, 100, 100], dAdd), ([109, 117, 108], dMul), ([115, 119, 97, 112], dSwap)] ([105, 115], dIs) = true := by decide +kernel
theorem fit_get {d : ND} (h : fitN d = true) : getD (bytesN d) = .ok ⟨d.1, d.2.1, d.2.2⟩ ∧ (bytesN d).length ≤ 1000000 ∧ d.1.length < 256 ∧ (bytesT d.2.1).length ≤ 1000 ∧ (bytesT d.2.2).length ≤ 1000 := by
  unfold fitN at h
  simp only [Bool.and_eq_true, decide_eq_true_eq, beq_iff_eq] at h
  obtain ⟨⟨⟨⟨h1, h2⟩, h3⟩, h4⟩, h5⟩ := h
  refine ⟨getDN_bytes ⟨d.1, d.2.1, d.2.2⟩ h1 h2 h3, ?_, h1, h4, h5⟩
  unfold bytesN declBytes
  simp only [List.length_cons, List.length_append]
  omega
theorem fit_five {a b c : Nat} (ha : a < 9) (hb : b < 9) (hc : c < 17) : ∀ d ∈ fiveN a b c, fitN d = true := by
  intro d hd
  rcases List.mem_append.1 hd with h | h
  · exact List.all_eq_true.1 fit_four d h
  · rw [List.mem_singleton.1 h]; exact fit_proof a ha b hb c hc
theorem allp_five {a b c : Nat} (ha : a < 9) (hb : b < 9) (hc : c < 17) : AllP [] (fiveQ a b c) := by
  have hf := fit_five ha hb hc
  have g : ∀ d ∈ fiveN a b c, getD (bytesN d) = .ok ⟨d.1, d.2.1, d.2.2⟩ ∧ (bytesN d).length ≤ 1000000 := fun d hd => ⟨(fit_get (hf d hd)).1, (fit_get (hf d hd)).2.1⟩
  exact ⟨⟨add_one, four_1.2, g _ (by simp [fiveN, fourN])⟩, ⟨add_two, four_2.2, g _ (by simp [fiveN, fourN])⟩, ⟨add_three, four_3.2, g _ (by simp [fiveN, fourN])⟩, ⟨add_four, four_4.2, g _ (by simp [fiveN, fourN])⟩, ⟨add_proof a ha b hb c hc, (proof_at a ha b hb c hc).2, g _ (by simp [fiveN, fourN])⟩, trivial⟩
theorem fst_five (a b c : Nat) : (fiveQ a b c).map Prod.fst = fiveN a b c := rfl
theorem endD_five (a b c : Nat) : endD [] (fiveQ a b c) = dsQ fourN (proofN a b c) (decide (a + b = c)) := rfl
theorem endV_five (a b c : Nat) : endV [] (fiveQ a b c) = [.int .i64 0, .int .i64 0, .int .i64 0, .int .i64 0, .int .i64 0, .int .i64 0, .int .i64 0, .int .i64 0, .int .i64 (errQ (decide (a + b = c))), .int .i64 (sideQ (decide (a + b = c)))] := rfl
end Go.Proofs.YtjboibbgigkhkaaGreatDoor

/- sktop.TopProof answers true. -/
namespace Go.Proofs.YtjboibbgigkhkaaGreatDoor
open Go.RowKit
set_option maxRecDepth 100000

theorem own_five {w : World} {base : Nat} {t : TypeId} {cap : Nat} {A : Option Addr} {xs : List Value} {a b : Value} (h : w.ownsRow base t 2 (.slice A 5 cap) 5 xs) (ha : xs[8]? = some a) (hb : xs[9]? = some b) : ∃ g, A = some ⟨g, 0, none⟩ ∧ w.cell? ⟨g, 8, none⟩ = some a ∧ w.cell? ⟨g, 9, none⟩ = some b := by
  rcases h.2 with ⟨-, h0⟩ | ⟨g, c, cur, e, -⟩
  · omega
  · cases e
    have h1 := h.cells (g := g) rfl 8 a ha
    have h2 := h.cells (g := g) rfl 9 b hb
    rw [Go.WideShapes.add_plain] at h1 h2
    exact ⟨g, rfl, h1, h2⟩

set_option maxHeartbeats 6400000 in
theorem lawproof_any (hI : AllC) (a b c : Int) (w : World) (hV : VarsM w) : Calls Tryz.prog 6 #[.int .i64 a, .int .i64 b, .int .i64 c] w (StrPost (.bool true) w) := by
  have HV := Lib.hid hV
  have HI := Lib.hid hI
  clear hV hI
  by_cases ha0 : a < 0
  · go_enter Tryz.func6, Tryz.ntmps6
    go_wp2_with fail
    refine (alive_top HI.out w HV.out).mono ?_
    rintro e w1 ⟨rfl, hb1⟩
    go_wp2_with fail
    go_ret
    exact ⟨rfl, hb1⟩
  by_cases ha1 : 8 < a
  · go_enter Tryz.func6, Tryz.ntmps6
    go_wp2_with fail
    refine (alive_top HI.out w HV.out).mono ?_
    rintro e w1 ⟨rfl, hb1⟩
    go_wp2_with fail
    go_ret
    exact ⟨rfl, hb1⟩
  by_cases hb0 : b < 0
  · go_enter Tryz.func6, Tryz.ntmps6
    go_wp2_with fail
    refine (alive_top HI.out w HV.out).mono ?_
    rintro e w1 ⟨rfl, hb1⟩
    go_wp2_with fail
    go_ret
    exact ⟨rfl, hb1⟩
  by_cases hb1' : 8 < b
  · go_enter Tryz.func6, Tryz.ntmps6
    go_wp2_with fail
    refine (alive_top HI.out w HV.out).mono ?_
    rintro e w1 ⟨rfl, hb1⟩
    go_wp2_with fail
    go_ret
    exact ⟨rfl, hb1⟩
  by_cases hc0 : c < 0
  · go_enter Tryz.func6, Tryz.ntmps6
    go_wp2_with fail
    refine (alive_top HI.out w HV.out).mono ?_
    rintro e w1 ⟨rfl, hb1⟩
    go_wp2_with fail
    go_ret
    exact ⟨rfl, hb1⟩
  by_cases hc1' : 16 < c
  · go_enter Tryz.func6, Tryz.ntmps6
    go_wp2_with fail
    refine (alive_top HI.out w HV.out).mono ?_
    rintro e w1 ⟨rfl, hb1⟩
    go_wp2_with fail
    go_ret
    exact ⟨rfl, hb1⟩
  obtain ⟨x, rfl⟩ := Int.eq_ofNat_of_zero_le (Int.not_lt.1 ha0)
  obtain ⟨y, rfl⟩ := Int.eq_ofNat_of_zero_le (Int.not_lt.1 hb0)
  obtain ⟨z, rfl⟩ := Int.eq_ofNat_of_zero_le (Int.not_lt.1 hc0)
  have hx : x < 9 := by omega
  have hy : y < 9 := by omega
  have hz : z < 17 := by omega
  have HXY := Lib.hid (And.intro hx (And.intro hy hz))
  go_enter Tryz.func6, Tryz.ntmps6
  go_wp2_with fail
  refine (alive_top HI.out w HV.out).mono ?_
  rintro e w1 ⟨rfl, hb1⟩
  have HB1 := Lib.hid hb1
  clear hb1
  go_wp2_with fail
  refine (loaded_top HI.out w1 (HV.out.below HB1.out)).mono ?_
  rintro e w2 ⟨A, rfl, hD, hb2⟩
  have HB2 := Lib.hid (below_step HB1.out hb2)
  have HD2 := Lib.hid hD
  clear hb2 hD
  go_wp2_with fail
  refine (app_two 0 x y (by omega) (by omega) _ _ (Blk.new w2 _ _)).mono ?_
  rintro e w3 ⟨s3, rfl, ht3, hb3⟩
  have hb3' := below_step (below_alloc' (Below.refl w2.heap.size w2) _) hb3
  have HB3 := Lib.hid (below_step HB2.out hb3')
  have HD3 := Lib.hid (HD2.out.keep hb3')
  have HT3 := Lib.hid (new_in ht3)
  obtain ⟨A3, c3, rfl, -⟩ := argsInS_iff.1 ht3
  clear hb3 hb3' ht3
  go_wp2_with fail
  have HR0 := Lib.hid (Blk.new w3 30 #[.int .i64 18, .int .i64 3, .slice none 0 0, .int .i64 (appP 0 [x, y]).k, .int .i64 (appP 0 [x, y]).n, .slice A3 (appP 0 [x, y]).al.length c3])
  refine (numeral_any z (by omega) _).mono ?_
  rintro e w4 ⟨s4, rfl, ht4, hb4⟩
  obtain ⟨A4, c4, rfl, -⟩ := argsInS_iff.1 ht4
  have hb34 := below_step (below_alloc' (Below.refl w3.heap.size w3) (.cells #[.int .i64 18, .int .i64 3, .slice none 0 0, .int .i64 (appP 0 [x, y]).k, .int .i64 (appP 0 [x, y]).n, .slice A3 (appP 0 [x, y]).al.length c3] 30)) hb4
  have HB4 := Lib.hid (below_step HB3.out hb34)
  have HD4 := Lib.hid (HD3.out.keep hb34)
  have ha1 : argsIn w4 w4.heap.size (tAp (tD 3) (appP 0 [x, y])) (.slice (some ⟨w3.heap.size, 0, none⟩) 2 2) := argsS_two (x := tD 3) (y := appP 0 [x, y]) (HR0.out.more hb4) (HR0.out.more hb4).lt (args_none _ _ _ _) (argsIn.keep HT3.out hb34.size hb34)
  have hl1 := below_alloc' (Below.refl w4.heap.size w4) (.cells #[.int .i64 5, .int .i64 0, .slice (some ⟨w3.heap.size, 0, none⟩) 2 2, .int .i64 (numeralP z).k, .int .i64 (numeralP z).n, .slice A4 (numeralP z).al.length c4] 30)
  have ha2 : argsIn (w4.alloc (.cells #[.int .i64 5, .int .i64 0, .slice (some ⟨w3.heap.size, 0, none⟩) 2 2, .int .i64 (numeralP z).k, .int .i64 (numeralP z).n, .slice A4 (numeralP z).al.length c4] 30)) (w4.alloc (.cells #[.int .i64 5, .int .i64 0, .slice (some ⟨w3.heap.size, 0, none⟩) 2 2, .int .i64 (numeralP z).k, .int .i64 (numeralP z).n, .slice A4 (numeralP z).al.length c4] 30)).heap.size (isT x y z) (.slice (some ⟨w4.heap.size, 0, none⟩) 2 2) := argsS_two (x := tAp (tD 3) (appP 0 [x, y])) (y := numeralP z) (Blk.new w4 _ _) (Blk.new w4 _ _).lt (argsIn.keep ha1 hl1.size hl1) (argsIn.keep (new_in ht4) hl1.size hl1)
  have hl2 := below_alloc' (below_alloc' (below_alloc' (Below.refl (w4.alloc (.cells #[.int .i64 5, .int .i64 0, .slice (some ⟨w3.heap.size, 0, none⟩) 2 2, .int .i64 (numeralP z).k, .int .i64 (numeralP z).n, .slice A4 (numeralP z).al.length c4] 30)).heap.size (w4.alloc (.cells #[.int .i64 5, .int .i64 0, .slice (some ⟨w3.heap.size, 0, none⟩) 2 2, .int .i64 (numeralP z).k, .int .i64 (numeralP z).n, .slice A4 (numeralP z).al.length c4] 30))) (.cells #[.int .i64 5, .int .i64 0, .slice (some ⟨w4.heap.size, 0, none⟩) 2 2] 30)) (.cells #[.string ⟨#[112, 114, 111, 111, 102]⟩, .int .i64 5, .int .i64 0, .slice (some ⟨w4.heap.size, 0, none⟩) 2 2, .int .i64 11, .int .i64 0, .slice none 0 0] 50)) (.cells #[.string ⟨#[112, 114, 111, 111, 102]⟩, .int .i64 5, .int .i64 0, .slice (some ⟨w4.heap.size, 0, none⟩) 2 2, .int .i64 11, .int .i64 0, .slice none 0 0] 50)
  have HA5 := Lib.hid (show argsIn ((((w4.alloc (.cells #[.int .i64 5, .int .i64 0, .slice (some ⟨w3.heap.size, 0, none⟩) 2 2, .int .i64 (numeralP z).k, .int .i64 (numeralP z).n, .slice A4 (numeralP z).al.length c4] 30)).alloc (.cells #[.int .i64 5, .int .i64 0, .slice (some ⟨w4.heap.size, 0, none⟩) 2 2] 30)).alloc (.cells #[.string ⟨#[112, 114, 111, 111, 102]⟩, .int .i64 5, .int .i64 0, .slice (some ⟨w4.heap.size, 0, none⟩) 2 2, .int .i64 11, .int .i64 0, .slice none 0 0] 50)).alloc (.cells #[.string ⟨#[112, 114, 111, 111, 102]⟩, .int .i64 5, .int .i64 0, .slice (some ⟨w4.heap.size, 0, none⟩) 2 2, .int .i64 11, .int .i64 0, .slice none 0 0] 50)) ((((w4.alloc (.cells #[.int .i64 5, .int .i64 0, .slice (some ⟨w3.heap.size, 0, none⟩) 2 2, .int .i64 (numeralP z).k, .int .i64 (numeralP z).n, .slice A4 (numeralP z).al.length c4] 30)).alloc (.cells #[.int .i64 5, .int .i64 0, .slice (some ⟨w4.heap.size, 0, none⟩) 2 2] 30)).alloc (.cells #[.string ⟨#[112, 114, 111, 111, 102]⟩, .int .i64 5, .int .i64 0, .slice (some ⟨w4.heap.size, 0, none⟩) 2 2, .int .i64 11, .int .i64 0, .slice none 0 0] 50)).alloc (.cells #[.string ⟨#[112, 114, 111, 111, 102]⟩, .int .i64 5, .int .i64 0, .slice (some ⟨w4.heap.size, 0, none⟩) 2 2, .int .i64 11, .int .i64 0, .slice none 0 0] 50)).heap.size (isT x y z) (.slice (some ⟨w4.heap.size, 0, none⟩) 2 2) from argsIn.keep ha2 hl2.size hl2)
  have HL5 := Lib.hid (below_step hl1 hl2)
  obtain ⟨⟨t0, t1, t2⟩, -⟩ := (Blk.new' (g := w4.heap.size + 1) (w := (w4.alloc (.cells #[.int .i64 5, .int .i64 0, .slice (some ⟨w3.heap.size, 0, none⟩) 2 2, .int .i64 (numeralP z).k, .int .i64 (numeralP z).n, .slice A4 (numeralP z).al.length c4] 30))) (t := 30) (cs := #[.int .i64 5, .int .i64 0, .slice (some ⟨w4.heap.size, 0, none⟩) 2 2]) (by simp)).tri
  obtain ⟨⟨g0, g1, g2, g3, g4, g5, g6⟩, -⟩ := (Blk.new' (g := w4.heap.size + 1 + 1) (w := ((w4.alloc (.cells #[.int .i64 5, .int .i64 0, .slice (some ⟨w3.heap.size, 0, none⟩) 2 2, .int .i64 (numeralP z).k, .int .i64 (numeralP z).n, .slice A4 (numeralP z).al.length c4] 30)).alloc (.cells #[.int .i64 5, .int .i64 0, .slice (some ⟨w4.heap.size, 0, none⟩) 2 2] 30))) (t := 50) (cs := #[.string ⟨#[112, 114, 111, 111, 102]⟩, .int .i64 5, .int .i64 0, .slice (some ⟨w4.heap.size, 0, none⟩) 2 2, .int .i64 11, .int .i64 0, .slice none 0 0]) (by simp)).seven
  have HRR := Lib.hid (reads_row (d := proofN x y z) (Blk.new' (g := w4.heap.size + 1 + 1 + 1) (w := (((w4.alloc (.cells #[.int .i64 5, .int .i64 0, .slice (some ⟨w3.heap.size, 0, none⟩) 2 2, .int .i64 (numeralP z).k, .int .i64 (numeralP z).n, .slice A4 (numeralP z).al.length c4] 30)).alloc (.cells #[.int .i64 5, .int .i64 0, .slice (some ⟨w4.heap.size, 0, none⟩) 2 2] 30)).alloc (.cells #[.string ⟨#[112, 114, 111, 111, 102]⟩, .int .i64 5, .int .i64 0, .slice (some ⟨w4.heap.size, 0, none⟩) 2 2, .int .i64 11, .int .i64 0, .slice none 0 0] 50))) (t := 50) (cs := #[.string ⟨#[112, 114, 111, 111, 102]⟩, .int .i64 5, .int .i64 0, .slice (some ⟨w4.heap.size, 0, none⟩) 2 2, .int .i64 11, .int .i64 0, .slice none 0 0]) (by simp)))
  have HD5 := Lib.hid (HD4.out.keep HL5.out)
  obtain ⟨-, -, -, dc, hdc, hrd⟩ := HD5.out.reads
  obtain ⟨ad, rfl, -, hcl⟩ := hrd.2 (by decide)
  obtain ⟨ad2, had2, -, hcl2⟩ := HRR.out.2 (by decide)
  cases had2
  have HDC := Lib.hid hdc
  have HCL := Lib.hid (And.intro hrd.1 (And.intro hcl hcl2))
  obtain ⟨i0, hi0, hz0, hz1, hz2⟩ := info_parts Tryz.infoDecl
  clear hb4 hb34 ht4 ha1 ha2 hl1 hl2 hdc hrd hcl hcl2
  go_wp2_with (first | (at_builtin; go_loud (refine wpList_append_grows _ rfl (.tmp 55) (.tmp 57) 23 rfl 50 i0 _ 7 96 Tryz.underlying23 hi0 hz0 hz1 hz2 rfl (by decide) (some ad) 4 4 dc rfl (fun h => by cases h) HCL.out.1 (fun b e j u h => by cases e; exact HCL.out.2.1 j u h) ⟨w4.heap.size + 1 + 1 + 1, 0, none⟩ 1 1 (dcell (proofN x y z) (.slice (some ⟨w4.heap.size, 0, none⟩) 2 2) (.slice none 0 0)) rfl rfl HCL.out.2.2 (dcell_one _ _ _ rfl rfl) (by decide) (by decide) (by decide) ?_)))
  intro V6 w6 hown6 hgr6
  generalize ((((w4.alloc (.cells #[.int .i64 5, .int .i64 0, .slice (some ⟨w3.heap.size, 0, none⟩) 2 2, .int .i64 (numeralP z).k, .int .i64 (numeralP z).n, .slice A4 (numeralP z).al.length c4] 30)).alloc (.cells #[.int .i64 5, .int .i64 0, .slice (some ⟨w4.heap.size, 0, none⟩) 2 2] 30)).alloc (.cells #[.string ⟨#[112, 114, 111, 111, 102]⟩, .int .i64 5, .int .i64 0, .slice (some ⟨w4.heap.size, 0, none⟩) 2 2, .int .i64 11, .int .i64 0, .slice none 0 0] 50)).alloc (.cells #[.string ⟨#[112, 114, 111, 111, 102]⟩, .int .i64 5, .int .i64 0, .slice (some ⟨w4.heap.size, 0, none⟩) 2 2, .int .i64 11, .int .i64 0, .slice none 0 0] 50)) = w5 at *
  have h6 := below_grown (Below.refl w5.heap.size w5) hgr6 (fun k hk => by cases hk)
  have HB6 := Lib.hid (below_step HB4.out (below_step HL5.out h6))
  have HD6 := Lib.hid (show DeclsAt w6 (fiveN x y z) V6 from DeclsAt.of_own (ds := fourN ++ [proofN x y z]) hown6 ((HDC.out.snoc (d := proofN x y z) HA5.out (args_none _ _ _ _)).keep h6))
  obtain ⟨A6, c6, rfl⟩ := ownF hown6
  clear hown6 hgr6 h6 HDC HCL HRR HD5 HA5 HL5 HR0 HT3 HD4 HD3 HD2 t0 t1 t2 g0 g1 g2 g3 g4 g5 g6
  go_wp2_with fail
  refine (kbytes_any (fiveN x y z) (fun d hd => (fit_get (fit_five HXY.out.1 HXY.out.2.1 HXY.out.2.2 d hd)).2.2) (show 5 ≤ 1000000 by decide) w6 _ HD6.out).mono ?_
  rintro e w7 ⟨V7, vs, rfl, hv7, hbs7, hb7⟩
  obtain ⟨A7, c7, rfl⟩ : ∃ A c, V7 = .slice A 5 c := ownF hv7
  have HB7 := Lib.hid (below_step HB6.out hb7)
  have HKA := Lib.hid (kall_any HI.out (fiveQ x y z) (allp_five HXY.out.1 HXY.out.2.1 HXY.out.2.2) (show 5 ≤ 1000 by decide) w7 _ _ vs hv7 hbs7)
  clear hv7 hbs7 hb7 HD6
  go_wp2_with fail
  by_cases hq : x + y = z
  · have hqi : (x : Int) + (y : Int) = (z : Int) := by omega
    refine (show Calls Tryz.prog 24 _ w7 (AllPost (fiveN x y z) 5 [.int .i64 0, .int .i64 0, .int .i64 0, .int .i64 0, .int .i64 0, .int .i64 0, .int .i64 0, .int .i64 0, .int .i64 0, .int .i64 0] w7) from (by
      have h := HKA.out
      rw [endD_five, endV_five, decide_eq_true hq] at h
      exact h)).mono ?_
    rintro e w8 ⟨D8, V8, rfl, hd8, hv8, hb8⟩
    obtain ⟨A8, c8, rfl⟩ : ∃ A c, D8 = .slice A 5 c := hd8.form
    obtain ⟨VA8, vc8, rfl⟩ : ∃ A c, V8 = .slice A 5 c := ownF hv8
    obtain ⟨g, rfl, k8, k9⟩ := own_five hv8 rfl rfl
    have HB8 := Lib.hid (below_step HB7.out hb8)
    have hal := below_alloc' (Below.refl w8.heap.size w8) (.cells #[.slice A8 5 c8, .slice (some ⟨g, 0, none⟩) 5 vc8] 53)
    have m8 := cell_keep hal k8
    have m9 := cell_keep hal k9
    obtain ⟨⟨s0, s1⟩, -⟩ := (Blk.new w8 53 #[.slice A8 5 c8, .slice (some ⟨g, 0, none⟩) 5 vc8]).two
    obtain ⟨⟨p0, p1⟩, -⟩ := ((Blk.new w8 53 #[.slice A8 5 c8, .slice (some ⟨g, 0, none⟩) 5 vc8]).alloc (.cells #[.int .i64 0, .int .i64 0] 58)).two
    obtain ⟨⟨u0, u1⟩, -⟩ := (Blk.new' (g := w8.heap.size + 1) (w := w8.alloc (.cells #[.slice A8 5 c8, .slice (some ⟨g, 0, none⟩) 5 vc8] 53)) (t := 58) (cs := #[.int .i64 0, .int .i64 0]) (by simp)).two
    clear hd8 hv8 hb8 hal k8 k9
    go_wp2_with fail
    go_ret
    exact ⟨rfl, below_alloc' (below_alloc' HB8.out _) _⟩
  · have hqi : ¬ (x : Int) + (y : Int) = (z : Int) := by omega
    refine (show Calls Tryz.prog 24 _ w7 (AllPost fourN 5 [.int .i64 0, .int .i64 0, .int .i64 0, .int .i64 0, .int .i64 0, .int .i64 0, .int .i64 0, .int .i64 0, .int .i64 10, .int .i64 2] w7) from (by
      have h := HKA.out
      rw [endD_five, endV_five, decide_eq_false hq] at h
      exact h)).mono ?_
    rintro e w8 ⟨D8, V8, rfl, hd8, hv8, hb8⟩
    obtain ⟨A8, c8, rfl⟩ : ∃ A c, D8 = .slice A 4 c := hd8.form
    obtain ⟨VA8, vc8, rfl⟩ : ∃ A c, V8 = .slice A 5 c := ownF hv8
    obtain ⟨g, rfl, k8, k9⟩ := own_five hv8 rfl rfl
    have HB8 := Lib.hid (below_step HB7.out hb8)
    have hal := below_alloc' (Below.refl w8.heap.size w8) (.cells #[.slice A8 4 c8, .slice (some ⟨g, 0, none⟩) 5 vc8] 53)
    have m8 := cell_keep hal k8
    have m9 := cell_keep hal k9
    obtain ⟨⟨s0, s1⟩, -⟩ := (Blk.new w8 53 #[.slice A8 4 c8, .slice (some ⟨g, 0, none⟩) 5 vc8]).two
    obtain ⟨⟨p0, p1⟩, -⟩ := ((Blk.new w8 53 #[.slice A8 4 c8, .slice (some ⟨g, 0, none⟩) 5 vc8]).alloc (.cells #[.int .i64 10, .int .i64 2] 58)).two
    obtain ⟨⟨u0, u1⟩, -⟩ := (Blk.new' (g := w8.heap.size + 1) (w := w8.alloc (.cells #[.slice A8 4 c8, .slice (some ⟨g, 0, none⟩) 5 vc8] 53)) (t := 58) (cs := #[.int .i64 10, .int .i64 2]) (by simp)).two
    clear hd8 hv8 hb8 hal k8 k9
    go_wp2_with fail
    go_ret
    exact ⟨rfl, below_alloc' (below_alloc' HB8.out _) _⟩
end Go.Proofs.YtjboibbgigkhkaaGreatDoor

