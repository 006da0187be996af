/- book.Load: the declarations of a book's lines. -/
import Derived.Test.YtjboibbgigkhkaaGreatDoorYGM
import Derived.Test.YtjboibbgigkhkaaGreatDoorYBSplit
import Derived.Test.YtjboibbgigkhkaaGreatDoorYGE
namespace Go.Proofs.YtjboibbgigkhkaaGreatDoor
open Go.RowKit
set_option maxRecDepth 100000

theorem Tryz.infoVerdict : (Tryz.prog.info? 58).map (fun i => (i.zero, i.size, i.bytes)) = some (some (.agg #[.int .i64 0, .int .i64 0]), 2, 16) := by kernel_rfl
/-- verdicts of which nothing is wrong -/
def zs (n : Nat) : List Value := List.replicate (n * 2) (.int .i64 0)
theorem zs_succ (n : Nat) : zs (n + 1) = zs n ++ [.int .i64 0, .int .i64 0] := by
  unfold zs
  rw [show (n + 1) * 2 = n * 2 + 2 by omega, ← List.replicate_append_replicate]
  rfl
theorem reads_two {w : World} {g : Nat} {t : TypeId} {x y : Value} (h : Blk w g t #[x, y]) : Reads w w.heap.size 2 (some ⟨g, 0, none⟩) 1 [x, y] :=
  ⟨rfl, fun _ => ⟨_, rfl, h.lt, fun j u hu => by
    rw [Go.WideShapes.add_plain]
    have := h.cell (0 + j)
    rw [this]
    simpa using hu⟩⟩
theorem DeclsAt.clip {w : World} {ds : List ND} {A : Option Addr} {n cap : Nat} (h : DeclsAt w ds (.slice A n cap)) : DeclsAt w ds (.slice A n n) := by
  obtain ⟨A', cap', e, h1, h2, h3⟩ := h
  cases e
  exact ⟨A, ds.length, rfl, Nat.le_refl _, Nat.le_trans h1 h2, h3⟩

theorem loadP_cons {x : Str} {r : List Str} {ds' ds : List ND} (h : loadP (x :: r) ds' = some ds) : (x = [] ∧ loadP r ds' = some ds) ∨ (x ≠ [] ∧ ∃ d, readP (ds'.map Prod.fst) x = some d ∧ addable ds' d = true ∧ checkTop' (ds'.map Prod.snd) 400 d.2.2 d.2.1 = some true ∧ loadP r (ds' ++ [d]) = some ds) := by
  rw [loadP] at h
  by_cases hx : x = []
  · rw [if_pos hx] at h; exact .inl ⟨hx, h⟩
  · rw [if_neg hx] at h
    simp only [Option.bind_eq_some_iff] at h
    obtain ⟨d, hd, h⟩ := h
    by_cases hc : (addable ds' d && checkTop' (ds'.map Prod.snd) 400 d.2.2 d.2.1 == some true) = true
    · rw [if_pos hc] at h
      simp only [Bool.and_eq_true, beq_iff_eq] at hc
      exact .inr ⟨hx, d, hd, hc.1, hc.2, h⟩
    · rw [if_neg hc] at h; cases h
theorem addable_len {ds : List ND} {d : ND} (h : addable ds d = true) : ds.length < 12 ∧ d.1.length ≤ 8 := by
  unfold addable at h
  simp only [Bool.and_eq_true, decide_eq_true_eq] at h
  refine ⟨h.1.1.1.2, ?_⟩
  have hn := h.1.1.1.1.1
  unfold isName at hn
  simp only [Bool.and_eq_true, decide_eq_true_eq] at hn
  omega

/-- the same, where one verdict is still to come -/
structure LoadG (w w1 : World) (ds : List ND) (cs : List Value) (ov vv : Value) (wr : World) : Prop where
  out : wr.ownsRow w1.heap.size 50 7 ov ds.length cs
  vs : wr.ownsRow w1.heap.size 58 2 vv (ds.length - 1) (zs (ds.length - 1))
  cells : DCellsS wr (fun b => b < wr.heap.size ∧ vv.ownBlock ≠ some b) ds cs
  low : Below w1.heap.size w1 wr
/-- what the loop has: declarations in a row of the call's own, that lie apart from the verdicts' row -/
structure LoadF (w w1 : World) (ds : List ND) (cs : List Value) (ov vv : Value) (wr : World) : Prop where
  out : wr.ownsRow w1.heap.size 50 7 ov ds.length cs
  vs : wr.ownsRow w1.heap.size 58 2 vv ds.length (zs ds.length)
  cells : DCellsS wr (fun b => b < wr.heap.size ∧ vv.ownBlock ≠ some b) ds cs
  low : Below w1.heap.size w1 wr
theorem LoadF.decls {w w1 : World} {ds : List ND} {cs : List Value} {ov vv : Value} {wr : World} (h : LoadF w w1 ds cs ov vv wr) : DeclsAt wr ds ov := DeclsAt.of_own h.out (h.cells.cells fun _ hb => hb.1)
theorem LoadF.more {w w1 : World} {ds : List ND} {cs : List Value} {ov vv : Value} {wr w2 : World} (h : LoadF w w1 ds cs ov vv wr) (hb : Below wr.heap.size wr w2) : LoadF w w1 ds cs ov vv w2 :=
  ⟨own_keep h.out hb, own_keep h.vs hb, h.cells.keep (fun _b hq => ⟨Nat.lt_of_lt_of_le hq.1 hb.size, hq.2⟩) (fun _p hp => hb.cell hp.1), below_step h.low hb⟩
theorem LoadF.add {w w1 wr : World} {ds : List ND} {d : ND} {cs : List Value} {ov ov' vv s s' : Value} {w3 w4 : World} (h : LoadF w w1 ds cs ov vv w3) (hown : w4.ownsRow w3.heap.size 50 7 ov' (ds.length + 1) (cs ++ dcell d s s')) (hb : Below w3.heap.size w3 w4)
    (h1 : argsInS w4 (newFrom wr w4) d.2.1 s) (h2 : argsInS w4 (newFrom wr w4) d.2.2 s') (h0 : LoadF w w1 ds cs ov vv wr) : LoadG w w1 (ds ++ [d]) (cs ++ dcell d s s') ov' vv w4 := by
  have hS : ∀ b, newFrom wr w4 b → b < w4.heap.size ∧ vv.ownBlock ≠ some b := fun b hq => ⟨hq.2, fun e => by have := (h0.vs.lt b e).2; have := hq.1; omega⟩
  have h4 := h.more hb
  exact ⟨own_mono (by simpa using hown) h.low.size, by simpa using h4.vs, h4.cells.snoc (h1.keep hS fun _ _ => rfl) (h2.keep hS fun _ _ => rfl), h4.low⟩
theorem LoadG.grow {w w1 : World} {ds : List ND} {cs : List Value} {ov vv vv' : Value} {n : Nat} {w4 w9 : World} {o o' : Obj} (h : LoadG w w1 ds cs ov vv w4) (hn : ds.length = n + 1) (hown : w9.ownsRow w1.heap.size 58 2 vv' (n + 1) (zs (n + 1))) (hg : ((w4.alloc o).alloc o').grownBy w9 vv.ownBlock)
    (hbk : vv'.ownBlock = vv.ownBlock ∨ vv'.ownBlock = some (w4.heap.size + 1 + 1)) : LoadF w w1 ds cs ov vv' w9 := by
  have hba := below_alloc' (below_alloc' (Below.refl w4.heap.size w4) o) o'
  have hsz : w4.heap.size ≤ w9.heap.size := Nat.le_trans hba.size hg.size
  have h1 : ((w4.alloc o).alloc o').heap.size = w4.heap.size + 1 + 1 := by simp
  have hS : ∀ b, (b < w4.heap.size ∧ vv.ownBlock ≠ some b) → (b < w9.heap.size ∧ vv'.ownBlock ≠ some b) := fun b hq => ⟨by have := hq.1; omega, fun e => by
    rcases hbk with e' | e'
    · exact hq.2 (e'.symm.trans e)
    · have e2 := e'.symm.trans e
      have := hq.1
      simp only [Option.some.injEq] at e2
      omega⟩
  have hk : ∀ p : Addr, (p.block < w4.heap.size ∧ vv.ownBlock ≠ some p.block) → w9.cell? p = w4.cell? p := fun p hp =>
    World.cell?_of_block ((hg.block p.block (Nat.lt_of_lt_of_le hp.1 hba.size) (fun e => hp.2 e.symm)).trans (hba.block p.block hp.1))
  refine ⟨((h.out.alloc o).alloc o').kept hg ?_, by rw [hn]; exact hown, h.cells.keep hS hk, below_grown (below_step h.low hba) hg (fun k hk => (h.vs.lt k hk).1)⟩
  cases hov : ov.ownBlock with
  | none => exact .inl rfl
  | some g => exact .inr (fun e => own_apart h.out h.vs (by decide) hov e.symm)

/-- behind book.Load -/
def LoadPost (ds : List ND) (w : World) (e : Ending) (w' : World) : Prop := ∃ A V, e = .returned (.tuple #[.slice A ds.length ds.length, V]) ∧ DeclsAt w' ds (.slice A ds.length ds.length) ∧ w'.ownsRow w.heap.size 58 2 V ds.length (zs ds.length) ∧ Below w.heap.size w w'

set_option maxHeartbeats 3200000 in
theorem load_any (hI : ∀ ds' : List ND, ds'.length ≤ 1000000 → InferC ds' 400) (s : Str) (ls : List Str) (ds : List ND) (hsz : s.length < 4294967281) (hc : Lib.countB ⟨s.toArray⟩ ⟨#[10]⟩ + 1 = ls.length) (hsp : Lib.splitB ⟨#[10]⟩ 0 (Lib.countB ⟨s.toArray⟩ ⟨#[10]⟩) ⟨s.toArray⟩ = ls.map fun x => ⟨x.toArray⟩) (hl : loadP ls [] = some ds)
    (hln : ls.length ≤ 1000) (w : World) (hV : Vars w) (hm : ∃ m, w.cell? ⟨0, 0, none⟩ = some (.int .i64 m)) :
    Calls Tryz.prog 26 #[.string ⟨s.toArray⟩] w (LoadPost ds w) := by
  obtain ⟨m, hm⟩ := hm
  have HSP := Lib.hid (show Calls Tryz.prog 50 #[.string ⟨s.toArray⟩, .string ⟨#[10]⟩] w (fun e w' => e = .returned (.slice (some ⟨w.heap.size, 0, none⟩) ls.length ls.length) ∧ w' = w.alloc (.cells (strc ls).toArray 9)) from by
    have h := Tryz.strings_Split ⟨s.toArray⟩ ⟨#[10]⟩ m w (by simpa [ByteArray.size] using hsz) hm (by decide)
    rw [hc, hsp] at h
    refine h.mono fun e w' hh => ?_
    rw [List.map_map] at hh
    exact hh)
  have HP := Lib.hid (And.intro hV (And.intro hl hI))
  obtain ⟨i0, hi0, hz0, hz1, hz2⟩ := info_parts Tryz.infoVerdict
  clear hsp hc hV hl hI hm
  go_enter Tryz.func26, Tryz.ntmps26
  go_wp2_with fail
  refine HSP.out.mono ?_
  rintro e w1 ⟨rfl, rfl⟩
  have HR := Lib.hid (Blk.new w 9 (strc ls).toArray)
  have HB1 := Lib.hid (below_alloc' (Below.refl w.heap.size w) (.cells (strc ls).toArray 9))
  clear HSP
  generalize w.alloc (.cells (strc ls).toArray 9) = w1 at *
  go_wp2_with fail
  go_loopw [4, 5, 15] (fun ov vv iv wr => ∃ (k : Nat) (ds' : List ND) (cs : List Value), k ≤ ls.length ∧ iv = .int .i64 k ∧ LoadF w w1 ds' cs ov vv wr ∧ Hid (loadP (ls.drop k) ds' = some ds) ∧ ds'.length ≤ 12) (fun _ _ iv _ => ls.length - (intOf iv).toNat)
  case atStart => exact ⟨0, [], [], Nat.zero_le _, rfl, ⟨World.ownsRow_nil _ _ _ _, World.ownsRow_nil _ _ _ _, rfl, Below.refl _ _⟩, Lib.hid HP.out.2.1, by simp⟩
  case round =>
    obtain ⟨k, ds', cs, hk, rfl, hF, hL, hd12⟩ := hrel
    have HF := Lib.hid hF
    obtain ⟨DA, dcap, rfl⟩ := ownF hF.out
    obtain ⟨VA, vcap, rfl⟩ := ownF hF.vs
    clear hF
    by_cases hlt : k < ls.length
    · obtain ⟨x, hx⟩ : ∃ x, ls[k]? = some x := ⟨_, List.getElem?_eq_getElem hlt⟩
      have hcx : wr.cell? ⟨w.heap.size, 0 + k, none⟩ = some (.string ⟨x.toArray⟩) := by
        rw [(HR.out.more HF.out.low).cell (0 + k)]
        simp [strc, hx]
      have hdr : ls.drop k = x :: ls.drop (k + 1) := by rw [List.drop_eq_getElem_cons hlt, (List.getElem?_eq_some_iff.1 hx).2]
      have hl2 := hL.out
      rw [hdr] at hl2
      clear hx hdr hL
      rw [Nat.zero_add] at hcx
      rcases loadP_cons hl2 with ⟨rfl, hl3⟩ | ⟨hx0, d, hrd, had, hck, hl3⟩
      · have HL3 := Lib.hid hl3
        clear hl2 hl3
        go_wp2_with fail
        go_roundw
        case rel => exact ⟨k + 1, ds', cs, by omega, by go_num, HF.out, HL3, hd12⟩
        case measure => simp [intOf]; omega
      · have hx0b : (x == []) = false := by simpa using hx0
        have hx0c : x.isEmpty = false := by simpa using hx0
        have HL3 := Lib.hid (And.intro hl3 (And.intro hrd (And.intro had hck)))
        have HRD := Lib.hid (read_any ds' x d hrd (by omega) wr _ (HP.out.1.below (below_step HB1.out HF.out.low)) HF.out.decls)
        clear hl2 hl3 hrd had hck
        go_wp2_with fail
        refine HRD.out.mono ?_
        rintro e w2 ⟨s1, s2, rfl, ha1, ha2, hb2⟩
        obtain ⟨S1, c1, rfl, -⟩ := argsInS_iff.1 ha1
        obtain ⟨S2, c2, rfl, -⟩ := argsInS_iff.1 ha2
        have hba := below_alloc' (Below.refl w2.heap.size w2) (.cells #[.string ⟨d.1.toArray⟩, .int .i64 d.2.1.k, .int .i64 d.2.1.n, .slice S1 d.2.1.al.length c1, .int .i64 d.2.2.k, .int .i64 d.2.2.n, .slice S2 d.2.2.al.length c2] 50)
        have HF3 := Lib.hid ((HF.out.more hb2).more hba)
        have HA3 := Lib.hid (And.intro (ha1.keep (w' := w2.alloc (.cells #[.string ⟨d.1.toArray⟩, .int .i64 d.2.1.k, .int .i64 d.2.1.n, .slice S1 d.2.1.al.length c1, .int .i64 d.2.2.k, .int .i64 d.2.2.n, .slice S2 d.2.2.al.length c2] 50)) (S' := newFrom wr (w2.alloc (.cells #[.string ⟨d.1.toArray⟩, .int .i64 d.2.1.k, .int .i64 d.2.1.n, .slice S1 d.2.1.al.length c1, .int .i64 d.2.2.k, .int .i64 d.2.2.n, .slice S2 d.2.2.al.length c2] 50))) (fun q hq => ⟨hq.1, by have := hq.2; simp; omega⟩) (fun p hp => World.cell?_alloc_lt _ _ _ hp.2)) (ha2.keep (w' := w2.alloc (.cells #[.string ⟨d.1.toArray⟩, .int .i64 d.2.1.k, .int .i64 d.2.1.n, .slice S1 d.2.1.al.length c1, .int .i64 d.2.2.k, .int .i64 d.2.2.n, .slice S2 d.2.2.al.length c2] 50)) (S' := newFrom wr (w2.alloc (.cells #[.string ⟨d.1.toArray⟩, .int .i64 d.2.1.k, .int .i64 d.2.1.n, .slice S1 d.2.1.al.length c1, .int .i64 d.2.2.k, .int .i64 d.2.2.n, .slice S2 d.2.2.al.length c2] 50))) (fun q hq => ⟨hq.1, by have := hq.2; simp; omega⟩) (fun p hp => World.cell?_alloc_lt _ _ _ hp.2)))
        obtain ⟨⟨g0, g1, g2, g3, g4, g5, g6⟩, -⟩ := (Blk.new w2 50 #[.string ⟨d.1.toArray⟩, .int .i64 d.2.1.k, .int .i64 d.2.1.n, .slice S1 d.2.1.al.length c1, .int .i64 d.2.2.k, .int .i64 d.2.2.n, .slice S2 d.2.2.al.length c2]).seven
        have h0b : ((0 : Int) != 0) = false := by decide
        clear ha1 ha2 hb2 hba HRD
        go_wp2_with fail
        generalize w2.alloc (.cells #[.string ⟨d.1.toArray⟩, .int .i64 d.2.1.k, .int .i64 d.2.1.n, .slice S1 d.2.1.al.length c1, .int .i64 d.2.2.k, .int .i64 d.2.2.n, .slice S2 d.2.2.al.length c2] 50) = w3 at *
        have hDD := HF3.out.decls
        have hrd3 := Reads.of_own HF3.out.out
        refine (show Calls Tryz.prog 52 _ w3 (AddRaw (ds'.length + 1) (cs ++ dcell d (.slice S1 d.2.1.al.length c1) (.slice S2 d.2.2.al.length c2)) 0 0 w3) from add_raw ds' (HP.out.2.2 ds' (by omega)) d true HL3.out.2.2.1 (by have := (addable_len HL3.out.2.2.1).2; omega) HL3.out.2.2.2 w3 DA dcap cs _ _ hDD (HF3.out.cells.cells fun b hb => hb.1) hrd3 (argsInS.keep HA3.out.1 (fun _ h => h.2) (fun _ _ => rfl)) (argsInS.keep HA3.out.2 (fun _ h => h.2) (fun _ _ => rfl))).mono ?_
        rintro e w4 ⟨V4, rfl, hown4, hb4⟩
        obtain ⟨A4, cap4, rfl⟩ := ownF hown4
        have HF4 := Lib.hid (HF3.out.add hown4 hb4 (HA3.out.1.keep (w' := w4) (S' := newFrom wr w4) (fun q hq => ⟨hq.1, Nat.lt_of_lt_of_le hq.2 hb4.size⟩) (fun p hp => hb4.cell hp.2)) (HA3.out.2.keep (w' := w4) (S' := newFrom wr w4) (fun q hq => ⟨hq.1, Nat.lt_of_lt_of_le hq.2 hb4.size⟩) (fun p hp => hb4.cell hp.2)) HF.out)
        have hlen := (addable_len HL3.out.2.2.1).1
        have HZ := Lib.hid (zs_succ ds'.length)
        clear g0 g1 g2 g3 g4 g5 g6 hown4 hb4 hDD hrd3
        have hl1 : ds'.length + 1 ≤ maxLen := by unfold maxLen; omega
        have hl2 : (ds'.length + 1) * 16 ≤ 140737488355328 := by omega
        have HSW := Lib.hid (show w1.heap.size ≤ w4.heap.size from HF4.out.low.size)
        obtain ⟨z, hz⟩ : ∃ z, zs ds'.length = z := ⟨_, rfl⟩
        rw [hz] at HZ
        have HV4 := Lib.hid (show w4.ownsRow w1.heap.size 58 2 (.slice VA ds'.length vcap) ds'.length z from by rw [← hz]; simpa using HF4.out.vs)
        have HOA := Lib.hid ((HV4.out.alloc (.cells #[.int .i64 0, .int .i64 0] 58)).alloc (.cells #[.int .i64 0, .int .i64 0] 58))
        obtain ⟨⟨v0, v1⟩, -⟩ := (Blk.new w4 58 #[.int .i64 0, .int .i64 0]).two
        clear hz
        go_wp2_with (first | (at_builtin; go_loud (refine wpList_append_any _ rfl (.tmp 41) (.tmp 43) 51 rfl w1.heap.size 58 i0 _ 2 16 Tryz.underlying51 hi0 hz0 hz1 hz2 rfl (by decide) _ ds'.length z rfl HOA.out _ _ 1 1 [.int .i64 0, .int .i64 0] rfl (reads_two (Blk.new' (t := 58) (by simp))) (by intro u hu; simp at hu; subst hu; rfl) hl1 hl2 (by have := HSW.out; simp; omega) ?_)))
        intro V9 w9 hown9 hgr9 hbk
        obtain ⟨VA9, vc9, rfl⟩ := ownF hown9
        have HE9 := Lib.hid (HF4.out.grow (ds := ds' ++ [d]) (by simp) (show w9.ownsRow w1.heap.size 58 2 (.slice VA9 (ds'.length + 1) vc9) (ds'.length + 1) (zs (ds'.length + 1)) from by rw [HZ.out]; exact hown9) hgr9 hbk)
        clear hown9 hgr9 hbk
        go_wp2_with fail
        go_roundw
        case rel =>
          exact ⟨k + 1, ds' ++ [d], _, by omega, by go_num, HE9.out, Lib.hid HL3.out.1, by simp; omega⟩
        case measure => simp [intOf]; omega
    · obtain rfl : k = ls.length := by omega
      have hl2 := hL.out
      rw [List.drop_length, loadP] at hl2
      cases hl2
      have HD := Lib.hid HF.out.decls
      have HCL := Lib.hid (show ds.length ≤ dcap from by obtain ⟨A', cap', e, h1, -⟩ := HD.out; cases e; exact h1)
      go_wp2_with fail
      refine (dclip_any ds wr DA dcap HCL.out).mono ?_
      rintro e w9 ⟨rfl, rfl⟩
      go_wp2_with fail
      go_ret2
      exact ⟨_, _, rfl, HD.out.clip, own_mono HF.out.vs HB1.out.size, below_step HB1.out HF.out.low⟩
end Go.Proofs.YtjboibbgigkhkaaGreatDoor

/- sktop.alive, loaded: the two books are loaded. -/
namespace Go.Proofs.YtjboibbgigkhkaaGreatDoor
open Go.RowKit
set_option maxRecDepth 100000

theorem index_line : ∀ (l r : Str), (∀ c ∈ l, c ≠ 10) → Lib.index (l ++ 10 :: r) [10] = (l.length : Int)
  | [], r, _ => by
    rw [List.nil_append, Lib.index, if_pos (by rfl)]
    rfl
  | b :: l, r, h => by
    have ih := index_line l r fun c hc => h c (List.mem_cons_of_mem _ hc)
    have hb : b ≠ 10 := h b (List.mem_cons_self ..)
    rw [List.cons_append, Lib.index, if_neg (by simpa [List.isPrefixOf] using fun e => hb e.symm), ih, if_neg (by rw [beq_iff_eq]; omega)]
    simp
theorem index_miss : ∀ (l : Str), (∀ c ∈ l, c ≠ 10) → Lib.index l [10] = -1
  | [], _ => rfl
  | b :: l, h => by
    have ih := index_miss l fun c hc => h c (List.mem_cons_of_mem _ hc)
    have hb : b ≠ 10 := h b (List.mem_cons_self ..)
    unfold Lib.index
    rw [if_neg (by simpa [List.isPrefixOf] using fun e => hb e.symm), ih]
    rfl
/-- lines, each but the last one with a line feed behind it -/
def lined : List Str → Str
  | [] => []
  | [x] => x
  | x :: y :: r => x ++ 10 :: lined (y :: r)
theorem count_lined : ∀ (ls : List Str), ls ≠ [] → (∀ x ∈ ls, ∀ c ∈ x, c ≠ 10) → Lib.count (lined ls) [10] + 1 = ls.length
  | [], h, _ => absurd rfl h
  | [x], _, h => by
    rw [lined, Lib.count_miss (index_miss x (h x (by simp)))]
    rfl
  | x :: y :: r, _, h => by
    have ih := count_lined (y :: r) (by simp) fun z hz => h z (List.mem_cons_of_mem _ hz)
    rw [lined, Lib.count_hit (by simp) (index_line x _ (h x (by simp)))]
    have e : (x ++ 10 :: lined (y :: r)).drop (x.length + ([10] : Str).length) = lined (y :: r) := by simp [List.drop_append]
    rw [e]
    simp only [List.length_cons] at ih ⊢
    omega
theorem split_lined : ∀ (ls : List Str), ls ≠ [] → (∀ x ∈ ls, ∀ c ∈ x, c ≠ 10) → Lib.splitK [10] 0 (ls.length - 1) (lined ls) = ls
  | [], h, _ => absurd rfl h
  | [x], _, h => rfl
  | x :: y :: r, _, h => by
    have ih := split_lined (y :: r) (by simp) fun z hz => h z (List.mem_cons_of_mem _ hz)
    have e : (x ++ 10 :: lined (y :: r)).drop (x.length + ([10] : Str).length) = lined (y :: r) := by simp [List.drop_append]
    have hi := index_line x (lined (y :: r)) (h x (by simp))
    rw [lined, show (x :: y :: r : List Str).length - 1 = ((y :: r : List Str).length - 1) + 1 by simp]
    unfold Lib.splitK
    rw [hi, if_neg (by rw [beq_iff_eq]; omega), Int.toNat_natCast, e, ih]
    simp
theorem splitB_lined {s : Str} {ls : List Str} (hs : s = lined ls) (hl : ls ≠ []) (h : ∀ x ∈ ls, ∀ c ∈ x, c ≠ 10) :
    Lib.countB ⟨s.toArray⟩ ⟨#[10]⟩ + 1 = ls.length ∧ Lib.splitB ⟨#[10]⟩ 0 (Lib.countB ⟨s.toArray⟩ ⟨#[10]⟩) ⟨s.toArray⟩ = ls.map fun x => ⟨x.toArray⟩ := by
  subst hs
  have hc : Lib.countB ⟨(lined ls).toArray⟩ ⟨#[10]⟩ + 1 = ls.length := count_lined ls hl h
  refine ⟨hc, ?_⟩
  have hd := Lib.splitB_data ⟨#[10]⟩ 0 (Lib.countB ⟨(lined ls).toArray⟩ ⟨#[10]⟩) ⟨(lined ls).toArray⟩
  rw [show Lib.countB ⟨(lined ls).toArray⟩ ⟨#[10]⟩ = ls.length - 1 by omega] at hd ⊢
  rw [show Lib.splitK (⟨#[10]⟩ : ByteArray).data.toList 0 (ls.length - 1) (⟨(lined ls).toArray⟩ : ByteArray).data.toList = ls from split_lined ls hl h] at hd
  have := congrArg (List.map fun x : Str => (⟨x.toArray⟩ : ByteArray)) hd
  rw [List.map_map] at this
  exact (List.map_id _).symm.trans this

theorem no10 {ls : List Str} (h : (ls.all fun x => x.all fun c => c != 10) = true) : ∀ x ∈ ls, ∀ c ∈ x, c ≠ 10 := by
  intro x hx c hc
  have := List.all_eq_true.1 (List.all_eq_true.1 h x hx) c hc
  simpa using this
theorem one_sp : Lib.countB ⟨oneB.toArray⟩ ⟨#[10]⟩ + 1 = [oneB].length ∧ Lib.splitB ⟨#[10]⟩ 0 (Lib.countB ⟨oneB.toArray⟩ ⟨#[10]⟩) ⟨oneB.toArray⟩ = [oneB].map fun x => ⟨x.toArray⟩ := splitB_lined (s := oneB) (ls := [oneB]) rfl (by simp) (no10 (by decide +kernel))
theorem sums_sp : Lib.countB ⟨sumsB.toArray⟩ ⟨#[10]⟩ + 1 = sumsL.length ∧ Lib.splitB ⟨#[10]⟩ 0 (Lib.countB ⟨sumsB.toArray⟩ ⟨#[10]⟩) ⟨sumsB.toArray⟩ = sumsL.map fun x => ⟨x.toArray⟩ := splitB_lined (s := sumsB) (ls := sumsL) (by decide +kernel) (by simp [sumsL]) (no10 (by decide +kernel))

/-- what the library reads -/
def VarsM (w : World) : Prop := Vars w ∧ ∃ m, w.cell? ⟨0, 0, none⟩ = some (.int .i64 m)
theorem VarsM.below {w w' : World} (h : VarsM w) (hb : Below w.heap.size w w') : VarsM w' := ⟨h.1.below hb, let ⟨m, hm⟩ := h.2; ⟨m, cell_keep hb hm⟩⟩
/-- right at all fuel: the types that are found -/
abbrev AllC : Prop := ∀ ds' : List ND, ds'.length ≤ 1000000 → InferC ds' 400

theorem load_one (hI : AllC) (w : World) (hV : VarsM w) : Calls Tryz.prog 26 #[.string ⟨oneB.toArray⟩] w (LoadPost oneN w) :=
  load_any hI oneB [oneB] oneN (by decide) one_sp.1 one_sp.2 one_load (by decide) w hV.1 hV.2
theorem load_sums (hI : AllC) (w : World) (hV : VarsM w) : Calls Tryz.prog 26 #[.string ⟨sumsB.toArray⟩] w (LoadPost fourN w) :=
  load_any hI sumsB sumsL fourN (by decide +kernel) sums_sp.1 sums_sp.2 sums_load (by decide) w hV.1 hV.2

theorem sums_any (w : World) : Calls Tryz.prog 27 #[] w (fun e w' => e = .returned (.string ⟨sumsB.toArray⟩) ∧ w' = w) := by
  go_enter Tryz.func27, Tryz.ntmps27
  go_wp2_with fail
  go_ret
  exact ⟨by first | rfl | (congr 1), rfl⟩

/-- a row of verdicts of which nothing is wrong: its cells -/
theorem zs_row {w : World} {base n : Nat} {V : Value} (h : w.ownsRow base 58 2 V n (zs n)) (hn : 0 < n) : ∃ g cap, V = .slice (some ⟨g, 0, none⟩) n cap ∧ ∀ j, j < n * 2 → w.cell? ⟨g, j, none⟩ = some (.int .i64 0) := by
  rcases id h.2 with ⟨-, h0⟩ | ⟨g, cap, cur, rfl, -⟩
  · omega
  · refine ⟨g, cap, rfl, fun j hj => ?_⟩
    have := h.cells (g := g) rfl j (.int .i64 0) (by unfold zs; rw [List.getElem?_replicate]; simp [hj])
    rwa [Go.WideShapes.add_plain, Nat.zero_add] at this

set_option maxHeartbeats 1600000 in
theorem alive_top (hI : AllC) (w : World) (hV : VarsM w) : Calls Tryz.prog 7 #[] w (StrPost (.bool true) w) := by
  have HL := Lib.hid (load_one hI w hV)
  go_enter Tryz.func7, Tryz.ntmps7
  go_wp2_with fail
  refine (show Calls Tryz.prog 26 _ w (LoadPost oneN w) from HL.out).mono ?_
  rintro e w1 ⟨A, V, rfl, hD, hown, hb1⟩
  obtain ⟨g, cap, rfl, hz⟩ := zs_row hown (by decide)
  have HD := Lib.hid hD
  have HB1 := Lib.hid hb1
  have HZ := Lib.hid hz
  simp only [show oneN.length = 1 from rfl]
  clear hD hown hb1 hz
  go_wp2_with fail
  refine (show Calls Tryz.prog 9 _ w1 (StrPost (.tuple #[.int .i64 1, .bool true]) w1) from Number_any oneN 400 200 (tD 0) 1 true one_at (by decide) w1 _ _ HD.out (args_none w1 _ 18 0)).mono ?_
  rintro e w2 ⟨rfl, hb2⟩
  have c0 := cell_keep hb2 (HZ.out 0 (by decide))
  have HB2 := Lib.hid (below_step HB1.out hb2)
  clear hb2
  go_wp2_with fail
  go_ret
  exact ⟨rfl, HB2.out⟩

/-- behind sktop.loaded -/
def LoadedPost (w : World) (e : Ending) (w' : World) : Prop := ∃ A, e = .returned (.tuple #[.slice A 4 4, .bool true]) ∧ DeclsAt w' fourN (.slice A 4 4) ∧ Below w.heap.size w w'
set_option maxHeartbeats 1600000 in
theorem loaded_top (hI : AllC) (w : World) (hV : VarsM w) : Calls Tryz.prog 8 #[] w (LoadedPost w) := by
  have HL := Lib.hid (load_sums hI w hV)
  go_enter Tryz.func8, Tryz.ntmps8
  go_wp2_with fail
  refine (sums_any w).mono ?_
  rintro e w0 ⟨rfl, rfl⟩
  go_wp2_with fail
  refine (show Calls Tryz.prog 26 _ w0 (LoadPost fourN w0) from HL.out).mono ?_
  rintro e w1 ⟨A, V, rfl, hD, hown, hb1⟩
  obtain ⟨g, cap, rfl, hz⟩ := zs_row hown (by decide)
  have HD := Lib.hid hD
  have HB1 := Lib.hid hb1
  have HZ := Lib.hid hz
  simp only [show fourN.length = 4 from rfl]
  clear hD hown hb1 hz
  go_wp2_with fail
  go_loopw [4, 17] (fun ok iv wr => ∃ k : Nat, k ≤ 4 ∧ iv = .int .i64 k ∧ ok = .bool true ∧ Below w1.heap.size w1 wr) (fun _ iv _ => 4 - (intOf iv).toNat)
  case atStart => exact ⟨0, by omega, rfl, by first | rfl | trivial, Below.refl _ _⟩
  case round =>
    obtain ⟨k, hk, rfl, rfl, hb⟩ := hrel
    have HB := Lib.hid hb
    clear hb
    by_cases hlt : k < 4
    · have c0 := cell_keep HB.out (HZ.out (k * 2) (by show k * 2 < 4 * 2; omega))
      have c1 := cell_keep HB.out (HZ.out (k * 2 + 1) (by show k * 2 + 1 < 4 * 2; omega))
      go_wp2_with fail
      go_roundw
      case rel => exact ⟨k + 1, by omega, by go_num, by first | rfl | trivial, below_alloc' HB.out _⟩
      case measure => simp [intOf]; omega
    · obtain rfl : k = 4 := by omega
      go_wp2_with fail
      go_ret2
      exact ⟨_, rfl, HD.out.keep HB.out, below_step HB1.out HB.out⟩
end Go.Proofs.YtjboibbgigkhkaaGreatDoor

