/- package eval: Value at what has no parts, or just one that is a number or has none. -/
import Derived.Test.YtjboibbgigkhkaaGreatDoorYGC
import Derived.Test.YtjboibbgigkhkaaGreatDoorYGH
namespace Go.Proofs.YtjboibbgigkhkaaGreatDoor
open Go.RowKit
set_option maxRecDepth 100000

theorem Tryz.infoVal : (Tryz.prog.info? 63).map (fun i => (i.zero, i.size, i.bytes)) = some (some (.pointer none), 1, 8) := by kernel_rfl

theorem cell_set {w : World} {g : Nat} {u v v0 : Value} (h2 : w.cell? ⟨g, 2, none⟩ = some v0) {q : Addr} (h : w.cell? q = some v) (hv : v ≠ v0) : (w.setCell ⟨g, 2, none⟩ u).cell? q = some v := by
  rw [World.cell?_setCell_other]
  · exact h
  · intro e; subst e; rw [h2] at h; cases h; exact hv rfl

/-- a number, or what has no parts, stays where a cell of what has still to get its part is written -/
theorem chain_set {w : World} {g : Nat} {c : Nat} (u : Value) (hg : w.cell? ⟨g, 0, none⟩ = some (.int .i64 16)) (hg2 : w.cell? ⟨g, 2, none⟩ = some (.slice none 0 c)) :
    ∀ (f : Nat) (x : Val) (p : Value), chain f x = true → ValAt w x p → ValAt (w.setCell ⟨g, 2, none⟩ u) x p := by
  intro f
  induction f with
  | zero => intro x p h; rw [chain] at h; cases h
  | succ f ih =>
    intro x p h hx
    obtain ⟨k, n, xs, bs⟩ := x
    have hbs : bs = [] := by
      cases bs with
      | nil => rfl
      | cons a r => simp [chain] at h
    subst hbs
    have hxs : (xs = [] ∧ k ≠ 16) ∨ (∃ y, xs = [y] ∧ k = 16 ∧ chain f y = true) := by
      match xs, h with
      | [], h => exact .inl ⟨rfl, by simpa [chain] using h⟩
      | [y], h => exact .inr ⟨y, rfl, by simpa [chain] using h⟩
      | y :: z :: r, h => simp [chain] at h
    obtain ⟨b, A, m, B, l, rfl, ⟨c0, c1, c2, c3⟩, h3, -⟩ := hx.open_
    simp only [Val.k, Val.n, Val.args, Val.bs] at c0 c1 c2 c3 h3
    have d0 := cell_set (u := u) hg2 c0 (by simp)
    have d1 := cell_set (u := u) hg2 c1 (by simp)
    have hb : b ≠ g := by
      intro e
      subst e
      rw [hg] at c0
      rw [hg2] at c2
      simp only [Option.some.injEq, Value.int.injEq, true_and] at c0
      simp only [Option.some.injEq, Value.slice.injEq] at c2
      rcases hxs with ⟨h1, h2⟩ | ⟨y, h1, -⟩
      · exact h2 c0.symm
      · rw [h1] at c2
        have := c2.2.1
        simp at this
    have d2 : (w.setCell ⟨g, 2, none⟩ u).cell? ⟨b, 2, none⟩ = some (.slice A xs.length m) := by
      rw [World.cell?_setCell_other]
      · exact c2
      · intro e; injection e with e; exact hb (by first | exact e | exact e.symm)
    have d3 : (w.setCell ⟨g, 2, none⟩ u).cell? ⟨b, 3, none⟩ = some (.slice B ([] : List Clo).length l) := by
      rw [World.cell?_setCell_other]
      · exact c3
      · intro e; injection e with e; exact hb (by first | exact e | exact e.symm)
    refine ValAt.mk_ (v := .mk k n xs []) ⟨d0, d1, d2, d3⟩ (fun hn => ?_) (fun hn => absurd rfl hn)
    obtain ⟨ab, ao, e, hq⟩ := h3 hn
    refine ⟨ab, ao, e, fun j x hj => ?_⟩
    obtain ⟨q, q1, q2⟩ := hq j x hj
    obtain ⟨qb, rfl⟩ := q2.form
    refine ⟨_, cell_set (u := u) hg2 q1 (by simp), ih _ _ ?_ q2⟩
    simp only [Val.args] at hj
    rcases hxs with ⟨h1, -⟩ | ⟨y, h1, -, h2⟩
    · rw [h1] at hj; simp at hj
    · rw [h1] at hj
      match j, hj with
      | 0, hj => simp at hj; subst hj; exact h2
      | j + 1, hj => simp at hj

theorem ownf {w : World} {base : Nat} {e : TypeId} {V : Value} {n : Nat} {xs : List Value} (h : w.ownsRow base e 1 V n xs) : ∃ A cap, V = .slice A n cap := by
  rcases h.2 with ⟨h1, h0⟩ | ⟨g, c, cur, h1, -⟩
  · exact ⟨_, _, by rw [h0]; exact h1⟩
  · exact ⟨_, _, h1⟩

theorem suc_end {w9 : World} {g base cap : Nat} {n : Int} {x : Val} {p : Value} {A : Option Addr} (hO : Blk w9 g 96 #[.int .i64 16, .int .i64 n, .slice none 0 0, .slice none 0 0]) (hx : ValAt w9 x p) (hch : chain 1000 x = true)
    (hown : w9.ownsRow base 63 1 (.slice A 1 cap) 1 [p]) (hg : g < base) : ValAt (w9.setCell ⟨g, 2, none⟩ (.slice A 1 cap)) (.mk 16 n [x] []) (.pointer (some ⟨g, 0, none⟩)) := by
  obtain ⟨o0, o1, o2, o3⟩ := hO.four
  obtain ⟨r, rc, hr, hb, hlt⟩ := hown.form (by omega)
  injection hr with hA _ _
  subst hA
  have hc := hown.cells (g := r) rfl 0 p rfl
  have hc' : w9.cell? ⟨r, 0, none⟩ = some p := hc
  have h2 := chain_set (.slice (some ⟨r, 0, none⟩) 1 cap) o0 o2 1000 x p hch hx
  refine ValAt.mk_ (v := .mk 16 n [x] []) (A := some ⟨r, 0, none⟩) (m := cap) (B := none) (l := 0) ⟨cell_set o2 o0 (by simp), cell_set o2 o1 (by simp), ?_, ?_⟩ (fun _ => ⟨r, 0, rfl, fun j y hj => ?_⟩) (fun hn => absurd rfl hn)
  · show _ = some (Value.slice (some ⟨r, 0, none⟩) 1 cap)
    exact World.cell?_setCell_same w9 _ _ o2
  · rw [World.cell?_setCell_other]
    · exact o3
    · intro e; injection e with _ e; cases e
  · match j, hj with
    | 0, hj =>
      simp [Val.args] at hj
      subst hj
      refine ⟨p, ?_, h2⟩
      rw [World.cell?_setCell_other]
      · exact hc'
      · intro e; injection e with e; omega
    | j + 1, hj => simp [Val.args] at hj

set_option maxHeartbeats 800000 in
theorem value_leaf (ds : List ND) (k n : Int) (hk : k ≠ 1 ∧ k ≠ 18 ∧ k ≠ 5 ∧ k ≠ 8 ∧ k ≠ 9 ∧ k ≠ 17 ∧ k ≠ 3 ∧ k ≠ 4 ∧ k ≠ 6 ∧ k ≠ 7) (e : List Val) (w : World) (DA A ea : Option Addr) (dcap cap : Nat)
    (hD : DeclsAt w ds (.slice DA ds.length dcap)) (hs : argsIn w w.heap.size (.mk k n []) (.slice A 0 cap)) (he : EnvAt w e (.pointer ea)) :
    Calls Tryz.prog 29 #[.slice DA ds.length dcap, .agg #[.int .i64 k, .int .i64 n, .slice A 0 cap], .pointer ea] w (VPost (.mk k n [] []) w) := by
  obtain ⟨n1, n2, n3, n4, n5, n6, n7, n8, n9, n10⟩ := hk
  have h1 := kind_ne n1
  have h2 := kind_ne n2
  have h3 := kind_ne n3
  have h4 := kind_ne n4
  have h5 := kind_ne n5
  have h6 := kind_ne n6
  have h7 := kind_ne n7
  have h8 := kind_ne n8
  have h9 := kind_ne n9
  have h10 := kind_ne n10
  have HB := Lib.hid (vf_new hD hs he).2.2.2.2
  clear hD hs he n1 n2 n3 n4 n5 n6 n7 n8 n9 n10
  have HSZ := Lib.hid (show (((w.alloc (.cells #[.slice DA ds.length dcap] 23)).alloc (.cells #[.int .i64 k, .int .i64 n, .slice A 0 cap] 30)).alloc (.cells #[.pointer ea] 97)).heap.size = w.heap.size + 1 + 1 + 1 by simp)
  simp only [T.k, T.n] at HB
  go_enter Tryz.func29, Tryz.ntmps29
  go_wp2_with fail
  generalize ((w.alloc (.cells #[.slice DA ds.length dcap] 23)).alloc (.cells #[.int .i64 k, .int .i64 n, .slice A 0 cap] 30)).alloc (.cells #[.pointer ea] 97) = w1 at *
  go_loopw [98] (fun iv wr => iv = .int .i64 0 ∧ wr = w1.alloc (.cells #[.int .i64 k, .int .i64 n, .slice none 0 0, .slice none 0 0] 96)) (fun _ _ => 0)
  case atStart => exact ⟨rfl, rfl⟩
  case round =>
    obtain ⟨rfl, rfl⟩ := hrel
    go_wp2_with fail
    go_ret
    have hl := val_leaf w1 k n
    rw [HSZ.out] at hl
    exact ⟨_, rfl, hl, HB.out.trans (((Below.refl w1.heap.size w1).alloc (Nat.le_refl _) _).mono HB.out.size)⟩

set_option maxHeartbeats 6400000 in
theorem value_suc (ds : List ND) (f : Nat) (hV : ValueC ds f) (n : Int) (a : T) (e : List Val) (x : Val) (w : World) (DA A ea : Option Addr) (dcap cap : Nat) (hx : evalP (ds.map Prod.snd) f (.value a e) = some x) (hch : chain 1000 x = true)
    (hD : DeclsAt w ds (.slice DA ds.length dcap)) (hs : argsIn w w.heap.size (.mk 16 n [a]) (.slice A 1 cap)) (he : EnvAt w e (.pointer ea)) :
    Calls Tryz.prog 29 #[.slice DA ds.length dcap, .agg #[.int .i64 16, .int .i64 n, .slice A 1 cap], .pointer ea] w (VPost (.mk 16 n [x] []) w) := by
  have HP := Lib.hid (And.intro hD (And.intro hs he))
  have HV := Lib.hid (And.intro hV (And.intro hx hch))
  obtain ⟨i0, hi0, hz0, hz1, hz2⟩ := info_parts Tryz.infoVal
  clear hD hs he hV hx hch
  go_enter Tryz.func29, Tryz.ntmps29
  go_wp2_with fail
  have hF := vf_new HP.out.1 HP.out.2.1 HP.out.2.2
  have HSZ := Lib.hid (show (((w.alloc (.cells #[.slice DA ds.length dcap] 23)).alloc (.cells #[.int .i64 16, .int .i64 n, .slice A 1 cap] 30)).alloc (.cells #[.pointer ea] 97)).heap.size = w.heap.size + 1 + 1 + 1 by simp)
  simp only [T.k, T.n] at hF
  generalize ((w.alloc (.cells #[.slice DA ds.length dcap] 23)).alloc (.cells #[.int .i64 16, .int .i64 n, .slice A 1 cap] 30)).alloc (.cells #[.pointer ea] 97) = w1 at *
  have hba := (Below.refl w1.heap.size w1).alloc (Nat.le_refl _) (.cells #[.int .i64 16, .int .i64 n, .slice none 0 0, .slice none 0 0] 96)
  have HF2 := Lib.hid (hF.more hba)
  have hO := Blk.new w1 96 #[.int .i64 16, .int .i64 n, .slice none 0 0, .slice none 0 0]
  rw [HSZ.out] at hO
  have HO := Lib.hid hO
  clear hF hba hO
  generalize w1.alloc (.cells #[.int .i64 16, .int .i64 n, .slice none 0 0, .slice none 0 0] 96) = w2 at *
  go_loopw [98] (fun iv wr => (iv = .int .i64 0 ∧ wr = w2) ∨ (iv = .int .i64 1 ∧ ValAt wr (.mk 16 n [x] []) (.pointer (some ⟨w.heap.size + 1 + 1 + 1, 0, none⟩)) ∧ Below w.heap.size w wr)) (fun iv _ => 1 - (intOf iv).toNat)
  case atStart => exact .inl ⟨rfl, rfl⟩
  case round =>
    rcases hrel with ⟨rfl, rfl⟩ | ⟨rfl, hv, hb⟩
    · have HC0 := Lib.hid ((HF2.out.more (Below.refl _ _).drew).v HV.out.1 0 (by decide) rfl HV.out.2.1 (ii := 0) rfl)
      obtain ⟨o0, o1, o2, o3⟩ := HO.out.four
      have of2 := HO.out.frozen 2
      go_wp2_with fail
      have HLT2 := Lib.hid (show w.heap.size + 1 + 1 + 1 < wr.heap.size from HO.out.lt)
      have HMX : 0 + 1 ≤ maxLen ∧ (0 + 1) * 8 ≤ 140737488355328 := by decide
      go_region_law
        (first
          | ((refine step_append_any _ rfl (.tmp 105) (.tmp 109) 93 rfl wr.heap.size 63 i0 (.pointer none) 1 8 Tryz.underlying93 hi0 hz0 hz1 hz2 rfl (by decide) (.slice none 0 0) 0 [] rfl (World.ownsRow_nil _ _ _ _) _ (some ⟨w5.heap.size, 0, none⟩) 1 1 [.pointer (some ⟨xb, 0, none⟩)] rfl (reads_new w5 _ 63) (by intro u hu; simp at hu; subst hu; rfl) HMX.1 HMX.2 HS5.out ?_); intro V9 w9 hown9 hgr9 _; (obtain ⟨A9, cap9, hV9⟩ := ownf hown9); (rw [show 0 + 1 = 1 from rfl] at hV9); subst hV9; (have hb9 := (((Below.refl w5.heap.size w5).alloc (Nat.le_refl _) (.cells #[.pointer (some ⟨xb, 0, none⟩)] 63))).grown hgr9 (by simp) (by intro k hk; simp [Value.ownBlock] at hk)); (have HO9 := Lib.hid hown9); (have HF9 := Lib.hid (HF5.out.more hb9)); (have HX9 := Lib.hid (And.intro (HX5.out.1.keep hb9) (HX5.out.2.below hb9 HX5.out.2.lt))); (obtain ⟨q0, q1, q2, q3⟩ := HX9.out.2.four); (have qf2 := HX9.out.2.frozen 2); clear hown9 hgr9 hb9)
          | (go_simp; (with_reducible refine HC0.out.mono ?_); rintro e5 w5 ⟨xp, rfl, hx5, hb5⟩; (obtain ⟨xb, rfl⟩ := hx5.form); (have hbd := drew_trans hb5); (have HS5 := Lib.hid (show wr.heap.size ≤ (w5.alloc (.cells #[.pointer (some ⟨xb, 0, none⟩)] 63)).heap.size from Nat.le_trans hbd.size (by simp))); (have HF5 := Lib.hid (HF2.out.more hbd)); (have hO5 := HO.out.below hbd HO.out.lt); (have HX5 := Lib.hid (And.intro hx5 hO5)); (obtain ⟨p0, p1, p2, p3⟩ := hO5.four); (have a2 := (World.cell?_alloc_lt w5 (.cells #[.pointer (some ⟨xb, 0, none⟩)] 63) ⟨w.heap.size + 1 + 1 + 1, 2, none⟩ hO5.lt).trans p2); clear hx5 hb5 hbd hO5; go_wp2_with fail)
          | fail)
      all_goals go_wp2_with fail
      all_goals go_roundw
      all_goals first
        | exact .inr ⟨by go_num, suc_end HX9.out.2 HX9.out.1 HV.out.2.2 HO9.out HLT2.out, HF9.out.2.2.2.2.setCell (show w.heap.size ≤ w.heap.size + 1 + 1 + 1 by omega) _⟩
        | simp [intOf]
    · have HV2 := Lib.hid hv
      have HB2 := Lib.hid hb
      clear hv hb
      go_wp2_with fail
      go_ret
      exact ⟨_, rfl, HV2.out, HB2.out⟩
end Go.Proofs.YtjboibbgigkhkaaGreatDoor

