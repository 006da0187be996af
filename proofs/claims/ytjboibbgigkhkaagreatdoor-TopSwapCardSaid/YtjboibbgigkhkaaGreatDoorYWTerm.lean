import Derived.Test.YtjboibbgigkhkaaGreatDoorYNumbered
import Derived.Maps.AppendAt
import Derived.Deep.DeepCutAuto
import Derived.Deep.CutBlock
namespace Go.Proofs.YtjboibbgigkhkaaGreatDoor
open Go.RowKit

def u8s (xs : List UInt8) : List Value := xs.map fun c => Value.int .u8 (c.toNat : Nat)
theorem u8s_length (xs : List UInt8) : (u8s xs).length = xs.length := by simp [u8s]
theorem u8s_append (xs ys : List UInt8) : u8s (xs ++ ys) = u8s xs ++ u8s ys := by simp [u8s]
theorem u8s_one (c : UInt8) : u8s [c] = [Value.int .u8 (c.toNat : Nat)] := rfl
theorem u8s_oneCell (xs : List UInt8) : ∀ u ∈ u8s xs, u.oneCell' = true := by
  intro u hu
  obtain ⟨c, _, rfl⟩ := List.mem_map.1 hu
  rfl
theorem b8_mod (x : Int) : ((b8 x).toNat : Int) = x % 256 := by
  unfold b8
  rw [UInt8.toNat_ofNat']
  omega

theorem Tryz.infoU8 : (Tryz.prog.info? 5).map (fun i => (i.zero, i.size, i.bytes)) = some (some (.int .u8 0), 1, 1) := by kernel_rfl

/-- the bytes xs lie in a row of the call's own, from block base on -/
def ownsB (w : World) (base : Nat) (v : Value) (xs : List UInt8) : Prop := w.ownsRow base 5 1 v xs.length (u8s xs)

def BytesPost (base : Nat) (xs : List UInt8) (w : World) (e : Ending) (w' : World) : Prop := ∃ v', e = .returned v' ∧ ownsB w' base v' xs ∧ Below base w w'

def headB (t : T) : List UInt8 := b8 t.k :: (if numbered t.k then [b8 t.n] else [])
theorem bytesT_eq (t : T) : bytesT t = headB t ++ bytesL t.al := by cases t; rw [bytesT]; rfl
theorem bytesL_take_succ {al : List T} {k : Nat} {x : T} (h : al[k]? = some x) : bytesL (al.take (k + 1)) = bytesL (al.take k) ++ bytesT x := by
  induction al generalizing k with
  | nil => simp at h
  | cons a r ih =>
    cases k with
    | zero => simp only [List.getElem?_cons_zero, Option.some.injEq] at h; subst h; simp [bytesL]
    | succ k => simp only [List.getElem?_cons_succ] at h; simp only [List.take_succ_cons, bytesL, ih h, List.append_assoc]
theorem bytesL_take_len {al : List T} {k : Nat} : (bytesL (al.take k)).length ≤ (bytesL al).length := by
  induction al generalizing k with
  | nil => simp
  | cons a r ih =>
    cases k with
    | zero => simp [bytesL]
    | succ k => simp only [List.take_succ_cons, bytesL, List.length_append]; have := ih (k := k); omega

theorem new_one (w : World) (u : Value) (t : TypeId) (n : Nat) (hn : n = w.heap.size) : ∀ j u', [u][j]? = some u' → (w.alloc (.cells #[u] t)).cell? ((⟨n, 0, none⟩ : Addr).add j) = some u' := by
  intro j u' h
  subst hn
  match j, h with
  | 0, h => simp at h; subst h; simp [Addr.add]
theorem one_byte (x : Int) : ∀ u ∈ [Value.int .u8 x], u.oneCell' = true := by
  intro u hu
  simp at hu
  subst hu
  rfl
theorem maxLen_of {n : Nat} (h : n ≤ 2000000000) : n ≤ maxLen := by unfold maxLen; omega
theorem bytes_of {n : Nat} (h : n ≤ 2000000000) : n * 1 ≤ 140737488355328 := by omega

/-- behind an append of a byte to a row of the call's own, a struct boxed ahead of it: the struct is there, the row is longer, what lay below stands -/
theorem grow_box {w w1 : World} {base : Nat} {v v1 a b c : Value} {xs : List UInt8} {y : UInt8} {x : Int} {t : TypeId} {o : Obj} (hown : ownsB w base v xs) (hbase : base ≤ w.heap.size) (hy : (y.toNat : Int) = x)
    (h1 : w1.ownsRow base 5 1 v1 (xs.length + 1) (u8s xs ++ [Value.int .u8 x])) (hg : ((w.alloc (.cells #[a, b, c] t)).alloc o).grownBy w1 v.ownBlock) :
    (w1.cell? ⟨w.heap.size, 0, none⟩ = some a ∧ w1.cell? ⟨w.heap.size, 1, none⟩ = some b ∧ w1.cell? ⟨w.heap.size, 2, none⟩ = some c) ∧ ownsB w1 base v1 (xs ++ [y]) ∧ Below base w w1 ∧ w.heap.size + 2 ≤ w1.heap.size := by
  have hlt : ∀ k, v.ownBlock = some k → base ≤ k ∧ k < w.heap.size := hown.lt
  have hne : some w.heap.size ≠ v.ownBlock := fun e => by have := hlt _ e.symm; omega
  have hsz := hg.size
  simp at hsz
  refine ⟨⟨?_, ?_, ?_⟩, ?_, ?_, by omega⟩
  · exact hg.cell (by rw [World.cell?_alloc_past _ _ _ (by simp), World.cell?_alloc_at _ _ _ _ rfl]; rfl) hne
  · exact hg.cell (by rw [World.cell?_alloc_past _ _ _ (by simp), World.cell?_alloc_at _ _ _ _ rfl]; rfl) hne
  · exact hg.cell (by rw [World.cell?_alloc_past _ _ _ (by simp), World.cell?_alloc_at _ _ _ _ rfl]; rfl) hne
  · unfold ownsB
    rw [u8s_append, u8s_one, hy, List.length_append]
    exact h1
  · exact (((Below.refl base w).alloc hbase _).alloc (by simp; omega) _).grown hg (by simp; omega) (fun k hk => (hlt k hk).1)

theorem grow_more {w w1 : World} {base g : Nat} {v v1 a b c : Value} {xs : List UInt8} {y : UInt8} {x : Int} {o : Obj} (hown : ownsB w base v xs) (hbase : base ≤ w.heap.size) (hy : (y.toNat : Int) = x)
    (h1 : w1.ownsRow base 5 1 v1 (xs.length + 1) (u8s xs ++ [Value.int .u8 x])) (hg : (w.alloc o).grownBy w1 v.ownBlock) (hbx : w.cell? ⟨g, 0, none⟩ = some a ∧ w.cell? ⟨g, 1, none⟩ = some b ∧ w.cell? ⟨g, 2, none⟩ = some c) (hne : v.ownBlock ≠ some g) :
    (w1.cell? ⟨g, 0, none⟩ = some a ∧ w1.cell? ⟨g, 1, none⟩ = some b ∧ w1.cell? ⟨g, 2, none⟩ = some c) ∧ ownsB w1 base v1 (xs ++ [y]) ∧ Below base w w1 ∧ w.heap.size + 1 ≤ w1.heap.size := by
  have hlt : ∀ k, v.ownBlock = some k → base ≤ k ∧ k < w.heap.size := hown.lt
  have hsz := hg.size
  simp at hsz
  have hgl : g < w.heap.size := World.block_lt_of_cell? w ⟨g, 0, none⟩ hbx.1
  refine ⟨⟨?_, ?_, ?_⟩, ?_, ?_, by omega⟩
  · exact hg.cell (by rw [World.cell?_alloc_past _ _ _ hgl]; exact hbx.1) (Ne.symm hne)
  · exact hg.cell (by rw [World.cell?_alloc_past _ _ _ hgl]; exact hbx.2.1) (Ne.symm hne)
  · exact hg.cell (by rw [World.cell?_alloc_past _ _ _ hgl]; exact hbx.2.2) (Ne.symm hne)
  · unfold ownsB
    rw [u8s_append, u8s_one, hy, List.length_append]
    exact h1
  · exact ((Below.refl base w).alloc hbase _).grown hg (by simp; omega) (fun k hk => (hlt k hk).1)

set_option maxHeartbeats 1000000 in
theorem wterm_any (t : T) : ∀ (base : Nat) (xs : List UInt8) (v : Value) (w : World) (s : Value), ownsB w base v xs → argsIn w base t s → base ≤ w.heap.size → xs.length + (bytesT t).length ≤ 1000000000 →
    Calls Tryz.prog 82 #[v, .agg #[.int .i64 t.k, .int .i64 t.n, s]] w (BytesPost base (xs ++ bytesT t) w) := by
  induction t using T.ind_args with
  | _ t ih =>
  intro base xs v w s hown hs hbase hlen
  obtain ⟨A, cap, rfl, h1, h2, h3⟩ := argsIn_iff.1 hs
  unfold maxLen at h2
  obtain ⟨i0, hi, hz0, hz1, hz2⟩ := info_parts Tryz.infoU8
  have hbt := bytesT_eq t
  rw [hbt] at hlen ⊢
  simp only [List.length_append] at hlen
  have IH := Lib.hid ih
  have H3 := Lib.hid h3
  clear ih h3 hs hbt
  have HH := Lib.hid (show headB t = b8 t.k :: (if numbered t.k then [b8 t.n] else []) from rfl)
  generalize headB t = hd at *
  go_enter Tryz.func82, Tryz.ntmps82
  go_wp2_with (first
    | (at_builtin; refine wpList_append_own_at _ rfl (.tmp 7) (.tmp 11) 84 rfl base 5 i0 (.int .u8 0) 1 1 Tryz.underlying84 hi hz0 hz1 hz2 rfl (by decide) _ _ _ rfl ((hown.alloc _).alloc _) ⟨w.heap.size + 1, 0, none⟩ 1 1 [.int .u8 (t.k % 256)] rfl rfl (new_one _ _ _ _ (by simp)) (one_byte _) (maxLen_of (by omega)) (bytes_of (by omega)) (by simp; omega) ?_))
  intro v1 w1 hown1 hgrow1 _ hloc1
  obtain ⟨⟨q0, q1, q2⟩, ho1, hb1, hsz1⟩ := grow_box hown hbase (b8_mod t.k) hown1 hgrow1
  have hne1 : v1.ownBlock ≠ some w.heap.size := by
    have hlt : ∀ k, v.ownBlock = some k → base ≤ k ∧ k < w.heap.size := hown.lt
    rcases hloc1 with e | e <;> rw [e] <;> intro h
    · have := hlt _ h; omega
    · injection h with h; omega
  clear hown1 hgrow1 hloc1
  have hsz0 : base ≤ w1.heap.size := by omega
  go_wp2_with fail
  refine (numbered_any _ _).mono ?_
  rintro e w' ⟨rfl, rfl⟩
  go_upto_if 15 with fail
  go_cut [0] (fun v wc => ownsB wc base v (xs ++ hd) ∧ wc.cell? ⟨w.heap.size, 2, none⟩ = some (.slice A t.al.length cap) ∧ Below base w wc ∧ base ≤ wc.heap.size)
  case first =>
    generalize numbered t.k = nb at *
    cases nb with
    | true =>
      have hh := HH.out
      rw [if_pos rfl] at hh
      subst hh
      simp only [List.length_cons, List.length_nil] at hlen
      go_wp2_with (first
        | (at_builtin; refine wpList_append_own_at _ rfl (.tmp 16) (.tmp 20) 84 rfl base 5 i0 (.int .u8 0) 1 1 Tryz.underlying84 hi hz0 hz1 hz2 rfl (by decide) _ _ _ rfl (ho1.alloc _) ⟨w1.heap.size, 0, none⟩ 1 1 [.int .u8 (t.n % 256)] rfl rfl (new_one _ _ _ _ rfl) (one_byte _) (maxLen_of (by simp; omega)) (bytes_of (by simp; omega)) (by simp; omega) ?_))
      intro v2 w2 hown2 hgrow2 _ hloc2
      obtain ⟨⟨p0, p1, p2⟩, ho2, hb2, hsz2⟩ := grow_more ho1 hsz0 (b8_mod t.n) (by rw [List.length_append]; exact hown2) hgrow2 ⟨q0, q1, q2⟩ hne1
      have hb3 := hb1.trans hb2
      clear hown2 hgrow2 hloc2 hb2
      go_wp2_with fail
      go_meet
      exact ⟨by rw [List.append_assoc] at ho2; exact ho2, p2, hb3, by omega⟩
    | false =>
      have hh := HH.out
      rw [if_neg (by decide)] at hh
      subst hh
      go_wp2_with fail
      go_meet
      exact ⟨ho1, q2, hb1, hsz0⟩
  case rest =>
    obtain ⟨ho2, q2', hb2, hszc⟩ := hcut
    clear q0 q1 q2 ho1 hne1 hb1
    go_wp2_with fail
    go_loopw [0, 25] (fun v i wr => ∃ k : Nat, k ≤ t.al.length ∧ i = .int .i64 k ∧ ownsB wr base v (xs ++ hd ++ bytesL (t.al.take k)) ∧ Below base w wr ∧ base ≤ wr.heap.size) (fun _ i _ => t.al.length - (intOf i).toNat)
    case atStart => exact ⟨0, by omega, rfl, by simpa [bytesL] using ho2, hb2, hszc⟩
    case round =>
      obtain ⟨k, hk, rfl, hov, hb, hsz⟩ := hrel
      clear ho2 q2' hb2 hszc
      by_cases hlt : k < t.al.length
      · obtain ⟨x, hx⟩ := length_getElem hlt
        obtain ⟨bl, off, hA, hbb, hc⟩ := H3.out (by intro e; rw [e] at hx; simp at hx)
        obtain ⟨A1, cap1, c1, c2, c3, c4⟩ := hc.at_ hx
        rw [← hb.cell (p := ⟨bl, _, none⟩) hbb] at c1 c2 c3
        subst hA
        have hts := bytesL_take_succ hx
        have htl := bytesL_take_len (al := t.al) (k := k + 1)
        rw [hts, List.length_append] at htl
        have HTS := Lib.hid hts
        have hxm := List.mem_of_getElem? hx
        clear hc hx hts
        go_wp2_with fail
        have hb1 := hb.alloc hsz (Obj.cells #[Value.int IntKind.i64 x.k, Value.int IntKind.i64 x.n, Value.slice A1 x.al.length cap1] 30)
        refine (IH.out x hxm base _ _ _ _ (World.ownsRow.alloc hov _) (c4.keep (Nat.le_refl _) hb1) (by simp; omega) (by simp only [List.length_append]; omega)).mono ?_
        rintro e w2 ⟨v2, rfl, ho2, hb2⟩
        have hb3 := hb1.trans hb2
        have hsz3 : base ≤ w2.heap.size := by have := hb2.size; simp at this; omega
        clear hb1 hb2 c1 c2 c3 c4 hov
        go_wp2_with fail
        go_roundw
        case rel => exact ⟨k + 1, by omega, by go_num, by rw [HTS.out, ← List.append_assoc]; exact ho2, hb3, hsz3⟩
        case measure => simp [intOf]; omega
      · obtain rfl : k = t.al.length := by omega
        rw [List.take_length] at hov
        go_wp2_with fail
        go_ret
        exact ⟨_, rfl, by rw [← List.append_assoc]; exact hov, hb⟩
end Go.Proofs.YtjboibbgigkhkaaGreatDoor

