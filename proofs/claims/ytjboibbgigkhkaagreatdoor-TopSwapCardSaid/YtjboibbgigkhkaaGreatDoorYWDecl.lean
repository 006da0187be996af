import Derived.Test.YtjboibbgigkhkaaGreatDoorYWTerm
import Derived.Lib.AppendStr
import Derived.Deep.RegionHeld3
import Derived.Deep.Onto
namespace Go.Proofs.YtjboibbgigkhkaaGreatDoor
open Go.RowKit

/-- a declaration: its name's bytes, its type, its body -/
structure D where
  name : List UInt8
  type : T
  body : T

def declBytes (d : D) : List UInt8 := UInt8.ofNat d.name.length :: (d.name ++ (bytesT d.type ++ bytesT d.body))

/-- its value -/
def DV (w : World) (B : Nat) (d : D) (v : Value) : Prop := ∃ s s', v = .agg #[.string ⟨d.name.toArray⟩, .int .i64 d.type.k, .int .i64 d.type.n, s, .int .i64 d.body.k, .int .i64 d.body.n, s'] ∧ argsIn w B d.type s ∧ argsIn w B d.body s'

theorem strCells_of (l : List UInt8) : Lib.strCells ⟨l.toArray⟩ = u8s l := by simp [Lib.strCells, u8s]

theorem own_lit (w : World) (bx : Obj) (x : Int) : ((w.alloc bx).alloc (.cells #[.int .u8 x] 5)).ownsRow (w.heap.size + 1) 5 1 (.slice (some ⟨w.heap.size + 1, 0, none⟩) 1 1) 1 [.int .u8 x] := by
  refine ⟨rfl, .inr ⟨w.heap.size + 1, 1, #[.int .u8 x], rfl, Nat.le_refl _, ?_, Nat.le_refl _, by unfold maxLen; omega, rfl, rfl⟩⟩
  have h := heap_alloc_new (w.alloc bx) (.cells #[.int .u8 x] 5 (0, 0))
  simpa using h

theorem u8_len {n : Nat} (h : n < 256) : ((UInt8.ofNat n).toNat : Int) = n := by
  rw [UInt8.toNat_ofNat']; omega

/-- the cells of a boxed declaration -/
def boxD (w : World) (g : Nat) (d : D) (s s' : Value) : Prop :=
  w.cell? ⟨g, 0, none⟩ = some (.string ⟨d.name.toArray⟩) ∧ w.cell? ⟨g, 1, none⟩ = some (.int .i64 d.type.k) ∧ w.cell? ⟨g, 2, none⟩ = some (.int .i64 d.type.n) ∧ w.cell? ⟨g, 3, none⟩ = some s ∧
  w.cell? ⟨g, 4, none⟩ = some (.int .i64 d.body.k) ∧ w.cell? ⟨g, 5, none⟩ = some (.int .i64 d.body.n) ∧ w.cell? ⟨g, 6, none⟩ = some s'

theorem boxD.new (w : World) (d : D) (s s' : Value) (t : TypeId) : boxD (w.alloc (.cells #[.string ⟨d.name.toArray⟩, .int .i64 d.type.k, .int .i64 d.type.n, s, .int .i64 d.body.k, .int .i64 d.body.n, s'] t)) w.heap.size d s s' := by
  refine ⟨?_, ?_, ?_, ?_, ?_, ?_, ?_⟩ <;> simp
theorem boxD.keep {w w' : World} {g B : Nat} {d : D} {s s' : Value} (h : boxD w g d s s') (hb : Below B w w') (hg : g < B) : boxD w' g d s s' := by
  obtain ⟨a, b, c, e, f, i, j⟩ := h
  exact ⟨(hb.cell (p := ⟨g, _, none⟩) hg).trans a, (hb.cell (p := ⟨g, _, none⟩) hg).trans b, (hb.cell (p := ⟨g, _, none⟩) hg).trans c, (hb.cell (p := ⟨g, _, none⟩) hg).trans e, (hb.cell (p := ⟨g, _, none⟩) hg).trans f, (hb.cell (p := ⟨g, _, none⟩) hg).trans i, (hb.cell (p := ⟨g, _, none⟩) hg).trans j⟩

theorem decl_step {w w1 : World} {d : D} {s s' : Value} {t : TypeId} {o : Obj} {v1 : Value} (hn : d.name.length < 256)
    (h1 : w1.ownsRow (w.heap.size + 1) 5 1 v1 (1 + d.name.length) (Value.int IntKind.u8 d.name.length :: Lib.strCells ⟨d.name.toArray⟩))
    (hg : ((w.alloc (.cells #[.string ⟨d.name.toArray⟩, .int .i64 d.type.k, .int .i64 d.type.n, s, .int .i64 d.body.k, .int .i64 d.body.n, s'] t)).alloc o).grownBy w1 (Value.slice (some ⟨w.heap.size + 1, 0, none⟩) 1 1).ownBlock) :
    ownsB w1 (w.heap.size + 1) v1 (UInt8.ofNat d.name.length :: d.name) ∧ boxD w1 w.heap.size d s s' ∧ Below w.heap.size w w1 ∧ w.heap.size + 1 ≤ w1.heap.size := by
  have hsz := hg.size
  simp at hsz
  have hb : Below (w.heap.size + 1) (w.alloc (.cells #[.string ⟨d.name.toArray⟩, .int .i64 d.type.k, .int .i64 d.type.n, s, .int .i64 d.body.k, .int .i64 d.body.n, s'] t)) w1 :=
    ((Below.refl _ _).alloc (by simp) _).grown hg (by simp) (fun k hk => by simp [Value.ownBlock] at hk; omega)
  refine ⟨?_, (boxD.new w d s s' t).keep hb (by omega), ((Below.refl _ _).alloc (Nat.le_refl _) _).trans (hb.mono (by omega)), by omega⟩
  unfold ownsB
  rw [strCells_of] at h1
  have e : u8s (UInt8.ofNat d.name.length :: d.name) = Value.int IntKind.u8 d.name.length :: u8s d.name := by
    show Value.int .u8 ((UInt8.ofNat d.name.length).toNat : Nat) :: _ = _
    rw [u8_len hn]
    rfl
  rw [e, List.length_cons, Nat.add_comm d.name.length 1]
  exact h1

set_option maxHeartbeats 1000000 in
theorem wdecl_any (d : D) (w : World) (s s' : Value) (hs : argsIn w w.heap.size d.type s) (hs' : argsIn w w.heap.size d.body s') (hn : d.name.length < 256) (ht : (bytesT d.type).length ≤ 1000) (hb : (bytesT d.body).length ≤ 1000) :
    Calls Tryz.prog 49 #[.agg #[.string ⟨d.name.toArray⟩, .int .i64 d.type.k, .int .i64 d.type.n, s, .int .i64 d.body.k, .int .i64 d.body.n, s']] w
      fun e w' => ∃ v', e = .returned v' ∧ ownsB w' w.heap.size v' (declBytes d) ∧ Below w.heap.size w w' := by
  obtain ⟨A, cap, rfl, h1, h2, h3⟩ := argsIn_iff.1 hs
  obtain ⟨A', cap', rfl, h1', h2', h3'⟩ := argsIn_iff.1 hs'
  obtain ⟨i0, hi, hz0, hz1, hz2⟩ := info_parts Tryz.infoU8
  clear h3 h3'
  go_enter Tryz.func49, Tryz.ntmps49
  go_wp2_with (first
    | (at_builtin; refine Lib.wpList_append_own_string _ rfl (.tmp 8) (.tmp 10) 84 9 rfl (w.heap.size + 1) 5 i0 Tryz.underlying84 Tryz.underlying9 hi hz0 hz1 hz2 _ _ _ rfl (own_lit w _ _) ⟨d.name.toArray⟩ rfl (by show 1 + d.name.toArray.size ≤ _; simp [maxLen]; omega) (by show 1 + d.name.toArray.size ≤ _; simp; omega) (by simp) ?_))
  intro v1 w1 hown1 hgrow1 _
  obtain ⟨ho1, hbx, hb1, hsz1⟩ := decl_step hn hown1 hgrow1
  clear hown1 hgrow1
  go_wp2_with fail
  obtain ⟨b0, b1, b2, b3, b4, b5, b6⟩ := hbx
  have ho1d : ownsB w1.drew (w.heap.size + 1) v1 (UInt8.ofNat d.name.length :: d.name) := ho1
  have hcs : argsIn w1.drew (w.heap.size + 1) d.type (.slice A d.type.al.length cap) := hs.keep (by omega) hb1.drew
  have hcs' : argsIn w1.drew (w.heap.size + 1) d.body (.slice A' d.body.al.length cap') := hs'.keep (by omega) hb1.drew
  have hl1 : (UInt8.ofNat d.name.length :: d.name).length + (bytesT d.type).length ≤ 1000000000 := by simp only [List.length_cons]; omega
  have hl2 : ((UInt8.ofNat d.name.length :: d.name) ++ bytesT d.type).length + (bytesT d.body).length ≤ 1000000000 := by simp only [List.length_append, List.length_cons]; omega
  have HL1 := Lib.hid hl1
  have HL2 := Lib.hid hl2
  have HO := Lib.hid ho1d
  have HC := Lib.hid hcs
  have HC' := Lib.hid hcs'
  have HB := Lib.hid hb1.drew
  have HZ := Lib.hid (show w.heap.size + 1 ≤ w1.drew.heap.size from hsz1)
  clear hl1 hl2 ho1 ho1d hcs hcs' hb1 hs hs'
  go_region_held3 (fun w' => w'.cell? ⟨w.heap.size, 1, none⟩ = some (.int .i64 d.type.k) ∧ w'.cell? ⟨w.heap.size, 2, none⟩ = some (.int .i64 d.type.n) ∧ w'.cell? ⟨w.heap.size, 3, none⟩ = some (.slice A d.type.al.length cap) ∧ w'.cell? ⟨w.heap.size, 4, none⟩ = some (.int .i64 d.body.k) ∧ w'.cell? ⟨w.heap.size, 5, none⟩ = some (.int .i64 d.body.n) ∧ w'.cell? ⟨w.heap.size, 6, none⟩ = some (.slice A' d.body.al.length cap')) (go_keep)
    (first
      | ((with_reducible refine (wterm_any d.type (w.heap.size + 1) _ v1 _ _ HO.out HC.out HZ.out HL1.out).mono ?_); rintro e w2 ⟨v2, rfl, ho2, hb2⟩; (have HO2 := Lib.hid ho2); (have HB2 := Lib.hid hb2); (have k1 := (hb2.cell (p := ⟨w.heap.size, 1, none⟩) (Nat.lt_succ_self _) : _ = w1.cell? _).trans b1); (have k2 := (hb2.cell (p := ⟨w.heap.size, 2, none⟩) (Nat.lt_succ_self _) : _ = w1.cell? _).trans b2); (have k3 := (hb2.cell (p := ⟨w.heap.size, 3, none⟩) (Nat.lt_succ_self _) : _ = w1.cell? _).trans b3); (have k4 := (hb2.cell (p := ⟨w.heap.size, 4, none⟩) (Nat.lt_succ_self _) : _ = w1.cell? _).trans b4); (have k5 := (hb2.cell (p := ⟨w.heap.size, 5, none⟩) (Nat.lt_succ_self _) : _ = w1.cell? _).trans b5); (have k6 := (hb2.cell (p := ⟨w.heap.size, 6, none⟩) (Nat.lt_succ_self _) : _ = w1.cell? _).trans b6); clear ho2 hb2)
      | ((with_reducible refine (wterm_any d.body (w.heap.size + 1) _ _ _ _ HO2.out (HC'.out.keep (Nat.le_refl _) HB2.out) (Nat.le_trans HZ.out HB2.out.size) HL2.out).mono ?_); rintro e w3 ⟨v3, rfl, ho3, hb3⟩; (have HO3 := Lib.hid ho3); (have HB3 := Lib.hid hb3); (have m1 := (hb3.cell (p := ⟨w.heap.size, 1, none⟩) (Nat.lt_succ_self _)).trans k1); (have m2 := (hb3.cell (p := ⟨w.heap.size, 2, none⟩) (Nat.lt_succ_self _)).trans k2); (have m3 := (hb3.cell (p := ⟨w.heap.size, 3, none⟩) (Nat.lt_succ_self _)).trans k3); (have m4 := (hb3.cell (p := ⟨w.heap.size, 4, none⟩) (Nat.lt_succ_self _)).trans k4); (have m5 := (hb3.cell (p := ⟨w.heap.size, 5, none⟩) (Nat.lt_succ_self _)).trans k5); (have m6 := (hb3.cell (p := ⟨w.heap.size, 6, none⟩) (Nat.lt_succ_self _)).trans k6); clear ho3 hb3))
  go_wp2_with fail
  go_ret
  refine ⟨_, rfl, ?_, HB.out.trans ((HB2.out.trans HB3.out).mono (Nat.le_succ _))⟩
  have h := HO3.out
  simp only [List.cons_append, List.append_assoc] at h
  exact World.ownsRow.mono h (Nat.le_succ _)
end Go.Proofs.YtjboibbgigkhkaaGreatDoor

