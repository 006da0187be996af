import Derived.Test.YtjboibbgigkhkaaGetDecl
import Derived.Test.YtjboibbgigkhkaaSameDecl
namespace Go.Proofs.Ytjboibbgigkhkaa
open Go.RowKit

/-- the term of alive: suc of variable 3 -/
def tAl : T := .mk 16 0 [.mk 1 3 []]
theorem tAl_bytes : bytesT tAl = [16, 1, 3] := by
  simp [tAl, bytesT, bytesL, numbered, b8]
theorem tAl_get : getT 24 [16, 1, 3, 7] = .ok (tAl, [7]) := by rfl
def dAl : D := ⟨[97], tAl, tAl⟩
theorem dAl_bytes : declBytes dAl = [1, 97, 16, 1, 3, 16, 1, 3] := by
  unfold declBytes dAl
  simp only [tAl_bytes]
  rfl
theorem dAl_get : getD [1, 97, 16, 1, 3, 16, 1, 3] = .ok dAl := by rfl
theorem tAl_in {w : World} {g : Nat} {S : Nat → Prop} (hg : S g) (h0 : w.cell? ⟨g, 0, none⟩ = some (.int .i64 1)) (h1 : w.cell? ⟨g, 1, none⟩ = some (.int .i64 3)) (h2 : w.cell? ⟨g, 2, none⟩ = some (.slice none 0 0)) :
    argsInS w S tAl (.slice (some ⟨g, 0, none⟩) 1 1) :=
  argsInS_iff.2 ⟨_, 1, rfl, Nat.le_refl _, by unfold maxLen; omega, fun _ => ⟨_, _, rfl, hg, by
    unfold tAl T.al
    rw [cellsInS]
    exact ⟨⟨_, h0, h1, h2, argsInS_iff.2 ⟨none, 0, rfl, Nat.le_refl _, Nat.zero_le _, fun h => absurd rfl h⟩⟩, by rw [cellsInS]; trivial⟩⟩⟩

set_option maxRecDepth 100000 in
set_option maxHeartbeats 1000000 in
theorem alive_any (w : World) :
    Calls Try.prog 5 #[] w (BoolPost true w) := by
  obtain ⟨i0, hi, hz0, hz1, hz2⟩ := info_parts Try.infoU8
  go_enter Try.func5, Try.ntmps5
  go_wp2_with fail
  have hb := ((Below.refl w.heap.size w).alloc (Nat.le_refl _) (.cells #[.int .i64 1, .int .i64 3, .slice none 0 0] 24)).alloc (by simp) (.cells #[.int .i64 16, .int .i64 0, .slice (some ⟨w.heap.size, 0, none⟩) 1 1] 24)
  have hB1 := (Blk.new w 24 #[.int .i64 1, .int .i64 3, .slice none 0 0]).alloc (.cells #[.int .i64 16, .int .i64 0, .slice (some ⟨w.heap.size, 0, none⟩) 1 1] 24)
  have hB2 := Blk.new (w.alloc (.cells #[.int .i64 1, .int .i64 3, .slice none 0 0] 24)) 24 #[.int .i64 16, .int .i64 0, .slice (some ⟨w.heap.size, 0, none⟩) 1 1]
  have hs2 : ((w.alloc (.cells #[.int .i64 1, .int .i64 3, .slice none 0 0] 24)).alloc (.cells #[.int .i64 16, .int .i64 0, .slice (some ⟨w.heap.size, 0, none⟩) 1 1] 24)).heap.size = w.heap.size + 2 := by simp
  rw [show (w.alloc (.cells #[.int .i64 1, .int .i64 3, .slice none 0 0] 24)).heap.size = w.heap.size + 1 by simp] at hB2
  generalize (w.alloc (.cells #[.int .i64 1, .int .i64 3, .slice none 0 0] 24)).alloc (.cells #[.int .i64 16, .int .i64 0, .slice (some ⟨w.heap.size, 0, none⟩) 1 1] 24) = w1 at *
  have ht := tAl_in (S := fun b => b < w1.heap.size) (by show w.heap.size < w1.heap.size; omega) hB1.three.1.1 hB1.three.1.2.1 hB1.three.1.2.2
  refine (wterm_any tAl w1.heap.size [] (.slice none 0 0) w1 _ (World.ownsRow_nil _ _ _ _) ht (Nat.le_refl _) (by rw [tAl_bytes]; simp)).mono ?_
  rintro e w2 ⟨v2, rfl, ho2, hbe⟩
  rw [List.nil_append, tAl_bytes] at ho2
  have hB1' := hB1.below hbe (by omega)
  have hB2' := hB2.below hbe (by omega)
  have hb2 := hb.trans (hbe.mono (by omega))
  have hs3 := hbe.size
  clear hB1 hB2 ht hbe hb
  obtain ⟨⟨q0, q1, q2⟩, -⟩ := hB2'.three
  obtain ⟨bA, bcap, rfl, -⟩ := own_bytes (S := fun _ => True) (l := [16, 1, 3]) ho2 (fun _ _ => trivial)
  go_wp2_with (first | (at_builtin; refine wpList_append_own_at _ rfl (.tmp 14) (.tmp 15) 27 rfl w1.heap.size 5 i0 (.int .u8 0) 1 1 Try.underlying27 hi hz0 hz1 hz2 rfl (by decide) _ _ _ rfl (World.ownsRow.alloc ho2 _) ⟨w2.heap.size, 0, none⟩ 1 1 [.int .u8 7] rfl rfl (new_one _ _ _ _ rfl) (one_byte _) (maxLen_of (by simp)) (bytes_of (by simp)) (by simp; omega) ?_))
  intro v3 w3 ho3 hg3 _ _
  have hlt2 : ∀ k, (Value.slice bA 3 bcap).ownBlock = some k → w1.heap.size ≤ k ∧ k < w2.heap.size := World.ownsRow.lt ho2
  have hbg : Below w1.heap.size w2 w3 := ((Below.refl w1.heap.size w2).alloc (by omega) _).grown hg3 (by simp; omega) (fun k hk => (hlt2 k hk).1)
  have hB1'' := hB1'.below hbg (by omega)
  have hB2'' := hB2'.below hbg (by omega)
  have hb3 := hb2.trans (hbg.mono (by omega))
  have hs4 : w2.heap.size ≤ w3.heap.size := hbg.size
  have hby : bytesIn w3 w3.heap.size [16, 1, 3, 7] v3 := (own_bytes (S := fun b => b < w3.heap.size) (l := [16, 1, 3, 7]) ho3 (fun b h => (World.ownsRow.lt ho3 b h).2)).toB (fun b h => h)
  clear ho2 hlt2 ho3 hg3 hB1' hB2' hb2 hbg q0 q1 q2
  obtain ⟨⟨q0, q1, q2⟩, -⟩ := hB2''.three
  go_wp2_with fail
  have hget := get1_any _ _ _ hby (by simp)
  rw [tAl_get] at hget
  refine hget.mono ?_
  clear hget
  rintro e w4 ⟨s4, v4, rfl, hu, hr, hbe⟩
  obtain ⟨A4, cp4, rfl, -⟩ := argsInS_iff.1 hu
  obtain ⟨A5, cp5, rfl, -⟩ := hr
  simp only [show tAl.k = 16 from rfl, show tAl.n = 0 from rfl, show tAl.al.length = 1 from rfl] at hu ⊢
  have hC1 := (hB1''.below hbe (by omega)).alloc (.cells #[.int .i64 16, .int .i64 0, .slice A4 1 cp4] 24)
  have hC2 := (hB2''.below hbe (by omega)).alloc (.cells #[.int .i64 16, .int .i64 0, .slice A4 1 cp4] 24)
  have hC3 := Blk.new w4 24 #[.int .i64 16, .int .i64 0, .slice A4 1 cp4]
  have hs5 := hbe.size
  have hb4 := (hb3.trans (hbe.mono (by omega))).alloc (by omega) (.cells #[.int .i64 16, .int .i64 0, .slice A4 1 cp4] 24)
  have HU := Lib.hid hu
  clear hu hbe hb3 hB1'' hB2'' hby q0 q1 q2
  obtain ⟨⟨q0, q1, q2⟩, -⟩ := hC2.three
  obtain ⟨⟨p0, p1, p2⟩, -⟩ := hC3.three
  go_wp2_with fail
  have hs6 : (w4.alloc (.cells #[.int .i64 16, .int .i64 0, .slice A4 1 cp4] 24)).heap.size = w4.heap.size + 1 := by simp
  have HU5 := Lib.hid ((HU.out.keep (S' := fun b => w3.heap.size ≤ b ∧ b < w4.heap.size) (fun b h => h) (fun p hp => rfl)).keep (w' := w4.alloc (.cells #[.int .i64 16, .int .i64 0, .slice A4 1 cp4] 24)) (S' := fun b => b < w4.heap.size) (fun b h => h.2) (fun p hp => ((Below.refl w4.heap.size w4).alloc (Nat.le_refl _) _).cell hp.2))
  clear HU p0 p1 p2 q0 q1 q2
  generalize w4.alloc (.cells #[.int .i64 16, .int .i64 0, .slice A4 1 cp4] 24) = w5 at *
  have ht := tAl_in (S := fun b => b < w5.heap.size) (by show w.heap.size < w5.heap.size; omega) hC1.three.1.1 hC1.three.1.2.1 hC1.three.1.2.2
  refine (wdecl_any dAl w5 _ _ ht ht (by simp [dAl]) (by show (bytesT tAl).length ≤ _; rw [tAl_bytes]; simp) (by show (bytesT tAl).length ≤ _; rw [tAl_bytes]; simp)).mono ?_
  rintro e w6 ⟨v6, rfl, ho6, hbe⟩
  rw [dAl_bytes] at ho6
  have hby : bytesIn w6 w6.heap.size [1, 97, 16, 1, 3, 16, 1, 3] v6 := (own_bytes (S := fun b => b < w6.heap.size) (l := [1, 97, 16, 1, 3, 16, 1, 3]) ho6 (fun b h => (World.ownsRow.lt ho6 b h).2)).toB (fun b h => h)
  have hD1 := hC1.below hbe (by omega)
  have hD2 := hC2.below hbe (by omega)
  have hD3 := hC3.below hbe (by omega)
  have hb6 := hb4.trans (hbe.mono (by omega))
  have HU6 := Lib.hid (HU5.out.keep (w' := w6) (S' := fun b => b < w4.heap.size) (fun b h => h) (fun p hp => hbe.cell (by omega)))
  have hs7 := hbe.size
  clear ho6 hbe hC1 hC2 hC3 hb4 HU5 ht
  go_wp2_with fail
  have hget := getd_any _ _ _ hby (by simp)
  rw [dAl_get] at hget
  refine hget.mono ?_
  clear hget
  rintro e w7 ⟨v7, rfl, ⟨s1, s2, rfl, ha1, ha2⟩, hbe⟩
  obtain ⟨A6, cp6, rfl, -⟩ := argsIn_iff.1 ha1
  obtain ⟨A7, cp7, rfl, -⟩ := argsIn_iff.1 ha2
  simp only [show dAl.name.toArray = #[97] from rfl, show dAl.type = tAl from rfl, show dAl.body = tAl from rfl, show tAl.k = 16 from rfl, show tAl.n = 0 from rfl, show tAl.al.length = 1 from rfl] at ha1 ha2 ⊢
  have hE1 := (hD1.below hbe (by omega)).alloc (.cells #[.string ⟨#[97]⟩, .int .i64 16, .int .i64 0, .slice A6 1 cp6, .int .i64 16, .int .i64 0, .slice A7 1 cp7] 26)
  have hE2 := (hD2.below hbe (by omega)).alloc (.cells #[.string ⟨#[97]⟩, .int .i64 16, .int .i64 0, .slice A6 1 cp6, .int .i64 16, .int .i64 0, .slice A7 1 cp7] 26)
  have hE3 := (hD3.below hbe (by omega)).alloc (.cells #[.string ⟨#[97]⟩, .int .i64 16, .int .i64 0, .slice A6 1 cp6, .int .i64 16, .int .i64 0, .slice A7 1 cp7] 26)
  have hE4 := Blk.new w7 26 #[.string ⟨#[97]⟩, .int .i64 16, .int .i64 0, .slice A6 1 cp6, .int .i64 16, .int .i64 0, .slice A7 1 cp7]
  have hs8 := hbe.size
  have hb7 := (hb6.trans (hbe.mono (by omega))).alloc (by omega) (.cells #[.string ⟨#[97]⟩, .int .i64 16, .int .i64 0, .slice A6 1 cp6, .int .i64 16, .int .i64 0, .slice A7 1 cp7] 26)
  have HU7 := Lib.hid (HU6.out.keep (w' := w7.alloc (.cells #[.string ⟨#[97]⟩, .int .i64 16, .int .i64 0, .slice A6 1 cp6, .int .i64 16, .int .i64 0, .slice A7 1 cp7] 26)) (S' := fun b => b < w4.heap.size) (fun b h => h) (fun p hp => (hbe.alloc (by omega) _).cell (by omega)))
  have HA2 := Lib.hid (ha2.keep (w' := w7.alloc (.cells #[.string ⟨#[97]⟩, .int .i64 16, .int .i64 0, .slice A6 1 cp6, .int .i64 16, .int .i64 0, .slice A7 1 cp7] 26)) (Nat.le_refl _) ((Below.refl w7.heap.size w7).alloc (Nat.le_refl _) _))
  have hs9 : (w7.alloc (.cells #[.string ⟨#[97]⟩, .int .i64 16, .int .i64 0, .slice A6 1 cp6, .int .i64 16, .int .i64 0, .slice A7 1 cp7] 26)).heap.size = w7.heap.size + 1 := by simp
  clear ha1 ha2 hbe hD1 hD2 hD3 hb6 HU6 hby
  generalize hw8 : w7.alloc (.cells #[.string ⟨#[97]⟩, .int .i64 16, .int .i64 0, .slice A6 1 cp6, .int .i64 16, .int .i64 0, .slice A7 1 cp7] 26) = w8 at hE1 hE2 hE3 hE4 hb7 HU7 HA2 hs9
  have HW8 := Lib.hid hw8
  obtain ⟨⟨q0, q1, q2⟩, -⟩ := hE2.three
  obtain ⟨⟨p0, p1, p2⟩, -⟩ := hE3.three
  obtain ⟨⟨d0, d1, d2, d3, d4, d5, d6⟩, -⟩ := hE4.seven
  have ht := tAl_in (S := fun b => b < w8.heap.size) (by show w.heap.size < w8.heap.size; omega) hE1.three.1.1 hE1.three.1.2.1 hE1.three.1.2.2
  have HT := Lib.hid ht
  clear ht
  rw [← hw8] at q0 q1 q2 p0 p1 p2 d0 d1 d2 d3 d4 d5 d6
  clear hw8
  go_wp2_with fail
  have e8 := HW8.out
  rw [e8]
  clear e8 HW8 q0 q1 q2 p0 p1 p2 d0 d1 d2 d3 d4 d5 d6
  have hsame : sameT tAl tAl = true := by rfl
  have hcall := same_any tAl tAl w8 _ _ HT.out (HU7.out.keep (w' := w8) (S' := fun b => b < w8.heap.size) (fun b h => by show b < w8.heap.size; have h' : b < w4.heap.size := h; omega) (fun p hp => rfl))
  rw [hsame] at hcall
  refine hcall.mono ?_
  clear hcall
  rintro e w9 ⟨rfl, hbe⟩
  have hF2 := hE2.below hbe (by omega)
  have hF4 := hE4.below hbe (by omega)
  have ht9 := Lib.hid (HT.out.keep (w' := w9) (S' := fun b => b < w9.heap.size) (fun b h => by show b < w9.heap.size; have h' : b < w8.heap.size := h; have := hbe.size; omega) (fun p hp => hbe.cell hp))
  have ha9 := Lib.hid (HA2.out.keep (w' := w9) (B' := w9.heap.size) (by have := hbe.size; omega) (hbe.mono (by omega)))
  have hb9 := hb7.trans (hbe.mono (by omega))
  obtain ⟨⟨q0, q1, q2⟩, -⟩ := hF2.three
  obtain ⟨⟨d0, d1, d2, d3, d4, d5, d6⟩, -⟩ := hF4.seven
  clear hbe HT HA2 hb7 HU7 hE1 hE2 hE3 hE4
  go_wp2_with fail
  have hcall := same_any tAl tAl w9 _ _ ha9.out ht9.out
  rw [hsame] at hcall
  refine hcall.mono ?_
  clear hcall
  rintro e w10 ⟨rfl, hbe⟩
  have hb10 := hb9.trans (hbe.mono (by have := hb9.size; omega))
  clear hbe q0 q1 q2 d0 d1 d2 d3 d4 d5 d6
  go_wp2_with fail
  exact bodyPost_ret (v := .bool true) (by simp [results, Try.results5, go_sem]) rfl ⟨rfl, hb10⟩
end Go.Proofs.Ytjboibbgigkhkaa
