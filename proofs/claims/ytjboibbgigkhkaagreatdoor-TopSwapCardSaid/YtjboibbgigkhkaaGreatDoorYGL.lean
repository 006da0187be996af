import Derived.Test.YtjboibbgigkhkaaGreatDoorYReads
import Derived.Test.YtjboibbgigkhkaaGreatDoorYNumbered
import Derived.Test.YtjboibbgigkhkaaGreatDoorYBinds
import Derived.Deep.DeepCutAuto
import Derived.Deep.CutBlock
import Derived.Deep.RegionHeld3
import Derived.Laws.ResultCell
import Derived.ChangeAlike
import Derived.BigRegion
import Derived.Test.YtjboibbgigkhkaaGreatDoorYLook
namespace Go.Proofs.YtjboibbgigkhkaaGreatDoor
open Go.RowKit

def u8c (xs : List UInt8) : List Value := xs.map fun c => Value.int .u8 (c.toNat : Nat)

/-- the slice value v holds these bytes, in a block below B -/
def bytesIn (w : World) (B : Nat) (l : List UInt8) (v : Value) : Prop := ∃ A cap, v = .slice A l.length cap ∧ l.length ≤ cap ∧ cap ≤ maxLen ∧ Reads w B 1 A l.length (u8c l)

theorem bytesIn.keep {w w' : World} {B B' : Nat} {l : List UInt8} {v : Value} (h : bytesIn w B l v) (hB : B ≤ B') (hb : Below B w w') : bytesIn w' B' l v := by
  obtain ⟨A, cap, h1, h2, h3, h4⟩ := h
  exact ⟨A, cap, h1, h2, h3, (h4.below hb).more hB⟩

/-- likewise, in blocks of a set -/
def bytesInS (w : World) (S : Nat → Prop) (l : List UInt8) (v : Value) : Prop := ∃ A cap, v = .slice A l.length cap ∧ l.length ≤ cap ∧ cap ≤ maxLen ∧ (l ≠ [] → ∃ b off, A = some ⟨b, off, none⟩ ∧ S b ∧ ∀ j c, l[j]? = some c → w.cell? ⟨b, off + j, none⟩ = some (.int .u8 (c.toNat : Nat)))

theorem bytesInS.keep {w w' : World} {S S' : Nat → Prop} {l : List UInt8} {v : Value} (h : bytesInS w S l v) (hS : ∀ b, S b → S' b) (hk : ∀ p : Addr, S p.block → w'.cell? p = w.cell? p) : bytesInS w' S' l v := by
  obtain ⟨A, cap, h1, h2, h3, h4⟩ := h
  refine ⟨A, cap, h1, h2, h3, fun hne => ?_⟩
  obtain ⟨b, off, e, hb, hc⟩ := h4 hne
  exact ⟨b, off, e, hS b hb, fun j c hj => (hk ⟨b, _, none⟩ hb).trans (hc j c hj)⟩

theorem u8c_get {l : List UInt8} {j : Nat} : (u8c l)[j]? = (l[j]?).map fun c => Value.int .u8 (c.toNat : Nat) := by simp [u8c]

theorem bytesIn.toS {w : World} {B : Nat} {l : List UInt8} {v : Value} (h : bytesIn w B l v) : bytesInS w (fun b => b < B) l v := by
  obtain ⟨A, cap, h1, h2, h3, h4⟩ := h
  refine ⟨A, cap, h1, h2, h3, fun hne => ?_⟩
  obtain ⟨⟨b, off, spot⟩, e, hb, hc⟩ := h4.2 (by cases l with | nil => exact absurd rfl hne | cons a r => simp)
  have h0 : ∃ c, l[0]? = some c := by cases l with | nil => exact absurd rfl hne | cons a r => exact ⟨a, rfl⟩
  obtain ⟨c, hc0⟩ := h0
  have hsp : spot = none := by simpa [Addr.add] using World.cell?_spot (hc 0 _ (by rw [u8c_get, hc0]; rfl))
  subst hsp
  refine ⟨b, off, e, hb, fun j c hj => ?_⟩
  have := hc j _ (by rw [u8c_get, hj]; rfl)
  rwa [Go.WideShapes.add_plain] at this

theorem bytesInS.toB {w : World} {S : Nat → Prop} {B : Nat} {l : List UInt8} {v : Value} (h : bytesInS w S l v) (hS : ∀ b, S b → b < B) : bytesIn w B l v := by
  obtain ⟨A, cap, h1, h2, h3, h4⟩ := h
  refine ⟨A, cap, h1, h2, h3, by simp [u8c], fun hn => ?_⟩
  obtain ⟨b, off, e, hb, hc⟩ := h4 (by intro e; subst e; simp at hn)
  refine ⟨_, e, hS b hb, fun j u hj => ?_⟩
  rw [u8c_get] at hj
  cases hl : l[j]? with
  | none => rw [hl] at hj; cases hj
  | some c =>
    rw [hl] at hj
    simp only [Option.map_some, Option.some.injEq] at hj
    subst hj
    rw [Go.WideShapes.add_plain]
    exact hc j c hl

/-- behind bytes that begin with no term -/
def noTerm (c : Int) : Value := .tuple #[.agg #[.int .i64 0, .int .i64 0, .slice none 0 0], .slice none 0 0, .int .i64 c]

set_option maxHeartbeats 400000 in
theorem no_any (c : Int) (w : World) :
    Calls Tryz.prog 151 #[.int .i64 c] w fun e w' => e = .returned (noTerm c) ∧ Below w.heap.size w w' := by
  go_enter Tryz.func151, Tryz.ntmps151
  go_wp2
  exact bodyPost_ret (v := noTerm c) (by simp [results, Tryz.results151, go_sem, noTerm]) rfl ⟨rfl, (Below.refl _ _).alloc (Nat.le_refl _) _⟩

/-- three cells of a block that is known whole, none frozen -/
theorem Blk.three {w : World} {g : Nat} {t : TypeId} {a b c : Value} (h : Blk w g t #[a, b, c]) :
    (w.cell? ⟨g, 0, none⟩ = some a ∧ w.cell? ⟨g, 1, none⟩ = some b ∧ w.cell? ⟨g, 2, none⟩ = some c) ∧ (w.frozen? ⟨g, 0, none⟩ = false ∧ w.frozen? ⟨g, 1, none⟩ = false ∧ w.frozen? ⟨g, 2, none⟩ = false) :=
  ⟨⟨h.cell 0, h.cell 1, h.cell 2⟩, h.frozen 0, h.frozen 1, h.frozen 2⟩

theorem binds_at (k : Int) (w : World) : Calls Tryz.prog 76 #[.int .i64 k] w fun e w' => ∃ (A : Option Addr) (cap : Nat), e = .returned (.tuple #[.slice A ((shape k).getD []).length cap, .bool (shape k).isSome]) ∧ Below w.heap.size w w' :=
  (binds_any k w).mono fun e w' ⟨s, h1, h2, h3⟩ => by
    obtain ⟨A, cap, rfl, _⟩ := h2
    exact ⟨A, cap, h1, h3⟩

/-- the blocks of the answer and of the term under way -/
theorem two_blocks {w w1 : World} {t : TypeId} {a b c : Value} (hb : Below ((w.alloc (.cells #[.int .i64 0, .int .i64 0, .slice none 0 0] t)).alloc (.cells #[a, b, c] t)).heap.size ((w.alloc (.cells #[.int .i64 0, .int .i64 0, .slice none 0 0] t)).alloc (.cells #[a, b, c] t)) w1) :
    Blk w1 w.heap.size t #[.int .i64 0, .int .i64 0, .slice none 0 0] ∧ Blk w1 (w.heap.size + 1) t #[a, b, c] ∧ Below w.heap.size w w1 ∧ w.heap.size + 2 ≤ w1.heap.size := by
  have hsz := hb.size
  simp at hsz
  refine ⟨((Blk.new w t _).alloc _).below hb (by simp; omega), ?_, (((Below.refl _ _).alloc (Nat.le_refl _) _).alloc (by simp) _).trans (hb.mono (by simp; omega)), hsz⟩
  have h := (Blk.new (w.alloc (.cells #[.int .i64 0, .int .i64 0, .slice none 0 0] t)) t #[a, b, c]).below hb (by simp)
  simpa using h

/-- the first byte taken off -/
theorem Reads.tail1 {w : World} {B b off cap : Nat} {k : UInt8} {r : List UInt8} (h : Reads w B 1 (some ⟨b, off, none⟩) (k :: r).length (u8c (k :: r))) (hc : r.length + 1 ≤ cap) :
    (cap = 1 → bytesIn w B r (.slice (some ⟨b, off, none⟩) r.length 0)) ∧ (¬ cap = 1 → cap ≤ maxLen → bytesIn w B r (.slice (some ⟨b, off + 1, none⟩) r.length (cap - 1))) := by
  have hct := h.cut (k := 1) (cap := cap) (by simp) (by simpa using hc)
  have e : (u8c (k :: r)).drop (1 * 1) = u8c r := rfl
  rw [e] at hct
  simp only [List.length_cons, Nat.add_sub_cancel] at hct
  constructor
  · intro h1
    rw [if_pos h1] at hct
    exact ⟨_, _, rfl, by omega, by unfold maxLen; omega, hct⟩
  · intro h1 h2
    rw [if_neg h1] at hct
    refine ⟨_, _, rfl, by omega, by omega, ?_⟩
    simpa [Addr.add] using hct

/-- the blocks that neither the answer, nor the term under way, nor the row of its arguments uses -/
def others (g : Nat) (V : Value) (n : Nat) : Nat → Prop := fun b => b < g ∨ (g + 2 ≤ b ∧ b < n ∧ V.ownBlock ≠ some b)

/-- of these the new ones -/
def othersN (g : Nat) (V : Value) (n : Nat) : Nat → Prop := fun b => g + 2 ≤ b ∧ b < n ∧ V.ownBlock ≠ some b

/-- the terms that were read so far: a row of the call's own, of three cells each -/
def rowT (w : World) (base : Nat) (S : Nat → Prop) (V : Value) (ts : List T) : Prop := ∃ cs : List Value, w.ownsRow base 30 3 V ts.length cs ∧
  ∀ (i : Nat) (t : T), ts[i]? = some t → ∃ s, cs[i * 3]? = some (.int .i64 t.k) ∧ cs[i * 3 + 1]? = some (.int .i64 t.n) ∧ cs[i * 3 + 2]? = some s ∧ argsInS w S t s

theorem rowT_nil (w : World) (base : Nat) (S : Nat → Prop) : rowT w base S (.slice none 0 0) [] := ⟨[], World.ownsRow_nil _ _ _ _, fun i t h => by simp at h⟩

/-- such a row is a term's arguments -/
theorem rowT.args {w : World} {base : Nat} {S S' : Nat → Prop} {V : Value} {ts : List T} {k n : Int} (h : rowT w base S V ts) (hS : ∀ b, S b → S' b) (hV : ∀ b, V.ownBlock = some b → S' b) : argsInS w S' (.mk k n ts) V := by
  obtain ⟨cs, hown, hts⟩ := h
  rw [argsInS]
  rcases hown.2 with ⟨rfl, h0⟩ | ⟨g, cap, cur, rfl, hb, hh, hle, hm, hsz, htk⟩
  · have : ts = [] := List.eq_nil_of_length_eq_zero h0
    subst this
    exact ⟨none, 0, rfl, Nat.le_refl _, by unfold maxLen; omega, fun hne => absurd rfl hne⟩
  · refine ⟨_, cap, rfl, hle, hm, fun _ => ⟨g, 0, rfl, hV g rfl, cellsInS.mk_ fun i t hi => ?_⟩⟩
    obtain ⟨s, a1, a2, a3, a4⟩ := hts i t hi
    have hc := hown.cells (g := g) rfl
    refine ⟨s, ?_, ?_, ?_, a4.keep hS fun _ _ => rfl⟩
    · have := hc _ _ a1; rwa [Go.WideShapes.add_plain] at this
    · have := hc _ _ a2; rw [Go.WideShapes.add_plain] at this; rwa [Nat.add_assoc]
    · have := hc _ _ a3; rw [Go.WideShapes.add_plain] at this; rwa [Nat.add_assoc]

theorem getL_nil (g : List UInt8 → Except Int (T × List UInt8)) (b : List UInt8) : getL g [] b = .ok ([], b) := rfl

theorem getL_err {g : List UInt8 → Except Int (T × List UInt8)} (hg : ∀ b c, g b = .error c → c ≠ 0) : ∀ l b c, getL g l b = .error c → c ≠ 0 := by
  intro l
  induction l with
  | nil => intro b c h; cases h
  | cons a l ih =>
    intro b c h
    rw [getL] at h
    cases h1 : g b with
    | error e => rw [h1] at h; cases h; exact hg _ _ h1
    | ok x =>
      rw [h1] at h
      dsimp only at h
      cases h2 : getL g l x.2 with
      | error e => rw [h2] at h; cases h; exact ih _ _ h2
      | ok y => rw [h2] at h; cases h

theorem getT_err : ∀ (f : Nat) (b : List UInt8) (c : Int), getT f b = .error c → c ≠ 0 := by
  intro f
  induction f with
  | zero => intro b c h; rw [getT] at h; cases h; decide
  | succ f ih =>
    intro b c h
    cases b with
    | nil => rw [getT] at h; cases h; decide
    | cons k b =>
      rw [getT] at h
      cases hs : shape k.toNat with
      | none => rw [hs] at h; cases h; decide
      | some l =>
        rw [hs] at h
        dsimp only at h
        by_cases hn : numbered k.toNat = true
        · rw [if_pos hn] at h
          cases b with
          | nil => cases h; decide
          | cons n b =>
            dsimp only at h
            cases h2 : getL (getT f) l b with
            | error e => rw [h2] at h; cases h; exact getL_err ih _ _ _ h2
            | ok y => rw [h2] at h; cases h
        · rw [if_neg hn] at h
          cases h2 : getL (getT f) l b with
          | error e => rw [h2] at h; cases h; exact getL_err ih _ _ _ h2
          | ok y => rw [h2] at h; cases h

theorem getL_step {g : List UInt8 → Except Int (T × List UInt8)} {sh : List Nat} {j : Nat} {b : List UInt8} (h : j < sh.length) :
    getL g (sh.drop j) b = match g b with
      | .error e => .error e
      | .ok (a, b) => match getL g (sh.drop (j + 1)) b with
        | .error e => .error e
        | .ok (al, b) => .ok (a :: al, b) := by
  rw [List.drop_eq_getElem_cons h, getL]
  rfl

theorem own_bytes {w : World} {base : Nat} {S : Nat → Prop} {V : Value} {l : List UInt8} (h : w.ownsRow base 5 1 V l.length (u8c l)) (hS : ∀ b, V.ownBlock = some b → S b) : bytesInS w S l V := by
  rcases h.2 with ⟨rfl, h0⟩ | ⟨g, cap, cur, rfl, hb, hh, hle, hm, hsz, htk⟩
  · have : l = [] := List.eq_nil_of_length_eq_zero h0
    subst this
    exact ⟨none, 0, rfl, Nat.le_refl _, by unfold maxLen; omega, fun hne => absurd rfl hne⟩
  · refine ⟨_, cap, rfl, hle, hm, fun _ => ⟨g, 0, rfl, hS g rfl, fun j c hj => ?_⟩⟩
    have := h.cells (g := g) rfl j _ (by rw [u8c_get, hj]; rfl)
    rwa [Go.WideShapes.add_plain] at this

/-- the answer's cells written -/
theorem get_end {w wr w5 : World} {k N : Int} {ts : List T} {s : Value} {V5 : Value} {l : List UInt8} (hb : Below w.heap.size w wr) (hsz : w.heap.size + 2 ≤ wr.heap.size)
    (hown : w5.ownsRow wr.heap.size 5 1 V5 (0 + l.length) ([] ++ u8c l)) (hg : wr.drew.grownBy w5 none) (hBr : Blk wr w.heap.size 30 #[.int .i64 0, .int .i64 0, .slice none 0 0])
    (harg : argsInS wr (fun b => w.heap.size + 2 ≤ b ∧ b < wr.heap.size) (.mk k N ts) s) :
    bytesInS (((w5.setCell ⟨w.heap.size, 0, none⟩ (.int .i64 k)).setCell ⟨w.heap.size, 1, none⟩ (.int .i64 N)).setCell ⟨w.heap.size, 2, none⟩ s) (newFrom w (((w5.setCell ⟨w.heap.size, 0, none⟩ (.int .i64 k)).setCell ⟨w.heap.size, 1, none⟩ (.int .i64 N)).setCell ⟨w.heap.size, 2, none⟩ s)) l V5 ∧
    Blk (((w5.setCell ⟨w.heap.size, 0, none⟩ (.int .i64 k)).setCell ⟨w.heap.size, 1, none⟩ (.int .i64 N)).setCell ⟨w.heap.size, 2, none⟩ s) w.heap.size 30 #[.int .i64 k, .int .i64 N, s] ∧
    argsInS (((w5.setCell ⟨w.heap.size, 0, none⟩ (.int .i64 k)).setCell ⟨w.heap.size, 1, none⟩ (.int .i64 N)).setCell ⟨w.heap.size, 2, none⟩ s) (newFrom w (((w5.setCell ⟨w.heap.size, 0, none⟩ (.int .i64 k)).setCell ⟨w.heap.size, 1, none⟩ (.int .i64 N)).setCell ⟨w.heap.size, 2, none⟩ s)) (.mk k N ts) s ∧
    Below w.heap.size w (((w5.setCell ⟨w.heap.size, 0, none⟩ (.int .i64 k)).setCell ⟨w.heap.size, 1, none⟩ (.int .i64 N)).setCell ⟨w.heap.size, 2, none⟩ s) := by
  have hs : (((w5.setCell ⟨w.heap.size, 0, none⟩ (.int .i64 k)).setCell ⟨w.heap.size, 1, none⟩ (.int .i64 N)).setCell ⟨w.heap.size, 2, none⟩ s).heap.size = w5.heap.size := by simp [World.setCell]
  have h5 : wr.heap.size ≤ w5.heap.size := hg.size
  have hc : ∀ p : Addr, p.block ≠ w.heap.size → (((w5.setCell ⟨w.heap.size, 0, none⟩ (.int .i64 k)).setCell ⟨w.heap.size, 1, none⟩ (.int .i64 N)).setCell ⟨w.heap.size, 2, none⟩ s).cell? p = w5.cell? p := fun p hp =>
    World.cell?_of_block (by rw [Below.heap_setCell _ _ _ _ hp, Below.heap_setCell _ _ _ _ hp, Below.heap_setCell _ _ _ _ hp])
  have hlt := hown.lt
  have hown' : w5.ownsRow wr.heap.size 5 1 V5 l.length (u8c l) := by simpa using hown
  refine ⟨(own_bytes (S := fun b => wr.heap.size ≤ b ∧ b < w5.heap.size) hown' (fun b hb => hlt b hb)).keep (fun b hb => ⟨by omega, by rw [hs]; exact hb.2⟩) (fun p hp => hc p (by omega)), ?_, ?_, ?_⟩
  · exact (((hBr.drew.grown hg (by simp)).set_ 0 _).set_ 1 _).set_ 2 _
  · refine harg.keep (fun b hb => ⟨by omega, by rw [hs]; omega⟩) (fun p hp => (hc p (by omega)).trans ?_)
    exact World.cell?_of_block (hg.block p.block (by exact hp.2) (by simp))
  · exact ((((hb.drew.grown hg hb.size (fun k hk => by cases hk))).setCell (Nat.le_refl _) _).setCell (Nat.le_refl _) _).setCell (Nat.le_refl _) _

theorem u8c_one (l : List UInt8) : ∀ u ∈ u8c l, u.oneCell' = true := by
  intro u hu
  obtain ⟨c, _, rfl⟩ := List.mem_map.1 hu
  rfl

theorem Tryz.infoU8g : (Tryz.prog.info? 5).map (fun i => (i.zero, i.size, i.bytes)) = some (some (.int .u8 0), 1, 1) := by kernel_rfl

theorem Tryz.infoT : (Tryz.prog.info? 30).map (fun i => (i.zero, i.size, i.bytes)) = some (some (.agg #[.int .i64 0, .int .i64 0, .slice none 0 0]), 3, 40) := by kernel_rfl

theorem grown_of_below {w w' : World} (h : Below w.heap.size w w') (row : Option Nat) : w.grownBy w' row := ⟨h.os, h.tape, h.output, h.size, fun i hi _ => h.block i hi⟩
theorem own_below {w w' : World} {base : Nat} {e : TypeId} {size n : Nat} {v : Value} {xs : List Value} (h : w.ownsRow base e size v n xs) (hb : Below w.heap.size w w') : w'.ownsRow base e size v n xs :=
  h.kept (grown_of_below hb none) (by cases v.ownBlock <;> simp)

/-- one argument more: what the loop's relation says behind its round -/
theorem get_round {wr w2 w4 : World} {g n : Nat} {V V' : Value} {ts : List T} {x : T} {s2 v2 : Value} {r2 : List UInt8} {o1 o2 : Obj} {cs : List Value} {k N : Int} (hsz : g + 2 ≤ wr.heap.size) (hn : n = (w2.heap.size + 1) + 1)
    (hown : wr.ownsRow (g + 2) 30 3 V ts.length cs)
    (hts : ∀ (i : Nat) (t : T), ts[i]? = some t → ∃ s, cs[i * 3]? = some (.int .i64 t.k) ∧ cs[i * 3 + 1]? = some (.int .i64 t.n) ∧ cs[i * 3 + 2]? = some s ∧ argsInS wr (othersN g V wr.heap.size) t s)
    (hbe : Below wr.heap.size wr w2) (hx : argsInS w2 (newFrom wr w2) x s2) (hbr : bytesInS w2 (newFrom wr w2) r2 v2)
    (hown' : w4.ownsRow (g + 2) 30 3 V' (ts.length + 1) (cs ++ [.int .i64 x.k, .int .i64 x.n, s2])) (hg : ((w2.alloc o1).alloc o2).grownBy w4 V.ownBlock)
    (hloc : V'.ownBlock = V.ownBlock ∨ V'.ownBlock = some n) (hBr : Blk wr g 30 #[.int .i64 0, .int .i64 0, .slice none 0 0]) (hBt : Blk wr (g + 1) 30 #[.int .i64 k, .int .i64 N, V]) {w : World} (hw : w.heap.size = g) (hb : Below g w wr) :
    rowT (w4.setCell ⟨g + 1, 2, none⟩ V') (g + 2) (othersN g V' (w4.setCell ⟨g + 1, 2, none⟩ V').heap.size) V' (ts ++ [x]) ∧ bytesInS (w4.setCell ⟨g + 1, 2, none⟩ V') (others g V' (w4.setCell ⟨g + 1, 2, none⟩ V').heap.size) r2 v2 ∧
    Blk (w4.setCell ⟨g + 1, 2, none⟩ V') g 30 #[.int .i64 0, .int .i64 0, .slice none 0 0] ∧ Blk (w4.setCell ⟨g + 1, 2, none⟩ V') (g + 1) 30 #[.int .i64 k, .int .i64 N, V'] ∧ Below g w (w4.setCell ⟨g + 1, 2, none⟩ V') ∧ g + 2 ≤ (w4.setCell ⟨g + 1, 2, none⟩ V').heap.size := by
  have hlt : ∀ b, V.ownBlock = some b → g + 2 ≤ b ∧ b < wr.heap.size := hown.lt
  have hs2 := hbe.size
  have hs4 := hg.size
  simp at hs4
  have hsz5 : (w4.setCell ⟨g + 1, 2, none⟩ V').heap.size = w4.heap.size := by simp [World.setCell]
  rw [hsz5]
  have hcell : ∀ p : Addr, p.block < w2.heap.size → V.ownBlock ≠ some p.block → p.block ≠ g + 1 → (w4.setCell ⟨g + 1, 2, none⟩ V').cell? p = w2.cell? p := by
    intro p hp hne hne1
    refine World.cell?_of_block ?_
    rw [Below.heap_setCell _ _ _ _ hne1, hg.block _ (by simp; omega) (fun e => hne e.symm), Below.heap_alloc _ _ _ (by simp; omega), Below.heap_alloc _ _ _ hp]
  have hcell0 : ∀ p : Addr, others g V wr.heap.size p.block → (w4.setCell ⟨g + 1, 2, none⟩ V').cell? p = wr.cell? p := by
    intro p hp
    have hne : V.ownBlock ≠ some p.block := by
      rcases hp with h | h
      · intro e; have := hlt _ e; omega
      · exact h.2.2
    have hlt2 : p.block < wr.heap.size := by rcases hp with h | h <;> omega
    exact (hcell p (by omega) hne (by rcases hp with h | h <;> omega)).trans (hbe.cell hlt2)
  have hoth : ∀ b, othersN g V wr.heap.size b → othersN g V' w4.heap.size b := by
    intro b hb
    obtain ⟨h1, h2, h3⟩ := hb
    refine ⟨h1, by omega, ?_⟩
    rcases hloc with e | e <;> rw [e]
    · exact h3
    · intro e2; injection e2 with e2; omega
  have hnew : ∀ b, newFrom wr w2 b → othersN g V' w4.heap.size b := by
    intro b hb
    obtain ⟨h1, h2⟩ := hb
    refine ⟨by omega, by omega, ?_⟩
    rcases hloc with e | e <;> rw [e]
    · intro e2; have := hlt _ e2; omega
    · intro e2; injection e2 with e2; omega
  have hcelln : ∀ p : Addr, newFrom wr w2 p.block → (w4.setCell ⟨g + 1, 2, none⟩ V').cell? p = w2.cell? p := by
    intro p hp
    obtain ⟨h1, h2⟩ := hp
    exact hcell p h2 (fun e => by have := hlt _ e; omega) (by omega)
  have hneV : ∀ b, b < g + 2 → some b ≠ V.ownBlock := fun b hb e => by have := hlt _ e.symm; omega
  refine ⟨⟨cs ++ [.int .i64 x.k, .int .i64 x.n, s2], ?_, ?_⟩, hbr.keep (fun b hb => .inr (hnew b hb)) hcelln, ?_, ?_, ?_, by omega⟩
  · rw [List.length_append]
    exact ownsRow_setCell_below hown' (by simp) V'
  · intro i t hi
    have hl : cs.length = ts.length * 3 := hown.1
    rcases Nat.lt_or_ge i ts.length with h | h
    · rw [List.getElem?_append_left h] at hi
      obtain ⟨s, a1, a2, a3, a4⟩ := hts i t hi
      exact ⟨s, by rw [List.getElem?_append_left (by omega)]; exact a1, by rw [List.getElem?_append_left (by omega)]; exact a2, by rw [List.getElem?_append_left (by omega)]; exact a3, a4.keep hoth (fun p hp => hcell0 p (.inr hp))⟩
    · rw [List.getElem?_append_right h] at hi
      have hi0 : i - ts.length = 0 := by
        rcases Nat.eq_zero_or_pos (i - ts.length) with h0 | h0
        · exact h0
        · rw [List.getElem?_eq_none (by simp; omega)] at hi; cases hi
      rw [hi0] at hi
      simp only [List.getElem?_cons_zero, Option.some.injEq] at hi
      subst hi
      have he : i = ts.length := by omega
      subst he
      refine ⟨s2, ?_, ?_, ?_, hx.keep hnew hcelln⟩
      · rw [List.getElem?_append_right (by omega), show ts.length * 3 - cs.length = 0 by omega]; rfl
      · rw [List.getElem?_append_right (by omega), show ts.length * 3 + 1 - cs.length = 1 by omega]; rfl
      · rw [List.getElem?_append_right (by omega), show ts.length * 3 + 2 - cs.length = 2 by omega]; rfl
  · exact ((((hBr.below hbe (by omega)).alloc o1).alloc o2).grown hg (hneV g (by omega))).far (by simp) _
  · exact ((((hBt.below hbe (by omega)).alloc o1).alloc o2).grown hg (hneV (g + 1) (by omega))).set_ 2 V'
  · exact ((((hb.trans (hbe.mono (by omega))).alloc (by omega) o1).alloc (by simp; omega) o2).grown hg (by simp; omega) (fun b hb => by have := hlt _ hb; omega)).setCell (by simp) _

theorem get_blk {wr w2 w4 : World} {g : Nat} {V : Value} {n : Nat} {o1 o2 : Obj} {cs : List Value} {k N : Int} (hsz : g + 2 ≤ wr.heap.size)
    (hown : wr.ownsRow (g + 2) 30 3 V n cs) (hbe : Below wr.heap.size wr w2) (hg : ((w2.alloc o1).alloc o2).grownBy w4 V.ownBlock) (hBt : Blk wr (g + 1) 30 #[.int .i64 k, .int .i64 N, V]) :
    Blk w4 (g + 1) 30 #[.int .i64 k, .int .i64 N, V] := by
  have hlt : ∀ b, V.ownBlock = some b → g + 2 ≤ b ∧ b < wr.heap.size := hown.lt
  exact (((hBt.below hbe (by omega)).alloc o1).alloc o2).grown hg (fun e => by have := hlt _ e.symm; omega)

theorem res_step {g : List UInt8 → Except Int (T × List UInt8)} {l : List Nat} {r2 : List UInt8} {ts : List T} {x : T} {k N : Int} {R : Except Int (T × List UInt8)}
    (h : (match (match getL g l r2 with | .error e => .error e | .ok (al, b) => .ok (x :: al, b) : Except Int (List T × List UInt8)) with | .error e => .error e | .ok (al, b) => .ok (T.mk k N (ts ++ al), b) : Except Int (T × List UInt8)) = R) :
    (match getL g l r2 with | .error e => .error e | .ok (al, b) => .ok (T.mk k N (ts ++ [x] ++ al), b) : Except Int (T × List UInt8)) = R := by
  cases hg : getL g l r2 with
  | error e => rw [hg] at h; exact h
  | ok y => rw [hg] at h; rw [← h]; simp

theorem new_three (w : World) (a b c : Value) (t : TypeId) (n : Nat) (hn : n = w.heap.size) : ∀ j u', [a, b, c][j]? = some u' → (w.alloc (.cells #[a, b, c] t)).cell? ((⟨n, 0, none⟩ : Addr).add j) = some u' := by
  intro j u' h
  subst hn
  match j, h with
  | 0, h => simp at h; subst h; simp [Addr.add]
  | 1, h => simp at h; subst h; simp [Addr.add]
  | 2, h => simp at h; subst h; simp [Addr.add]
theorem three_one (x y : Int) (A : Option Addr) (n c : Nat) : ∀ u ∈ [Value.int .i64 x, Value.int .i64 y, Value.slice A n c], u.oneCell' = true := by
  intro u hu
  simp at hu
  rcases hu with rfl | rfl | rfl <;> rfl
theorem maxLen_of' {n : Nat} (h : n ≤ 2000000000) : n ≤ maxLen := by unfold maxLen; omega
theorem bytes_of40 {n : Nat} (h : n ≤ 2000000000) : n * 40 ≤ 140737488355328 := by omega

def GetPost (r : Except Int (T × List UInt8)) (w : World) (e : Ending) (w' : World) : Prop := match r with
  | .error c => e = .returned (noTerm c) ∧ Below w.heap.size w w'
  | .ok (t, rest) => ∃ s v, e = .returned (.tuple #[.agg #[.int .i64 t.k, .int .i64 t.n, s], v, .int .i64 0]) ∧ argsInS w' (newFrom w w') t s ∧ bytesInS w' (newFrom w w') rest v ∧ Below w.heap.size w w'

end Go.Proofs.YtjboibbgigkhkaaGreatDoor

namespace Go.Proofs.YtjboibbgigkhkaaGreatDoor
open Go.RowKit

set_option maxRecDepth 100000 in
set_option maxHeartbeats 2000000 in
theorem get_any (f : Nat) : ∀ (l : List UInt8) (deep : Int) (w : World) (v : Value), bytesIn w w.heap.size l v → deep + f = 25 → 1 ≤ deep → l.length ≤ 140737488355328 →
    Calls Tryz.prog 130 #[v, .int .i64 deep] w (GetPost (getT f l) w) := by
  induction f with
  | zero =>
    intro l deep w v hv hd hdl hll
    obtain ⟨A, cap, rfl, h1, h2, h3⟩ := hv
    have hdd : 24 < deep := by omega
    have hR : getT 0 l = .error 9 := by rw [getT]
    rw [hR]
    clear hd hR h3
    go_enter Tryz.func130, Tryz.ntmps130
    go_wp2_with fail
    refine (no_any _ _).mono ?_
    rintro e w1 ⟨rfl, hb⟩
    unfold noTerm
    have hB := (Blk.new w 30 #[.int .i64 0, .int .i64 0, .slice none 0 0]).below hb (by simp)
    obtain ⟨⟨c0, c1, c2⟩, f0, f1, f2⟩ := hB.three
    have hb1 := ((Below.refl w.heap.size w).alloc (Nat.le_refl _) (Obj.cells #[.int .i64 0, .int .i64 0, .slice none 0 0] 30)).trans (hb.mono (by simp))
    go_wp2_with fail
    refine bodyPost_ret (v := noTerm 9) (by simp [results, Tryz.results130, go_sem, noTerm, c0, c1, c2]) rfl ⟨rfl, ?_⟩
    exact ((hb1.setCell (Nat.le_refl _) _).setCell (Nat.le_refl _) _).setCell (Nat.le_refl _) _
  | succ f ih =>
    intro l deep w v hv hd hdl hll
    obtain ⟨A, cap, rfl, h1, h2, h3⟩ := hv
    have hdd : ¬ 24 < deep := by omega
    have hd2 : deep ≤ 24 := by omega
    have HD := Lib.hid hd
    have IH := Lib.hid ih
    clear hd ih
    unfold maxLen at h2
    cases l with
    | nil =>
      have hR : getT (f + 1) [] = .error 8 := by rw [getT]
      rw [hR]
      clear hR h3
      go_enter Tryz.func130, Tryz.ntmps130
      go_wp2_with fail
      refine (no_any _ _).mono ?_
      rintro e w1 ⟨rfl, hb⟩
      unfold noTerm
      have hB := (Blk.new w 30 #[.int .i64 0, .int .i64 0, .slice none 0 0]).below hb (by simp)
      obtain ⟨⟨c0, c1, c2⟩, f0, f1, f2⟩ := hB.three
      have hb1 := ((Below.refl w.heap.size w).alloc (Nat.le_refl _) (Obj.cells #[.int .i64 0, .int .i64 0, .slice none 0 0] 30)).trans (hb.mono (by simp))
      go_wp2_with fail
      refine bodyPost_ret (v := noTerm 8) (by simp [results, Tryz.results130, go_sem, noTerm, c0, c1, c2]) rfl ⟨rfl, ?_⟩
      exact ((hb1.setCell (Nat.le_refl _) _).setCell (Nat.le_refl _) _).setCell (Nat.le_refl _) _
    | cons k r =>
      obtain ⟨⟨b, off, spot⟩, e1, hbb, hcell⟩ := h3.2 (by simp)
      have ck := hcell 0 _ rfl
      have hsp : spot = none := by simpa [Addr.add] using World.cell?_spot ck
      subst hsp e1
      have ck0 : w.cell? ⟨b, off, none⟩ = some (.int .u8 (k.toNat : Nat)) := by simpa [Addr.add] using ck
      clear ck hcell
      have H3 := Lib.hid h3
      have hk : k.toNat < 256 := k.toNat_lt
      simp only [List.length_cons] at h1 hll
      clear h3
      generalize hR : getT (f + 1) (k :: r) = R
      have HR := Lib.hid hR
      clear hR
      have hrl : r.length + 1 ≤ cap := h1
      have hnz : (((r.length + 1 : Nat) : Int) == 0) = false := by simp; omega
      go_enter Tryz.func130, Tryz.ntmps130
      go_wp2_with fail
      refine (binds_at _ _).mono ?_
      rintro e w1 ⟨sA, scap, rfl, hb⟩
      obtain ⟨hBr, hBt, hb1, hsz1⟩ := two_blocks hb
      obtain ⟨⟨c0, c1, c2⟩, f0, f1, f2⟩ := hBr.three
      obtain ⟨⟨t0, t1, t2⟩, g0, g1, g2⟩ := hBt.three
      clear hb
      have ck1 := (hb1.cell (p := ⟨b, off, none⟩) hbb).trans ck0
      cases hsh : shape (k.toNat : Int) with
      | none =>
        have hR := HR.out
        rw [getT, hsh] at hR
        dsimp only at hR
        subst hR
        simp only [Option.isSome_none]
        clear HR hsh
        go_wp2_with fail
        refine (no_any _ _).mono ?_
        rintro e w2 ⟨rfl, hb⟩
        unfold noTerm
        have hBr2 := hBr.below hb (by omega)
        obtain ⟨⟨d0, d1, d2⟩, e0, e1, e2⟩ := hBr2.three
        have hb2 := hb1.trans (hb.mono hb1.size)
        clear c0 c1 c2 f0 f1 f2 hb1 hb ck0 ck1
        go_wp2_with fail
        refine bodyPost_ret (v := noTerm 1) (by simp [results, Tryz.results130, go_sem, noTerm, d0, d1, d2]) rfl ⟨rfl, ?_⟩
        exact ((hb2.setCell (Nat.le_refl _) _).setCell (Nat.le_refl _) _).setCell (Nat.le_refl _) _
      | some sh =>
        have hR := HR.out
        rw [getT, hsh] at hR
        dsimp only at hR
        have HR2 := Lib.hid hR
        have hsl := shape_len hsh
        clear HR hR hsh
        simp only [Option.isSome_some, Option.getD_some]
        have htl := H3.out.tail1 hrl
        have HT := Lib.hid htl
        clear htl
        go_upto_region 10 with fail
        go_cut [0] (fun v wc => bytesIn w w.heap.size r v ∧ wc = w1)
        case first =>
          by_cases hc1 : cap = 1
          · have hr0 : r = [] := List.eq_nil_of_length_eq_zero (by omega)
            subst hr0
            have hb := HT.out.1 hc1
            have HBI := Lib.hid hb
            subst hc1
            clear hb
            go_wp2_with fail
            go_meet
            exact ⟨HBI.out, rfl⟩
          · have hb := HT.out.2 hc1 (by unfold maxLen; omega)
            have HBI := Lib.hid hb
            clear hb
            go_wp2_with fail
            go_meet
            exact ⟨HBI.out, rfl⟩
        case rest =>
          obtain ⟨hbi, rfl⟩ := hcut
          clear HT
          go_wp2_with fail
          refine (numbered_any _ _).mono ?_
          rintro e w' ⟨rfl, rfl⟩
          go_upto_if 51 with fail
          go_cut [0] (fun v wc => ∃ (N : Int) (r' : List UInt8), bytesIn w w.heap.size r' v ∧ r'.length ≤ 140737488355328 ∧ Hid ((match getL (getT f) sh r' with | .error e => .error e | .ok (al, b) => .ok (T.mk k.toNat N al, b)) = R) ∧
            Blk wc w.heap.size 30 #[.int .i64 0, .int .i64 0, .slice none 0 0] ∧ Blk wc (w.heap.size + 1) 30 #[.int .i64 k.toNat, .int .i64 N, .slice none 0 0] ∧ Below w.heap.size w wc ∧ w.heap.size + 2 ≤ wc.heap.size)
          case first =>
            generalize numbered (k.toNat : Int) = nb at *
            cases nb with
            | false =>
              have hR := HR2.out
              rw [if_neg (by decide)] at hR
              have HR3 := Lib.hid hR
              clear HR2 hR
              go_wp2_with fail
              go_meet
              exact ⟨0, r, hbi, by omega, HR3.out, hBr, hBt, hb1, hsz1⟩
            | true =>
              have hR := HR2.out
              rw [if_pos rfl] at hR
              obtain ⟨A2, cap2, rfl, q1, q2, q3⟩ := hbi
              unfold maxLen at q2
              cases r with
              | nil =>
                dsimp only at hR
                subst hR
                clear HR2 q3
                go_wp2_with fail
                refine (no_any _ _).mono ?_
                rintro e w2 ⟨rfl, hb⟩
                unfold noTerm
                have hBr2 := hBr.below hb (by omega)
                obtain ⟨⟨d0, d1, d2⟩, e0, e1, e2⟩ := hBr2.three
                have hb2 := hb1.trans (hb.mono hb1.size)
                clear c0 c1 c2 f0 f1 f2 hb1 hb ck0 ck1
                go_wp2_with fail
                refine bodyPost_ret (v := noTerm 8) (by simp [results, Tryz.results130, go_sem, noTerm, d0, d1, d2]) rfl ⟨rfl, ?_⟩
                exact ((hb2.setCell (Nat.le_refl _) _).setCell (Nat.le_refl _) _).setCell (Nat.le_refl _) _
              | cons n r2 =>
                dsimp only at hR
                have HR3 := Lib.hid hR
                clear hR HR2
                obtain ⟨⟨b2, off2, spot2⟩, rfl, hbb2, hcell2⟩ := q3.2 (by simp)
                have ck2 := hcell2 0 _ rfl
                have hsp2 : spot2 = none := by simpa [Addr.add] using World.cell?_spot ck2
                subst hsp2
                have ck3 : wc.cell? ⟨b2, off2, none⟩ = some (.int .u8 (n.toNat : Nat)) := (hb1.cell (p := ⟨b2, off2, none⟩) hbb2).trans (by simpa [Addr.add] using ck2)
                clear ck2 hcell2
                have hn : n.toNat < 256 := n.toNat_lt
                have q1' : r2.length + 1 ≤ cap2 := q1
                have htl := q3.tail1 q1'
                have HT := Lib.hid htl
                clear htl q3
                have hnz2 : (((r2.length + 1 : Nat) : Int) == 0) = false := by simp; omega
                have hBt3 : Blk (wc.drew.setCell ⟨w.heap.size + 1, 1, none⟩ (.int .i64 n.toNat)) (w.heap.size + 1) 30 #[.int .i64 k.toNat, .int .i64 n.toNat, .slice none 0 0] := hBt.drew.set_ 1 _
                have hBr3 : Blk (wc.drew.setCell ⟨w.heap.size + 1, 1, none⟩ (.int .i64 n.toNat)) w.heap.size 30 #[.int .i64 0, .int .i64 0, .slice none 0 0] := hBr.drew.far (by simp) _
                have hb3 : Below w.heap.size w (wc.drew.setCell ⟨w.heap.size + 1, 1, none⟩ (.int .i64 n.toNat)) := hb1.drew.setCell (by simp) _
                have HB3 := Lib.hid (And.intro hBr3 (And.intro hBt3 hb3))
                clear hBt3 hBr3 hb3
                by_cases hc2 : cap2 = 1
                · have hr0 : r2 = [] := List.eq_nil_of_length_eq_zero (by omega)
                  subst hr0
                  have hb := HT.out.1 hc2
                  have HBI := Lib.hid hb
                  subst hc2
                  clear hb
                  go_wp2_with fail
                  obtain ⟨⟨t0, t1, t2⟩, g0, g1, g2⟩ := hBt.three
                  go_region
                  go_wp2_with fail
                  go_meet
                  exact ⟨n.toNat, [], HBI.out, by simp, HR3.out, HB3.out.1, HB3.out.2.1, HB3.out.2.2, by simpa [World.setCell] using hsz1⟩
                · have hb := HT.out.2 hc2 (by unfold maxLen; omega)
                  have HBI := Lib.hid hb
                  clear hb
                  go_wp2_with fail
                  obtain ⟨⟨t0, t1, t2⟩, g0, g1, g2⟩ := hBt.three
                  go_region
                  go_wp2_with fail
                  go_meet
                  exact ⟨n.toNat, r2, HBI.out, by simp only [List.length_cons] at hll; omega, HR3.out, HB3.out.1, HB3.out.2.1, HB3.out.2.2, by simpa [World.setCell] using hsz1⟩
          case rest =>
            obtain ⟨N, r', hbi, hrl', HR3, hBr, hBt, hb1, hsz1⟩ := hcut
            have hbS : bytesInS wc (others w.heap.size (.slice none 0 0) wc.heap.size) r' u0 := hbi.toS.keep (fun b hb => .inl hb) (fun p hp => hb1.cell hp)
            obtain ⟨i0, hi, hz0, hz1, hz2⟩ := info_parts Tryz.infoT
            clear HR2 c0 c1 c2 f0 f1 f2 t0 t1 t2 g0 g1 g2 ck1
            have hrow0 := rowT_nil wc (w.heap.size + 2) (othersN w.heap.size (.slice none 0 0) wc.heap.size)
            go_wp2_with fail
            go_loopw [0, 69] (fun v i wr => ∃ j : Nat, j ≤ sh.length ∧ i = .int .i64 j ∧ ∃ (ts : List T) (V : Value) (r1 : List UInt8), rowT wr (w.heap.size + 2) (othersN w.heap.size V wr.heap.size) V ts ∧ bytesInS wr (others w.heap.size V wr.heap.size) r1 v ∧ r1.length ≤ 140737488355328 ∧
              Hid ((match getL (getT f) (sh.drop j) r1 with | .error e => .error e | .ok (al, b) => .ok (T.mk k.toNat N (ts ++ al), b)) = R) ∧ Blk wr w.heap.size 30 #[.int .i64 0, .int .i64 0, .slice none 0 0] ∧ Blk wr (w.heap.size + 1) 30 #[.int .i64 k.toNat, .int .i64 N, V] ∧
              Below w.heap.size w wr ∧ w.heap.size + 2 ≤ wr.heap.size ∧ ts.length = j) (fun _ i _ => sh.length - (intOf i).toNat)
            case atStart => exact ⟨0, by omega, rfl, [], _, r', hrow0, hbS, hrl', by simpa using HR3, hBr, hBt, hb1, hsz1, rfl⟩
            case round =>
              obtain ⟨j, hj, rfl, ts, V, r1, hrow, hbS1, hrl1, HL, hBr1, hBt1, hb2, hsz2, htl⟩ := hrel
              clear hbS hrow0 hBr hBt hb1 hsz1 HR3 hbi
              by_cases hlt : j < sh.length
              · have hIH := IH.out r1 (deep + 1)
                have hst := getL_step (g := getT f) (b := r1) hlt
                have HST := Lib.hid hst
                have HTL := Lib.hid htl
                have HIH := Lib.hid hIH
                clear hst htl hIH
                go_wp2_with fail
                have hbB : bytesIn wr wr.heap.size r1 u0 := hbS1.toB (fun b hb => by rcases hb with hb | hb <;> omega)
                with_reducible refine (HIH.out _ _ hbB (by have := HD.out; omega) (by omega) hrl1).mono ?_
                intro e w2 hpost
                have hR := HL.out
                rw [HST.out] at hR
                cases hg : getT f r1 with
                | error c =>
                  rw [hg] at hpost hR
                  obtain ⟨rfl, hbe⟩ := hpost
                  dsimp only at hR
                  subst hR
                  have hcz := getT_err f r1 c hg
                  have hcz2 : (c == 0) = false := by simpa using hcz
                  have hBr3 := hBr1.below hbe (by omega)
                  have hb3 := hb2.trans (hbe.mono hb2.size)
                  have hsz3 : w.heap.size + 2 ≤ w2.heap.size := Nat.le_trans hsz2 hbe.size
                  unfold noTerm
                  clear hg hrow hbS1 HL HST HIH hBt1 hBr1 hb2 hbe hcz
                  go_wp2_with fail
                  refine (no_any _ _).mono ?_
                  rintro e w3 ⟨rfl, hb⟩
                  unfold noTerm
                  have hBr4 := (hBr3.alloc _).below hb (by simp; omega)
                  obtain ⟨⟨d0, d1, d2⟩, e0, e1, e2⟩ := hBr4.three
                  have hb4 := (hb3.alloc hb3.size (Obj.cells #[.int .i64 0, .int .i64 0, .slice none 0 0] 30)).trans (hb.mono (by have := hb3.size; simp; omega))
                  clear hb3 hb hBr3 hBr4
                  go_wp2_with fail
                  refine bodyPost_ret (v := noTerm c) (by simp [results, Tryz.results130, go_sem, noTerm, d0, d1, d2]) rfl ⟨rfl, ?_⟩
                  exact ((hb4.setCell (Nat.le_refl _) _).setCell (Nat.le_refl _) _).setCell (Nat.le_refl _) _
                | ok xr =>
                  obtain ⟨x, r2⟩ := xr
                  rw [hg] at hpost hR
                  obtain ⟨s2, v2, rfl, hx, hbr, hbe⟩ := hpost
                  dsimp only at hR
                  have HRS := Lib.hid (res_step hR)
                  have hrl2 : r2.length ≤ 140737488355328 := by have h := congrArg List.length (bytes_get f r1 x r2 hg); rw [List.length_append] at h; omega
                  obtain ⟨A2, cap2, rfl, -⟩ := argsInS_iff.1 hx
                  obtain ⟨cs, hown, hts⟩ := hrow
                  have hBt3 := hBt1.below hbe (by omega)
                  obtain ⟨⟨t0, t1, t2⟩, g0, g1, g2⟩ := hBt3.three
                  have hown2 := own_below hown hbe
                  have hs2 := hbe.size
                  have hs3 : w.heap.size + 1 < w2.heap.size := by omega
                  have hjt : ts.length ≤ 4 := by rw [HTL.out]; omega
                  have HALL := Lib.hid (And.intro hown (And.intro hts (And.intro hbe (And.intro hx (And.intro hbr (And.intro hBr1 (And.intro hBt1 hb2)))))))
                  clear hg hR HST HIH HL hts hbS1 hbe hx hbr hBr1 hBt1 hBt3 hb2 hown hbB
                  go_wp2_with (first
                    | (at_builtin; refine wpList_append_own_at _ rfl (.tmp 88) (.tmp 90) 28 rfl (w.heap.size + 2) 30 i0 (.agg #[.int .i64 0, .int .i64 0, .slice none 0 0]) 3 40 Tryz.underlying28 hi hz0 hz1 hz2 rfl (by decide) _ _ _ rfl ((hown2.alloc _).alloc _) ⟨w2.heap.size + 1, 0, none⟩ 1 1 [.int .i64 x.k, .int .i64 x.n, .slice A2 x.al.length cap2] rfl rfl (new_three _ _ _ _ _ _ (by simp)) (three_one _ _ _ _ _) (maxLen_of' (by omega)) (bytes_of40 (by omega)) (by simp; omega) ?_))
                  intro V' w4 hown' hgrow _ hloc
                  obtain ⟨hown, hts, hbe, hx, hbr, hBr1, hBt1, hb2⟩ := HALL.out
                  have hB4 := get_blk hsz2 hown hbe hgrow hBt1
                  have hRND := get_round hsz2 rfl hown hts hbe hx hbr hown' hgrow hloc hBr1 hBt1 rfl hb2
                  obtain ⟨⟨s0, s1, s2⟩, e0, e1, e2⟩ := hB4.three
                  obtain ⟨g', cap', hV, hg1, hg2⟩ := hown'.form (by omega)
                  have HRND := Lib.hid hRND
                  clear hown hts hbe hx hbr hBr1 hBt1 hb2 HALL hown' hgrow hloc hB4 hRND hown2 t0 t1 t2 g0 g1 g2
                  subst hV
                  go_wp2_with fail
                  go_roundw
                  case rel => exact ⟨j + 1, by omega, by go_num, ts ++ [x], _, r2, HRND.out.1, HRND.out.2.1, hrl2, HRS.out, HRND.out.2.2.1, HRND.out.2.2.2.1, HRND.out.2.2.2.2.1, HRND.out.2.2.2.2.2, by rw [List.length_append, HTL.out]; rfl⟩
                  case measure => simp [intOf]; omega
              · obtain rfl : j = sh.length := by omega
                have hR := HL.out
                rw [List.drop_length, getL_nil] at hR
                dsimp only at hR
                rw [List.append_nil] at hR
                subst hR
                clear HL
                clear htl
                have harg := hrow.args (k := k.toNat) (n := N) (S' := fun b => w.heap.size + 2 ≤ b ∧ b < wr.heap.size) (fun b hb => ⟨hb.1, hb.2.1⟩) (fun b hb => by obtain ⟨cs, ho, _⟩ := hrow; have := ho.lt b hb; exact ⟨by omega, by omega⟩)
                have hV : ∃ A3 cap3, V = .slice A3 ts.length cap3 := by
                  obtain ⟨A3, cap3, h, _⟩ := argsInS_iff.1 harg
                  exact ⟨A3, cap3, h⟩
                obtain ⟨A3, cap3, rfl⟩ := hV
                have hrd0 := hbS1.toB (B := wr.heap.size) (fun b hb => by rcases hb with hb | hb <;> omega)
                obtain ⟨A4, cap4, rfl, k1, k2, k3⟩ := hrd0
                have HRD := Lib.hid (show Reads wr.drew wr.heap.size 1 A4 r1.length (u8c r1) from k3)
                have HM1 := Lib.hid (show 0 + r1.length ≤ maxLen by unfold maxLen; omega)
                have HM2 := Lib.hid (show (0 + r1.length) * 1 ≤ 140737488355328 by omega)
                have HARG := Lib.hid harg
                clear k3 hbS1 harg
                clear hrow
                go_wp2_with fail
                go_upto_region 22 with fail
                go_cut [5, 6] (fun v5 v6 wx => v6 = .int .i64 0 ∧ bytesInS wx (newFrom w wx) r1 v5 ∧ Blk wx w.heap.size 30 #[.int .i64 k.toNat, .int .i64 N, .slice A3 ts.length cap3] ∧ argsInS wx (newFrom w wx) (.mk k.toNat N ts) (.slice A3 ts.length cap3) ∧ Below w.heap.size w wx)
                case first =>
                  obtain ⟨j0, hj, hj1, hj2, hj3⟩ := info_parts Tryz.infoU8g
                  obtain ⟨⟨t0, t1, t2⟩, g0, g1, g2⟩ := hBt1.three
                  obtain ⟨⟨c0, c1, c2⟩, f0, f1, f2⟩ := hBr1.three
                  go_region_held3 (fun w' => w'.cell? ⟨w.heap.size + 1, 0, none⟩ = some (.int .i64 k.toNat) ∧ w'.cell? ⟨w.heap.size + 1, 1, none⟩ = some (.int .i64 N) ∧ w'.cell? ⟨w.heap.size + 1, 2, none⟩ = some (.slice A3 ts.length cap3)) (go_keep)
                    (first
                      | (refine step_append_any _ rfl (.const (.slice none 0 0)) (.tmp 96) 84 rfl wr.heap.size 5 j0 (.int .u8 0) 1 1 Tryz.underlying84 hj hj1 hj2 hj3 rfl (by decide) (.slice none 0 0) 0 [] rfl (World.ownsRow_nil _ _ _ _) wr.heap.size A4 r1.length cap4 (u8c r1) rfl HRD.out (u8c_one _) HM1.out HM2.out (Nat.le_refl _) ?_; intro V5 w5 hown5 hgrow5 _; (have HO5 := Lib.hid hown5); (have HG5 := Lib.hid hgrow5); (have x0 := hgrow5.cell (a := ⟨w.heap.size + 1, 0, none⟩) t0 (by simp [Value.ownBlock])); (have x1 := hgrow5.cell (a := ⟨w.heap.size + 1, 1, none⟩) t1 (by simp [Value.ownBlock])); (have x2 := hgrow5.cell (a := ⟨w.heap.size + 1, 2, none⟩) t2 (by simp [Value.ownBlock])); (obtain ⟨⟨y0, y1, y2⟩, z0, z1, z2⟩ := (hBr1.drew.grown hgrow5 (by simp [Value.ownBlock])).three); clear hown5 hgrow5))
                  have E := get_end hb2 hsz2 HO5.out HG5.out hBr1 HARG.out
                  go_wp2_with fail
                  go_meet
                  exact ⟨rfl, E.1, E.2.1, E.2.2.1, E.2.2.2⟩
                case rest =>
                  obtain ⟨rfl, q1, q2, q3, q4⟩ := hcut
                  obtain ⟨⟨c0, c1, c2⟩, f0, f1, f2⟩ := q2.three
                  go_wp2_with fail
                  refine bodyPost_ret (v := .tuple #[.agg #[.int .i64 k.toNat, .int .i64 N, .slice A3 ts.length cap3], u5, .int .i64 0]) (by simp [results, Tryz.results130, go_sem, c0, c1, c2]) rfl ⟨_, _, rfl, q3, q1, q4⟩
end Go.Proofs.YtjboibbgigkhkaaGreatDoor

namespace Go.Proofs.YtjboibbgigkhkaaGreatDoor
open Go.RowKit

set_option maxHeartbeats 1000000 in
theorem get1_any (l : List UInt8) (w : World) (v : Value) (hv : bytesIn w w.heap.size l v) (hl : l.length ≤ 140737488355328) :
    Calls Tryz.prog 103 #[v] w (GetPost (getT 24 l) w) := by
  have hget := fun w h1 h2 => get_any 24 l 1 w v h1 (by omega) h2 hl
  generalize getT 24 l = R at hget ⊢
  go_enter Tryz.func103, Tryz.ntmps103
  go_wp2_with fail
  have hb := (Below.refl w.heap.size w).alloc (Nat.le_refl _) (.cells #[.int .i64 0, .int .i64 0, .slice none 0 0] 30)
  refine (hget _ (hv.keep hb.size hb) (by omega)).mono ?_
  intro e w1 hpost
  clear hget
  cases R with
  | error c =>
    obtain ⟨rfl, hbe⟩ := hpost
    have hB := (Blk.new w 30 #[.int .i64 0, .int .i64 0, .slice none 0 0]).below hbe (by simp)
    obtain ⟨⟨c0, c1, c2⟩, f0, f1, f2⟩ := hB.three
    have hb1 := hb.trans (hbe.mono hb.size)
    unfold noTerm
    clear hv hb hbe
    go_wp2_with fail
    refine bodyPost_ret (v := noTerm c) (by simp [results, Tryz.results103, go_sem, noTerm, c0, c1, c2]) rfl ⟨rfl, ?_⟩
    exact ((hb1.setCell (Nat.le_refl _) _).setCell (Nat.le_refl _) _).setCell (Nat.le_refl _) _
  | ok tr =>
    obtain ⟨t, r⟩ := tr
    obtain ⟨s, v1, rfl, ht, hr, hbe⟩ := hpost
    obtain ⟨A, cap, rfl, -⟩ := argsInS_iff.1 ht
    have hB := (Blk.new w 30 #[.int .i64 0, .int .i64 0, .slice none 0 0]).below hbe (by simp)
    obtain ⟨⟨c0, c1, c2⟩, f0, f1, f2⟩ := hB.three
    have hb1 := hb.trans (hbe.mono hb.size)
    have HT := Lib.hid ht
    have HR := Lib.hid hr
    clear hv hb hbe ht hr
    go_wp2_with fail
    have hsz : (((w1.setCell ⟨w.heap.size, 0, none⟩ (.int .i64 t.k)).setCell ⟨w.heap.size, 1, none⟩ (.int .i64 t.n)).setCell ⟨w.heap.size, 2, none⟩ (.slice A t.al.length cap)).heap.size = w1.heap.size := by simp [World.setCell]
    have hS : ∀ b, newFrom (w.alloc (.cells #[.int .i64 0, .int .i64 0, .slice none 0 0] 30)) w1 b → newFrom w (((w1.setCell ⟨w.heap.size, 0, none⟩ (.int .i64 t.k)).setCell ⟨w.heap.size, 1, none⟩ (.int .i64 t.n)).setCell ⟨w.heap.size, 2, none⟩ (.slice A t.al.length cap)) b := by
      intro b hb
      obtain ⟨h1, h2⟩ := hb
      simp at h1
      exact ⟨by omega, by rw [hsz]; exact h2⟩
    have hc : ∀ p : Addr, newFrom (w.alloc (.cells #[.int .i64 0, .int .i64 0, .slice none 0 0] 30)) w1 p.block → (((w1.setCell ⟨w.heap.size, 0, none⟩ (.int .i64 t.k)).setCell ⟨w.heap.size, 1, none⟩ (.int .i64 t.n)).setCell ⟨w.heap.size, 2, none⟩ (.slice A t.al.length cap)).cell? p = w1.cell? p := by
      intro p hp
      have hne : p.block ≠ w.heap.size := by have := hp.1; simp at this; omega
      exact World.cell?_of_block (by rw [Below.heap_setCell _ _ _ _ hne, Below.heap_setCell _ _ _ _ hne, Below.heap_setCell _ _ _ _ hne])
    refine bodyPost_ret (v := .tuple #[.agg #[.int .i64 t.k, .int .i64 t.n, .slice A t.al.length cap], v1, .int .i64 0]) (by simp [results, Tryz.results103, go_sem, c0, c1, c2]) rfl ⟨_, _, rfl, HT.out.keep hS hc, HR.out.keep hS hc, ?_⟩
    exact ((hb1.setCell (Nat.le_refl _) _).setCell (Nat.le_refl _) _).setCell (Nat.le_refl _) _
end Go.Proofs.YtjboibbgigkhkaaGreatDoor

