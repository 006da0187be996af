/- Plain laws of terms al trees, and of their bytes: no program here. -/
import Derived.Test.YtjboibbgigkhkaaGreatDoorRows
namespace Go.Proofs.YtjboibbgigkhkaaGreatDoor

inductive T where
  | mk (k n : Int) (al : List T)
deriving Inhabited

def T.k : T → Int | .mk k _ _ => k
def T.n : T → Int | .mk _ n _ => n
def T.al : T → List T | .mk _ _ al => al

theorem T.eta (t : T) : T.mk t.k t.n t.al = t := by cases t; rfl

/-- induction over a term and the list of its arguments -/
theorem T.ind {P : T → Prop} {Q : List T → Prop} (hm : ∀ k n al, Q al → P (.mk k n al)) (hn : Q []) (hc : ∀ t r, P t → Q r → Q (t :: r)) : (∀ t, P t) ∧ (∀ l, Q l) :=
  ⟨fun t => T.rec (motive_1 := P) (motive_2 := Q) hm hn hc t, fun l => T.rec_1 (motive_1 := P) (motive_2 := Q) hm hn hc l⟩

/-- how many each argument of a kind has bound -/
def shape (k : Int) : Option (List Nat) :=
  if k = 1 ∨ k = 2 ∨ k = 10 ∨ k = 11 ∨ k = 12 ∨ k = 14 ∨ k = 15 ∨ k = 18 then some []
  else if k = 8 ∨ k = 9 ∨ k = 16 then some [0]
  else if k = 3 ∨ k = 4 ∨ k = 6 then some [0, 1]
  else if k = 5 ∨ k = 13 then some [0, 0]
  else if k = 7 then some [0, 1, 0, 0]
  else if k = 17 then some [1, 0, 2, 0]
  else none

mutual
def size : T → Nat
  | .mk _ _ al => 1 + sizeL al
def sizeL : List T → Nat
  | [] => 0
  | t :: r => size t + sizeL r
end

mutual
def liftT (b : Int) : T → Int → T
  | .mk k n al, last => if k = 1 then (if last ≤ n then .mk k (n + b) al else .mk k n al) else .mk k n (liftL b al ((shape k).getD []) last)
def liftL (b : Int) : List T → List Nat → Int → List T
  | [], _, _ => []
  | t :: r, l, last => liftT b t (last + (l.headD 0 : Nat)) :: liftL b r l.tail last
end

mutual
def putT (u : T) : T → Int → T
  | .mk k n al, i => if k = 1 then (if i ≤ n then (if n = i then liftT i u 0 else .mk k (n - 1) al) else .mk k n al) else .mk k n (putL u al ((shape k).getD []) i)
def putL (u : T) : List T → List Nat → Int → List T
  | [], _, _ => []
  | t :: r, l, i => putT u t (i + (l.headD 0 : Nat)) :: putL u r l.tail i
end

mutual
def usesT (m : Int) : T → Int → Bool
  | .mk k n al, i => if k = 1 then (decide (i ≤ n) && decide (n - i = m)) else usesL m al ((shape k).getD []) i
def usesL (m : Int) : List T → List Nat → Int → Bool
  | [], _, _ => false
  | t :: r, l, i => usesT m t (i + (l.headD 0 : Nat)) || usesL m r l.tail i
end

mutual
def swapT : T → Int → T
  | .mk k n al, i => if k = 1 then (if n = i then .mk k (i + 1) al else if n = i + 1 then .mk k i al else .mk k n al) else .mk k n (swapL al ((shape k).getD []) i)
def swapL : List T → List Nat → Int → List T
  | [], _, _ => []
  | t :: r, l, i => swapT t (i + (l.headD 0 : Nat)) :: swapL r l.tail i
end

theorem size_lift (b : Int) : (∀ t : T, ∀ i, size (liftT b t i) = size t) ∧ (∀ (al : List T) l i, sizeL (liftL b al l i) = sizeL al) := by
  refine T.ind (P := fun t => ∀ i, size (liftT b t i) = size t) (Q := fun al => ∀ l i, sizeL (liftL b al l i) = sizeL al) ?_ ?_ ?_
  · intro k n al h i
    by_cases hk : k = 1
    · by_cases hn : i ≤ n <;> simp [liftT, hk, hn, size]
    · simp [liftT, hk, size, h]
  · intro l i; simp [liftL]
  · intro t r ht hr l i; simp [liftL, sizeL, ht, hr]

theorem uses_lift : (∀ t : T, ∀ i, usesT 0 (liftT 1 t i) i = false) ∧ (∀ (al : List T) l i, usesL 0 (liftL 1 al l i) l i = false) := by
  refine T.ind (P := fun t => ∀ i, usesT 0 (liftT 1 t i) i = false) (Q := fun al => ∀ l i, usesL 0 (liftL 1 al l i) l i = false) ?_ ?_ ?_
  · intro k n al h i
    by_cases hk : k = 1
    · by_cases hn : i ≤ n
      · simp [liftT, hk, hn, usesT]; omega
      · simp [liftT, hk, hn, usesT]
    · simp [liftT, hk, usesT, h]
  · intro l i; simp [liftL, usesL]
  · intro t r ht hr l i; simp [liftL, usesL, ht, hr]

theorem put_lift (u : T) : (∀ t : T, ∀ i, putT u (liftT 1 t i) i = t) ∧ (∀ (al : List T) l i, putL u (liftL 1 al l i) l i = al) := by
  refine T.ind (P := fun t => ∀ i, putT u (liftT 1 t i) i = t) (Q := fun al => ∀ l i, putL u (liftL 1 al l i) l i = al) ?_ ?_ ?_
  · intro k n al h i
    by_cases hk : k = 1
    · by_cases hn : i ≤ n
      · have h1 : i ≤ n + 1 := by omega
        have h2 : ¬ n + 1 = i := by omega
        simp [liftT, hk, hn, putT, h1, h2]
      · simp [liftT, hk, hn, putT]
    · simp [liftT, hk, putT, h]
  · intro l i; simp [liftL, putL]
  · intro t r ht hr l i; simp [liftL, putL, ht, hr]

/-- lifted twice: the second one from where the first one's are -/
theorem lift_lift (a b : Int) : (∀ t : T, ∀ i j, i ≤ j → j ≤ i + a → liftT b (liftT a t i) j = liftT (a + b) t i) ∧
    (∀ (al : List T) l i j, i ≤ j → j ≤ i + a → liftL b (liftL a al l i) l j = liftL (a + b) al l i) := by
  refine T.ind (P := fun t => ∀ i j, i ≤ j → j ≤ i + a → liftT b (liftT a t i) j = liftT (a + b) t i) (Q := fun al => ∀ l i j, i ≤ j → j ≤ i + a → liftL b (liftL a al l i) l j = liftL (a + b) al l i) ?_ ?_ ?_
  · intro k n al h i j h1 h2
    by_cases hk : k = 1
    · by_cases hn : i ≤ n
      · have h3 : j ≤ n + a := by omega
        simp [liftT, hk, hn, h3]; omega
      · have h3 : ¬ j ≤ n := by omega
        simp [liftT, hk, hn, h3]
    · simp [liftT, hk, h _ i j h1 h2]
  · intro l i j _ _; simp [liftL]
  · intro t r ht hr l i j h1 h2
    simp only [liftL]
    rw [ht _ _ (show i + ((l.headD 0 : Nat) : Int) ≤ j + ((l.headD 0 : Nat) : Int) by omega) (by omega), hr _ i j h1 h2]

theorem put_lift_at (v : T) (i : Int) (hi : 0 ≤ i) : (∀ u : T, ∀ c d, 0 ≤ c → d = c + i → putT v (liftT i u c) d = liftT i (putT v u c) c) ∧
    (∀ (al : List T) l c d, 0 ≤ c → d = c + i → putL v (liftL i al l c) l d = liftL i (putL v al l c) l c) := by
  refine T.ind (P := fun u => ∀ c d, 0 ≤ c → d = c + i → putT v (liftT i u c) d = liftT i (putT v u c) c) (Q := fun al => ∀ l c d, 0 ≤ c → d = c + i → putL v (liftL i al l c) l d = liftL i (putL v al l c) l c) ?_ ?_ ?_
  · intro k n al h c d hc hd
    subst hd
    by_cases hk : k = 1
    · subst hk
      by_cases hn : c ≤ n
      · by_cases he : n = c
        · subst he
          have h1 : (n + i = n + i) := rfl
          simp only [liftT, putT, Int.le_refl, if_pos]
          rw [(lift_lift n i).1 v 0 n hc (by omega)]
        · have h1 : c + i ≤ n + i := by omega
          have h2 : ¬ n + i = c + i := by omega
          have h3 : c ≤ n - 1 := by omega
          simp only [liftT, putT, hn, if_pos, h1, h2, he, if_neg, h3, not_false_eq_true]
          congr 1; omega
      · have h1 : ¬ c + i ≤ n := by omega
        simp [liftT, putT, hn, h1]
    · simp [liftT, putT, hk, h _ c _ hc rfl]
  · intro l c d _ _; simp [liftL, putL]
  · intro t r ht hr l c d hc hd
    simp only [liftL, putL]
    rw [ht (c + ((l.headD 0 : Nat) : Int)) (d + ((l.headD 0 : Nat) : Int)) (by omega) (by omega), hr _ c d hc hd]

theorem put_lift_more (w : T) (i : Int) (hi : 0 ≤ i) : (∀ v : T, ∀ c d, d = c + i → putT w (liftT (i + 1) v c) d = liftT i v c) ∧
    (∀ (al : List T) l c d, d = c + i → putL w (liftL (i + 1) al l c) l d = liftL i al l c) := by
  refine T.ind (P := fun v => ∀ c d, d = c + i → putT w (liftT (i + 1) v c) d = liftT i v c) (Q := fun al => ∀ l c d, d = c + i → putL w (liftL (i + 1) al l c) l d = liftL i al l c) ?_ ?_ ?_
  · intro k n al h c d hd
    subst hd
    by_cases hk : k = 1
    · subst hk
      by_cases hn : c ≤ n
      · have h1 : c + i ≤ n + (i + 1) := by omega
        have h2 : ¬ n + (i + 1) = c + i := by omega
        simp only [liftT, putT, hn, if_pos, h1, h2, if_neg, not_false_eq_true]
        congr 1; omega
      · have h1 : ¬ c + i ≤ n := by omega
        simp [liftT, putT, hn, h1]
    · simp [liftT, putT, hk, h _ c _ rfl]
  · intro l c d _; simp [liftL, putL]
  · intro t r ht hr l c d hd
    simp only [liftL, putL]
    rw [ht (c + ((l.headD 0 : Nat) : Int)) (d + ((l.headD 0 : Nat) : Int)) (by omega), hr _ c d hd]

theorem puts (u v : T) : (∀ t : T, ∀ i, 0 ≤ i → putT v (putT u t i) i = putT (putT v u 0) (putT (liftT 1 v 0) (swapT t i) i) i) ∧
    (∀ (al : List T) l i, 0 ≤ i → putL v (putL u al l i) l i = putL (putT v u 0) (putL (liftT 1 v 0) (swapL al l i) l i) l i) := by
  refine T.ind (P := fun t => ∀ i, 0 ≤ i → putT v (putT u t i) i = putT (putT v u 0) (putT (liftT 1 v 0) (swapT t i) i) i)
    (Q := fun al => ∀ l i, 0 ≤ i → putL v (putL u al l i) l i = putL (putT v u 0) (putL (liftT 1 v 0) (swapL al l i) l i) l i) ?_ ?_ ?_
  · intro k n al h i hi
    by_cases hk : k = 1
    · subst hk
      by_cases h0 : n < i
      · have a1 : ¬ i ≤ n := by omega
        have a2 : ¬ n = i := by omega
        have a3 : ¬ n = i + 1 := by omega
        simp [putT, swapT, a1, a2, a3]
      · have a1 : i ≤ n := by omega
        by_cases h1 : n = i
        · subst h1
          have e1 : (n + 1 - 1 : Int) = n := by omega
          have e2 : n ≤ n + 1 := by omega
          have e3 : ¬ n + 1 = n := by omega
          simp only [putT, swapT, Int.le_refl, if_pos, e2, e3, if_neg, not_false_eq_true, e1]
          exact (put_lift_at v n hi).1 u 0 n (by omega) (by omega)
        · by_cases h2 : n = i + 1
          · subst h2
            have e1 : (i + 1 - 1 : Int) = i := by omega
            simp only [putT, swapT, a1, if_pos, h1, if_neg, not_false_eq_true, e1, Int.le_refl]
            rw [(lift_lift 1 i).1 v 0 0 (by omega) (by omega), show (1 + i : Int) = i + 1 by omega, (put_lift_more _ i hi).1 v 0 i (by omega)]
          · have e1 : i ≤ n - 1 := by omega
            have e2 : ¬ n - 1 = i := by omega
            simp only [putT, swapT, a1, if_pos, h1, h2, if_neg, not_false_eq_true, e1, e2]
    · simp [putT, swapT, hk, h _ i hi]
  · intro l i _; simp [putL, swapL]
  · intro t r ht hr l i hi
    simp only [putL, swapL]
    rw [ht _ (by omega), hr _ i hi]

theorem term_lift (t u : T) (a b : Int) (ha : 0 ≤ a) : usesT 0 (liftT 1 t 0) 0 = false ∧ putT u (liftT 1 t 0) 0 = t ∧ liftT b (liftT a t 0) 0 = liftT (a + b) t 0 ∧ size (liftT 1 t 0) = size t :=
  ⟨uses_lift.1 t 0, (put_lift u).1 t 0, (lift_lift a b).1 t 0 0 (by omega) (by omega), (size_lift 1).1 t 0⟩

theorem term_puts (t u v : T) : putT v (putT u t 0) 0 = putT (putT v u 0) (putT (liftT 1 v 0) (swapT t 0) 0) 0 := (puts u v).1 t 0 (by omega)

/-- from below which number a kind's N is right -/
def lim (k b d : Int) : Int := if k = 1 then b else if k = 2 then 4 else if k = 18 then d else 1

mutual
def look (d : Int) : T → Int → Nat → Int
  | .mk _ _ _, _, 0 => 9
  | .mk k n al, b, f + 1 => match shape k with
    | none => 1
    | some l => if al.length ≠ l.length then 5 else if n < 0 ∨ lim k b d ≤ n then 3 else lookL d al l b f
def lookL (d : Int) : List T → List Nat → Int → Nat → Int
  | [], _, _, _ => 0
  | t :: r, l, b, f => if look d t (b + (l.headD 0 : Nat)) f ≠ 0 then look d t (b + (l.headD 0 : Nat)) f else lookL d r l.tail b f
end

def wrong (t : T) (b d : Int) : Int := if look d t b 24 ≠ 0 then look d t b 24 else if 60 < size t then 4 else 0

theorem look_zero {d : Int} {k n : Int} {al : List T} {b : Int} {f : Nat} (h : look d (.mk k n al) b f = 0) :
    ∃ g l, f = g + 1 ∧ shape k = some l ∧ al.length = l.length ∧ 0 ≤ n ∧ n < lim k b d ∧ lookL d al l b g = 0 := by
  cases f with
  | zero => simp [look] at h
  | succ g =>
    cases hs : shape k with
    | none => simp [look, hs] at h
    | some l =>
      rw [look, hs] at h
      dsimp only at h
      by_cases h1 : al.length = l.length
      · rw [if_neg (by simpa using h1)] at h
        by_cases h2 : n < 0 ∨ lim k b d ≤ n
        · rw [if_pos h2] at h; omega
        · rw [if_neg h2] at h
          exact ⟨g, l, rfl, rfl, h1, by omega, by omega, h⟩
      · rw [if_pos (by simpa using h1)] at h; omega

theorem lookL_cons {d : Int} {t : T} {r : List T} {l : List Nat} {b : Int} {f : Nat} (h : lookL d (t :: r) l b f = 0) :
    look d t (b + (l.headD 0 : Nat)) f = 0 ∧ lookL d r l.tail b f = 0 := by
  rw [lookL] at h
  by_cases h1 : look d t (b + (l.headD 0 : Nat)) f = 0
  · rw [if_neg (by simpa using h1)] at h; exact ⟨h1, h⟩
  · rw [if_pos h1] at h; exact absurd h h1

theorem wrong_zero {t : T} {b d : Int} (h : wrong t b d = 0) : look d t b 24 = 0 ∧ size t ≤ 60 := by
  unfold wrong at h
  by_cases h1 : look d t b 24 = 0
  · rw [if_neg (by simpa using h1)] at h
    by_cases h2 : 60 < size t
    · rw [if_pos h2] at h; omega
    · exact ⟨h1, by omega⟩
  · rw [if_pos h1] at h; exact absurd h h1

def b8 (x : Int) : UInt8 := UInt8.ofNat (x % 256).toNat

def numbered (k : Int) : Bool := k == 1 || k == 2 || k == 18

mutual
def bytesT : T → List UInt8
  | .mk k n al => b8 k :: ((if numbered k then [b8 n] else []) ++ bytesL al)
def bytesL : List T → List UInt8
  | [] => []
  | t :: r => bytesT t ++ bytesL r
end

def getL (g : List UInt8 → Except Int (T × List UInt8)) : List Nat → List UInt8 → Except Int (List T × List UInt8)
  | [], b => .ok ([], b)
  | _ :: l, b => match g b with
    | .error e => .error e
    | .ok (a, b) => match getL g l b with
      | .error e => .error e
      | .ok (al, b) => .ok (a :: al, b)

def getT : Nat → List UInt8 → Except Int (T × List UInt8)
  | 0, _ => .error 9
  | _ + 1, [] => .error 8
  | f + 1, k :: b => match shape k.toNat with
    | none => .error 1
    | some l => if numbered k.toNat then (match b with
        | [] => .error 8
        | n :: b => match getL (getT f) l b with
          | .error e => .error e
          | .ok (al, b) => .ok (.mk k.toNat n.toNat al, b))
      else match getL (getT f) l b with
        | .error e => .error e
        | .ok (al, b) => .ok (.mk k.toNat 0 al, b)

theorem b8_toNat (x : Int) (h0 : 0 ≤ x) (h1 : x < 256) : ((b8 x).toNat : Int) = x := by
  unfold b8
  rw [UInt8.toNat_ofNat']
  omega

theorem b8_byte (c : UInt8) : b8 (c.toNat : Int) = c := by
  unfold b8
  have h : c.toNat < 256 := c.toNat_lt
  rw [show ((c.toNat : Int) % 256).toNat = c.toNat by omega]
  simp

theorem shape_bounds {k : Int} {l : List Nat} (h : shape k = some l) : 1 ≤ k ∧ k ≤ 18 := by
  unfold shape at h
  repeat' split at h
  all_goals first | omega | cases h

theorem lim_one {k b d : Int} (h : numbered k = false) : lim k b d = 1 := by
  simp [numbered] at h
  unfold lim
  rw [if_neg h.1.1, if_neg h.1.2, if_neg h.2]

theorem lim_le {k b d : Int} (hb : b ≤ 256) (hd : d ≤ 256) : lim k b d ≤ 256 := by
  unfold lim
  repeat' split
  all_goals omega

theorem shape_le {k : Int} {l : List Nat} (h : shape k = some l) : ∀ x ∈ l, x ≤ 2 := by
  unfold shape at h
  repeat' split at h
  all_goals first | (cases h; decide) | cases h

theorem headD_le {l : List Nat} (h : ∀ x ∈ l, x ≤ 2) : l.headD 0 ≤ 2 := by
  cases l with
  | nil => simp
  | cons a r => exact h a (by simp)

theorem tail_le {l : List Nat} (h : ∀ x ∈ l, x ≤ 2) : ∀ x ∈ l.tail, x ≤ 2 := fun x hx => h x (List.mem_of_mem_tail hx)

theorem get_bytes (d : Int) (hd : d ≤ 256) : (∀ t : T, ∀ (b : Int) (f : Nat) r, b + 2 * f ≤ 256 → look d t b f = 0 → getT f (bytesT t ++ r) = .ok (t, r)) ∧
    (∀ (al : List T) l (b : Int) (f : Nat) r, (∀ x ∈ l, x ≤ 2) → al.length = l.length → b + 2 * f + 2 ≤ 256 → lookL d al l b f = 0 → getL (getT f) l (bytesL al ++ r) = .ok (al, r)) := by
  refine T.ind (P := fun t => ∀ (b : Int) (f : Nat) r, b + 2 * f ≤ 256 → look d t b f = 0 → getT f (bytesT t ++ r) = .ok (t, r))
    (Q := fun al => ∀ l (b : Int) (f : Nat) r, (∀ x ∈ l, x ≤ 2) → al.length = l.length → b + 2 * f + 2 ≤ 256 → lookL d al l b f = 0 → getL (getT f) l (bytesL al ++ r) = .ok (al, r)) ?_ ?_ ?_
  · intro k n al h b f r hb hl
    obtain ⟨g, l, rfl, hs, hlen, h0, h1, hL⟩ := look_zero hl
    have hk := shape_bounds hs
    have ek : ((b8 k).toNat : Int) = k := b8_toNat k (by omega) (by omega)
    have ih := h l b g r (shape_le hs) hlen (by omega) hL
    rw [bytesT, List.cons_append, getT, ek, hs]
    dsimp only
    by_cases hn : numbered k = true
    · have hll : lim k b d ≤ 256 := lim_le (by omega) hd
      have en : ((b8 n).toNat : Int) = n := b8_toNat n h0 (by omega)
      rw [if_pos hn, if_pos hn]
      simp only [List.cons_append, List.nil_append]
      rw [ih]
      dsimp only
      rw [en]
    · have hn' : numbered k = false := by simpa using hn
      have hz : n = 0 := by rw [lim_one hn'] at h1; omega
      subst hz
      rw [if_neg hn, if_neg hn]
      simp only [List.nil_append]
      rw [ih]
  · intro l b f r _ hlen _ _
    cases l with
    | nil => rfl
    | cons a l => simp at hlen
  · intro t rs ht hr l b f r hl2 hlen hb hL
    cases l with
    | nil => simp at hlen
    | cons a l =>
      obtain ⟨h1, h2⟩ := lookL_cons hL
      have ha := headD_le hl2
      simp only [List.headD_cons] at h1 ha
      rw [bytesL, List.append_assoc, getL, ht (b + (a : Nat)) f (bytesL rs ++ r) (by omega) h1]
      dsimp only
      rw [hr l b f r (fun x hx => hl2 x (by simp [hx])) (by simpa using hlen) hb h2]

theorem bytes_getL (g : List UInt8 → Except Int (T × List UInt8)) (hg : ∀ b t r, g b = .ok (t, r) → bytesT t ++ r = b) :
    ∀ l b al r, getL g l b = .ok (al, r) → bytesL al ++ r = b := by
  intro l
  induction l with
  | nil => intro b al r h; simp only [getL, Except.ok.injEq, Prod.mk.injEq] at h; obtain ⟨rfl, rfl⟩ := h; simp [bytesL]
  | cons a l ih =>
    intro b al r h
    rw [getL] at h
    cases h1 : g b with
    | error e => rw [h1] at h; cases h
    | ok x =>
      obtain ⟨t, b1⟩ := x
      rw [h1] at h
      dsimp only at h
      cases h2 : getL g l b1 with
      | error e => rw [h2] at h; cases h
      | ok y =>
        obtain ⟨ts, b2⟩ := y
        rw [h2] at h
        simp only [Except.ok.injEq, Prod.mk.injEq] at h
        obtain ⟨rfl, rfl⟩ := h
        rw [bytesL, List.append_assoc, ih _ _ _ h2, hg _ _ _ h1]

theorem bytes_get : ∀ (f : Nat) (b : List UInt8) (t : T) (r : List UInt8), getT f b = .ok (t, r) → bytesT t ++ r = b := by
  intro f
  induction f with
  | zero => intro b t r h; simp [getT] at h
  | succ f ih =>
    intro b t r h
    cases b with
    | nil => simp [getT] at h
    | cons k b =>
      rw [getT] at h
      cases hs : shape k.toNat with
      | none => rw [hs] at h; cases h
      | some l =>
        rw [hs] at h
        dsimp only at h
        by_cases hn : numbered k.toNat = true
        · rw [if_pos hn] at h
          cases b with
          | nil => cases h
          | cons n b =>
            dsimp only at h
            cases h2 : getL (getT f) l b with
            | error e => rw [h2] at h; cases h
            | ok y =>
              obtain ⟨ts, b2⟩ := y
              rw [h2] at h
              simp only [Except.ok.injEq, Prod.mk.injEq] at h
              obtain ⟨rfl, rfl⟩ := h
              rw [bytesT, if_pos hn, b8_byte, b8_byte]
              simp only [List.cons_append, List.nil_append]
              rw [bytes_getL _ ih _ _ _ _ h2]
        · rw [if_neg hn] at h
          cases h2 : getL (getT f) l b with
          | error e => rw [h2] at h; cases h
          | ok y =>
            obtain ⟨ts, b2⟩ := y
            rw [h2] at h
            simp only [Except.ok.injEq, Prod.mk.injEq] at h
            obtain ⟨rfl, rfl⟩ := h
            rw [bytesT, if_neg hn, b8_byte]
            simp only [List.cons_append, List.nil_append]
            rw [bytes_getL _ ih _ _ _ _ h2]

end Go.Proofs.YtjboibbgigkhkaaGreatDoor

/- Plain: values of terms, and types found: with fuel; nothing: out of fuel, or not followed here. No program here. -/
namespace Go.Proofs.YtjboibbgigkhkaaGreatDoor

inductive Val where
  | mk (k n : Int) (xs : List Val) (bs : List (T × List Val))
deriving Inhabited
abbrev Clo := T × List Val
def Val.k : Val → Int | .mk k _ _ _ => k
def Val.n : Val → Int | .mk _ n _ _ => n
def Val.args : Val → List Val | .mk _ _ l _ => l
def Val.bs : Val → List Clo | .mk _ _ _ b => b

/-- what is declared: type, body -/
abbrev DL := List (T × T)

def partP (kind : Int) (p : Val) : Option Val := if p.k = 7 then p.args[(1 + kind - 8).toNat]? else some (.mk kind 0 [p] [])

inductive Rq where
  | value (t : T) (e : List Val)
  | apply (f a : Val)
  | recq (c s : Clo) (z n : Val)

/-- a number, or one more than something that has no parts -/
def chain : Nat → Val → Bool
  | 0, _ => false
  | f + 1, .mk k _ xs bs => match bs with
    | [] => (match xs with
      | [] => k != 16
      | [y] => k == 16 && chain f y
      | _ => false)
    | _ => false

def evalP (ds : DL) : Nat → Rq → Option Val
  | 0, _ => none
  | f + 1, .value (.mk k n al) e =>
    if k = 1 then (if 0 ≤ n ∧ n < 1000 then e[n.toNat]? else none)
    else if k = 18 then (if 0 ≤ n then (ds[n.toNat]?).bind fun d => evalP ds f (.value d.2 []) else none)
    else if k = 5 then (al[0]?).bind fun a => (al[1]?).bind fun b => (evalP ds f (.value a e)).bind fun x => (evalP ds f (.value b e)).bind fun y => evalP ds f (.apply x y)
    else if k = 8 ∨ k = 9 then (al[0]?).bind fun a => (evalP ds f (.value a e)).bind (partP k)
    else if k = 17 then (al[0]?).bind fun c => (al[1]?).bind fun z => (al[2]?).bind fun s => (al[3]?).bind fun m => (evalP ds f (.value z e)).bind fun x => (evalP ds f (.value m e)).bind fun y => evalP ds f (.recq (c, e) (s, e) x y)
    else if k = 3 ∨ k = 4 ∨ k = 6 then (al[0]?).bind fun a => (al[1]?).bind fun b => (evalP ds f (.value a e)).bind fun x => some (.mk k 0 [x] [(b, e)])
    else if k = 7 then (al[0]?).bind fun a => (al[1]?).bind fun b => (al[2]?).bind fun c => (al[3]?).bind fun d => (evalP ds f (.value a e)).bind fun x => (evalP ds f (.value c e)).bind fun y => (evalP ds f (.value d e)).bind fun z => some (.mk k 0 [x, y, z] [(b, e)])
    else match al with
      | [] => if k = 16 then none else some (.mk k n [] [])
      | [a] => if k = 16 then (evalP ds f (.value a e)).bind fun x => if chain 1000 x then some (.mk 16 n [x] []) else none else none
      | _ => none
  | f + 1, .apply g a => if g.k = 4 then (g.bs[0]?).bind fun c => evalP ds f (.value c.1 (a :: c.2)) else some (.mk 5 0 [g, a] [])
  | f + 1, .recq c s z n =>
    if n.k = 15 then some z
    else if n.k = 16 then (n.args[0]?).bind fun m => (evalP ds f (.recq c s z m)).bind fun r => evalP ds f (.value s.1 (r :: m :: s.2))
    else some (.mk 17 0 [z, n] [c, s])

def withP (ds : DL) (f : Nat) (c : Clo) (l : List Val) : Option Val := evalP ds f (.value c.1 (l.reverse ++ c.2))
def freeP (level : Int) : Val := .mk 1 level [] []

/-- a value's term, where so many are bound -/
def termP (ds : DL) : Nat → Val → Int → Option T
  | 0, _, _ => none
  | f + 1, .mk k n xs bs, level =>
    if ¬ (0 ≤ level ∧ level ≤ 1000) then none
    else if k = 3 ∨ k = 6 then (xs[0]?).bind fun a => (bs[0]?).bind fun b => (termP ds f a level).bind fun x => (withP ds f b [freeP level]).bind fun v => (termP ds f v (level + 1)).bind fun y => some (.mk k n [x, y])
    else if k = 1 ∨ k = 4 ∨ k = 7 ∨ k = 17 then none
    else match xs with
      | [] => some (.mk k n [])
      | _ => none

/-- are two types the same? -/
def sortsP (ds : DL) : Nat → Int → Val → Val → Option Bool
  | 0, _, _, _ => none
  | f + 1, level, a, b =>
    if a.k ≠ b.k then some false
    else if a.k = 2 then some (a.n == b.n)
    else if a.k = 10 ∨ a.k = 12 ∨ a.k = 14 then some true
    else if a.k = 3 ∨ a.k = 6 then (a.args[0]?).bind fun x => (b.args[0]?).bind fun y => (sortsP ds f level x y).bind fun q => if q = false then some false else
      (a.bs[0]?).bind fun c => (b.bs[0]?).bind fun d => (withP ds f c [freeP level]).bind fun v => (withP ds f d [freeP level]).bind fun u => sortsP ds f (level + 1) v u
    else none

/-- what is bound: its types, and values -/
structure Fi where
  types : List Val
  env : List Val
def Fi.under (g : Fi) (t : Val) : Fi := ⟨g.types ++ [t], freeP g.types.length :: g.env⟩

/-- a term's type, or what is wrong (and nothing) -/
abbrev Res := Option (Option Val × Int)

def sortR (r : Res) : Option (Int × Int) := r.bind fun u => if u.2 ≠ 0 then some (0, u.2) else match u.1 with
  | none => none
  | some v => if v.k ≠ 2 then some (0, 13) else some (v.n, 0)

def no (e : Int) : Res := some (none, e)
def yes (v : Val) : Res := some (some v, 0)

def checkR (ds : DL) (f : Nat) (g : Fi) (r : Res) (want : Val) : Option Int := r.bind fun u => if u.2 ≠ 0 then some u.2 else match u.1 with
  | none => none
  | some v => (sortsP ds f g.types.length v want).bind fun q => some (if q then 0 else 10)

def inferP (ds : DL) : Nat → Fi → T → Res
  | 0, _, _ => none
  | f + 1, g, .mk k n al =>
    let value := fun t => evalP ds f (.value t g.env)
    let infer := inferP ds f
    let sort := fun (h : Fi) t => sortR (infer h t)
    let check := fun (h : Fi) t w => checkR ds f h (infer h t) w
    let both := fun (a b : T) => (sort g a).bind fun x => if x.2 ≠ 0 then some (0, none, x.2) else (value a).bind fun v => (sort (g.under v) b).bind fun y => if y.2 ≠ 0 then some (0, none, y.2) else some (max x.1 y.1, some v, 0)
    if k = 1 then (if 0 ≤ n ∧ n < g.types.length then (g.types[g.types.length - 1 - n.toNat]?).bind yes else none)
    else if k = 18 then (if 0 ≤ n then (ds[n.toNat]?).bind fun d => (evalP ds f (.value d.1 [])).bind yes else none)
    else if k = 2 then (if 3 ≤ n then no 3 else if 0 ≤ n then yes (.mk 2 (n + 1) [] []) else none)
    else if k = 10 ∨ k = 12 ∨ k = 14 then yes (.mk 2 0 [] [])
    else if k = 11 then yes (.mk 10 0 [] [])
    else if k = 15 then yes (.mk 14 0 [] [])
    else if k = 3 ∨ k = 6 then (al[0]?).bind fun a => (al[1]?).bind fun b => (both a b).bind fun r => if r.2.2 ≠ 0 then no r.2.2 else yes (.mk 2 r.1 [] [])
    else if k = 16 then (al[0]?).bind fun a => (check g a (.mk 14 0 [] [])).bind fun e => if e ≠ 0 then no e else yes (.mk 14 0 [] [])
    else if k = 5 then (al[0]?).bind fun a => (al[1]?).bind fun b => (infer g a).bind fun r => if r.2 ≠ 0 then no r.2 else r.1.bind fun p => if p.k ≠ 3 then no 11 else
      (p.args[0]?).bind fun x => (check g b x).bind fun e => if e ≠ 0 then no e else (p.bs[0]?).bind fun c => (value b).bind fun v => (withP ds f c [v]).bind yes
    else if k = 4 then (al[0]?).bind fun a => (al[1]?).bind fun b => (sort g a).bind fun s => if s.2 ≠ 0 then no s.2 else (value a).bind fun v => (infer (g.under v) b).bind fun r => if r.2 ≠ 0 then no r.2 else
      r.1.bind fun w => (termP ds f w (g.types.length + 1)).bind fun t => yes (.mk 3 0 [v] [(t, g.env)])
    else if k = 8 ∨ k = 9 then (al[0]?).bind fun a => (infer g a).bind fun r => if r.2 ≠ 0 then no r.2 else r.1.bind fun p => if p.k ≠ 6 then no 12 else
      if k = 8 then (p.args[0]?).bind yes else (p.bs[0]?).bind fun c => (value a).bind fun v => (partP 8 v).bind fun x => (withP ds f c [x]).bind yes
    else if k = 7 then (al[0]?).bind fun a => (al[1]?).bind fun b => (al[2]?).bind fun c => (al[3]?).bind fun d => (both a b).bind fun r => if r.2.2 ≠ 0 then no r.2.2 else r.2.1.bind fun v =>
      (check g c v).bind fun e => if e ≠ 0 then no e else (value c).bind fun x => (withP ds f (b, g.env) [x]).bind fun w => (check g d w).bind fun e2 => if e2 ≠ 0 then no e2 else yes (.mk 6 0 [v] [(b, g.env)])
    else if k = 17 then (al[0]?).bind fun c => (al[1]?).bind fun z => (al[2]?).bind fun s => (al[3]?).bind fun m =>
      (sort (g.under (.mk 14 0 [] [])) c).bind fun q => if q.2 ≠ 0 then no q.2 else (withP ds f (c, g.env) [.mk 15 0 [] []]).bind fun w0 => (check g z w0).bind fun e => if e ≠ 0 then no e else
      (withP ds f (c, g.env) [freeP g.types.length]).bind fun w1 => (withP ds f (c, g.env) [.mk 16 0 [freeP g.types.length] []]).bind fun w2 => (check ((g.under (.mk 14 0 [] [])).under w1) s w2).bind fun e2 => if e2 ≠ 0 then no e2 else
      (check g m (.mk 14 0 [] [])).bind fun e3 => if e3 ≠ 0 then no e3 else (value m).bind fun v => (withP ds f (c, g.env) [v]).bind yes
    else none

/-- what is wrong with a declaration's type, its body -/
def sortTop (ds : DL) (f : Nat) (t : T) : Option (Int × Int) := sortR (inferP ds f ⟨[], []⟩ t)
def checkTop (ds : DL) (f : Nat) (t want : T) : Option Int := (evalP ds f (.value want [])).bind fun w => checkR ds f ⟨[], []⟩ (inferP ds f ⟨[], []⟩ t) w

def numeralP : Nat → T
  | 0 => .mk 15 0 []
  | n + 1 => .mk 16 0 [numeralP n]
def numberP : Nat → Val → Option (Int × Bool)
  | 0, _ => none
  | f + 1, v => if v.k = 16 then (v.args[0]?).bind fun m => (numberP f m).bind fun r => some (r.1 + 1, r.2) else some (0, v.k == 15)

/-! the book's four declarations -/
def tNat : T := .mk 14 0 []
def tV (n : Int) : T := .mk 1 n []
def tPi (a b : T) : T := .mk 3 0 [a, b]
def tFn (a b : T) : T := .mk 4 0 [a, b]
def tAp (a b : T) : T := .mk 5 0 [a, b]
def tRec (c z s n : T) : T := .mk 17 0 [c, z, s, n]
def tSuc (a : T) : T := .mk 16 0 [a]
def tD (n : Int) : T := .mk 18 n []
def tSig (a b : T) : T := .mk 6 0 [a, b]
def dAdd : T × T := (tPi tNat (tPi tNat tNat), tFn tNat (tFn tNat (tRec tNat (tV 0) (tSuc (tV 0)) (tV 1))))
def dMul : T × T := (tPi tNat (tPi tNat tNat), tFn tNat (tFn tNat (tRec tNat (.mk 15 0 []) (tAp (tAp (tD 0) (tV 2)) (tV 0)) (tV 1))))
def dSwap : T × T := (tPi (tSig tNat tNat) (tSig tNat tNat), tFn (tSig tNat tNat) (.mk 7 0 [tNat, tNat, .mk 9 0 [tV 0], .mk 8 0 [tV 0]]))
def dIs : T × T := (tPi tNat (tPi tNat (.mk 2 0 [])), tFn tNat (tRec (tPi tNat (.mk 2 0 [])) (tFn tNat (tRec (.mk 2 0 []) (.mk 10 0 []) (.mk 12 0 []) (tV 0))) (tFn tNat (tRec (.mk 2 0 []) (.mk 12 0 []) (tAp (tV 3) (tV 1)) (tV 0))) (tV 0)))
def four : DL := [dAdd, dMul, dSwap, dIs]
end Go.Proofs.YtjboibbgigkhkaaGreatDoor

/- Plain: types found, where nothing is wrong (nothing: something is, or it is not followed here): with fuel. No program here. -/
namespace Go.Proofs.YtjboibbgigkhkaaGreatDoor

def sortQ (inf : Fi → T → Option Val) (g : Fi) (t : T) : Option Int := (inf g t).bind fun v => if v.k = 2 then some v.n else none
def checkQ (ds : DL) (f : Nat) (inf : Fi → T → Option Val) (g : Fi) (t : T) (want : Val) : Option Bool := (inf g t).bind fun v => sortsP ds f g.types.length v want
def bothQ (ds : DL) (f : Nat) (inf : Fi → T → Option Val) (g : Fi) (a b : T) : Option (Int × Val) :=
  (sortQ inf g a).bind fun x => (evalP ds f (.value a g.env)).bind fun v => (sortQ inf (g.under v) b).bind fun y => some (max x y, v)
def thenQ (c : Option Bool) (r : Option Val) : Option Val := c.bind fun q => if q then r else none
def natV : Val := .mk 14 0 [] []

def appQ (ds : DL) (f : Nat) (inf : Fi → T → Option Val) (g : Fi) (a b : T) : Option Val :=
  (inf g a).bind fun p => if p.k = 3 then (p.args[0]?).bind fun x => thenQ (checkQ ds f inf g b x) ((p.bs[0]?).bind fun c => (evalP ds f (.value b g.env)).bind fun v => withP ds f c [v]) else none
def lamQ (ds : DL) (f : Nat) (inf : Fi → T → Option Val) (g : Fi) (a b : T) : Option Val :=
  (sortQ inf g a).bind fun _ => (evalP ds f (.value a g.env)).bind fun v => (inf (g.under v) b).bind fun w => (termP ds f w (g.types.length + 1)).bind fun t => some (.mk 3 0 [v] [(t, g.env)])
def partQ (ds : DL) (f : Nat) (inf : Fi → T → Option Val) (g : Fi) (k : Int) (a : T) : Option Val :=
  (inf g a).bind fun p => if p.k = 6 then (if k = 8 then p.args[0]? else (p.bs[0]?).bind fun c => (evalP ds f (.value a g.env)).bind fun v => (partP 8 v).bind fun x => withP ds f c [x]) else none
def pairQ (ds : DL) (f : Nat) (inf : Fi → T → Option Val) (g : Fi) (a b c d : T) : Option Val :=
  (bothQ ds f inf g a b).bind fun r => thenQ (checkQ ds f inf g c r.2) ((evalP ds f (.value c g.env)).bind fun x => (withP ds f (b, g.env) [x]).bind fun w => thenQ (checkQ ds f inf g d w) (some (.mk 6 0 [r.2] [(b, g.env)])))
def recQ (ds : DL) (f : Nat) (inf : Fi → T → Option Val) (g : Fi) (c z s m : T) : Option Val :=
  (sortQ inf (g.under natV) c).bind fun _ => (withP ds f (c, g.env) [.mk 15 0 [] []]).bind fun w0 => thenQ (checkQ ds f inf g z w0)
    ((withP ds f (c, g.env) [freeP g.types.length]).bind fun w1 => (withP ds f (c, g.env) [.mk 16 0 [freeP g.types.length] []]).bind fun w2 => thenQ (checkQ ds f inf ((g.under natV).under w1) s w2)
      (thenQ (checkQ ds f inf g m natV) ((evalP ds f (.value m g.env)).bind fun v => withP ds f (c, g.env) [v])))

def inferQ (ds : DL) : Nat → Fi → T → Option Val
  | 0, _, _ => none
  | f + 1, g, .mk k n al =>
    if k = 1 then (if 0 ≤ n ∧ n < g.types.length then g.types[g.types.length - 1 - n.toNat]? else none)
    else if k = 18 then (if 0 ≤ n then (ds[n.toNat]?).bind fun d => evalP ds f (.value d.1 []) else none)
    else if k = 2 then (if 0 ≤ n ∧ n < 3 then some (.mk 2 (n + 1) [] []) else none)
    else if k = 10 ∨ k = 12 ∨ k = 14 then some (.mk 2 0 [] [])
    else if k = 11 then some (.mk 10 0 [] [])
    else if k = 15 then some natV
    else if k = 3 ∨ k = 6 then (al[0]?).bind fun a => (al[1]?).bind fun b => (bothQ ds f (inferQ ds f) g a b).bind fun r => some (.mk 2 r.1 [] [])
    else if k = 16 then (al[0]?).bind fun a => thenQ (checkQ ds f (inferQ ds f) g a natV) (some natV)
    else if k = 4 then (al[0]?).bind fun a => (al[1]?).bind fun b => lamQ ds f (inferQ ds f) g a b
    else if k = 5 then (al[0]?).bind fun a => (al[1]?).bind fun b => appQ ds f (inferQ ds f) g a b
    else if k = 7 then (al[0]?).bind fun a => (al[1]?).bind fun b => (al[2]?).bind fun c => (al[3]?).bind fun d => pairQ ds f (inferQ ds f) g a b c d
    else if k = 8 ∨ k = 9 then (al[0]?).bind fun a => partQ ds f (inferQ ds f) g k a
    else if k = 17 then (al[0]?).bind fun c => (al[1]?).bind fun z => (al[2]?).bind fun s => (al[3]?).bind fun m => recQ ds f (inferQ ds f) g c z s m
    else none

/-- a declaration's type, its body: how high, whether it is so -/
def sortTop' (ds : DL) (f : Nat) (t : T) : Option Int := sortQ (inferQ ds f) ⟨[], []⟩ t
def checkTop' (ds : DL) (f : Nat) (t want : T) : Option Bool := (evalP ds f (.value want [])).bind fun w => checkQ ds f (inferQ ds f) ⟨[], []⟩ t w
end Go.Proofs.YtjboibbgigkhkaaGreatDoor

/- Plain: the words of a text, and the term of a text, word by word. No program here. -/
namespace Go.Proofs.YtjboibbgigkhkaaGreatDoor

abbrev Str := List UInt8
def isBlank (c : UInt8) : Bool := c == 32 || c == 10
def isBr (c : UInt8) : Bool := c == 40 || c == 41
def isStop (c : UInt8) : Bool := isBlank c || isBr c

def flush (c : Str) (out : List Str) : List Str := if c = [] then out else c :: out
/-- the word that the text begins with, if any; the words behind it -/
def wst : Str → Str × List Str
  | [] => ([], [])
  | c :: r => if isStop c then ([], if isBr c then [c] :: flush (wst r).1 (wst r).2 else flush (wst r).1 (wst r).2) else (c :: (wst r).1, (wst r).2)
def words (s : Str) : List Str := flush (wst s).1 (wst s).2

def notStop (c : UInt8) : Bool := !isStop c

theorem words_nil : words [] = [] := rfl
theorem words_blank {c : UInt8} {r : Str} (h : isBlank c = true) : words (c :: r) = words r := by
  have h1 : isStop c = true := by simp [isStop, h]
  have h2 : isBr c = false := by
    simp only [isBlank, Bool.or_eq_true, beq_iff_eq] at h
    rcases h with rfl | rfl <;> rfl
  unfold words
  rw [wst, if_pos h1, h2]
  rfl
theorem words_br {c : UInt8} {r : Str} (h : isBr c = true) : words (c :: r) = [c] :: words r := by
  have h1 : isStop c = true := by simp [isStop, h]
  unfold words
  rw [wst, if_pos h1, if_pos h]
  rfl
theorem wst_span (s : Str) : wst s = (s.takeWhile notStop, words (s.dropWhile notStop)) := by
  induction s with
  | nil => rfl
  | cons c r ih =>
    by_cases h : isStop c = true
    · have hn : notStop c = false := by simp [notStop, h]
      rw [List.takeWhile_cons, hn, List.dropWhile_cons, hn]
      simp only [Bool.false_eq_true, if_false]
      have h1 : (wst (c :: r)).1 = [] := by rw [wst, if_pos h]
      refine Prod.ext h1 ?_
      show _ = words (c :: r)
      unfold words
      rw [h1]
      rfl
    · have hn : notStop c = true := by simp [notStop, h]
      rw [List.takeWhile_cons, hn, List.dropWhile_cons, hn, wst, if_neg h, ih]
      rfl
theorem words_word {c : UInt8} {r : Str} (h : isStop c = false) : words (c :: r) = ((c :: r).takeWhile notStop) :: words ((c :: r).dropWhile notStop) := by
  have hn : notStop c = true := by simp [notStop, h]
  have e := wst_span (c :: r)
  rw [words, e]
  rw [flush, if_neg]
  rw [List.takeWhile_cons, hn]
  simp

theorem words_ne : ∀ (s : Str), ∀ w ∈ words s, w ≠ [] := by
  have key : ∀ (s : Str), ∀ w ∈ (wst s).2, w ≠ [] := by
    intro s
    induction s with
    | nil => intro w hw; cases hw
    | cons c r ih =>
      have hf : ∀ w ∈ flush (wst r).1 (wst r).2, w ≠ [] := by
        intro w hw
        unfold flush at hw
        by_cases h : (wst r).1 = []
        · rw [if_pos h] at hw; exact ih w hw
        · rw [if_neg h] at hw
          cases hw with
          | head => exact h
          | tail _ hw => exact ih w hw
      intro w hw
      rw [wst] at hw
      by_cases h : isStop c = true
      · rw [if_pos h] at hw
        dsimp only at hw
        by_cases h2 : isBr c = true
        · rw [if_pos h2] at hw
          cases hw with
          | head => simp
          | tail _ hw => exact hf w hw
        · rw [if_neg h2] at hw; exact hf w hw
      · rw [if_neg h] at hw; exact ih w hw
  intro s w hw
  unfold words flush at hw
  by_cases h : (wst s).1 = []
  · rw [if_pos h] at hw; exact key s w hw
  · rw [if_neg h] at hw
    cases hw with
    | head => exact h
    | tail _ hw => exact key s w hw

/-- a kind's word; those that have none: none -/
def word (k : Nat) : Str :=
  if k = 2 then [85] else if k = 3 then [112, 105] else if k = 4 then [102, 110] else if k = 6 then [115, 105, 103] else if k = 7 then [112, 97, 105, 114]
  else if k = 8 then [102, 115, 116] else if k = 9 then [115, 110, 100] else if k = 10 then [117, 110, 105, 116] else if k = 11 then [115, 116, 97, 114]
  else if k = 12 then [101, 109, 112, 116, 121] else if k = 13 then [97, 98, 115, 117, 114, 100] else if k = 14 then [110, 97, 116] else if k = 15 then [122, 101, 114, 111]
  else if k = 16 then [115, 117, 99] else if k = 17 then [114, 101, 99] else []

/-- the kind of a word, from k on, so many looked at -/
def kindFrom (w : Str) : Nat → Nat → Nat
  | _, 0 => 0
  | k, f + 1 => if k ≠ 5 ∧ word k = w then k else kindFrom w (k + 1) f
def kindOf (w : Str) : Nat := kindFrom w 3 15

def isName (s : Str) : Bool := !(s == []) && decide (s.length ≤ 8) && !(s == [100, 101, 102]) && kindOf s == 0 && s.all fun c => decide (97 ≤ c ∧ c ≤ 122)

/-- what a reader has: the words that are left, what was wrong first -/
structure PS where
  l : List Str
  e : Int

def PS.fail (c : Int) (p : PS) : PS := if p.e = 0 then ⟨p.l, c⟩ else p
def PS.take (p : PS) : Str × PS := match p.l with
  | [] => ([], p.fail 8)
  | w :: r => (w, ⟨r, p.e⟩)

def T0 : T := .mk 0 0 []

/-- how far from the end a name is -/
def fromEnd (l : List Str) (w : Str) : Option Nat := l.reverse.findIdx? (· == w)

section
variable (cn : Str → Option Int) (decls : List Str)

def height (d : Str) (p : PS) : T × PS := match cn d with
  | none => (T0, p.fail 2)
  | some n => if n < 0 ∨ 3 < n then (T0, p.fail 3) else (.mk 2 n [], p)

def atom (w : Str) (bound : List Str) (p : PS) : T × PS :=
  if w.head? = some 85 then height cn w.tail p
  else if 0 < kindOf w then (if shape (kindOf w) = some [] then (.mk (kindOf w) 0 [], p) else (T0, p.fail 2))
  else if isName w = false then (T0, p.fail 7)
  else match fromEnd bound w with
    | some i => (.mk 1 i [], p)
    | none => match fromEnd decls w with
      | some i => (.mk 18 ((decls.length : Int) - 1 - i) [], p)
      | none => (T0, p.fail 6)

def binders : Nat → List Str → PS → List Str × PS
  | 0, b, p => (b, p)
  | n + 1, b, p => binders n (b ++ [p.take.1]) (if isName p.take.1 then p.take.2 else p.take.2.fail 7)

def pargs (g : List Str → PS → T × PS) (bound : List Str) : List Nat → PS → List T × PS
  | [], p => ([], p)
  | n :: r, p =>
    let i := binders n bound p
    let a := g i.1 (if 8 < i.1.length then i.2.fail 5 else i.2)
    let q := pargs g bound r a.2
    (a.1 :: q.1, q.2)

def headKind (p : PS) : Int × PS := if 0 < kindOf (p.l.headD []) ∧ shape (kindOf (p.l.headD [])) ≠ some [] then (kindOf (p.l.headD []), p.take.2) else (5, p)

def closed (p : PS) : PS := if p.take.1 = [41] then p.take.2 else p.take.2.fail 2

def pterm : Nat → List Str → PS → T × PS
  | 0, _, p => (T0, p.fail 9)
  | f + 1, bound, p =>
    if p.e ≠ 0 then (T0, p) else
    if p.take.1 ≠ [40] then atom cn decls p.take.1 bound p.take.2 else
    let q := headKind p.take.2
    let a := pargs (pterm f) bound ((shape q.1).getD []) q.2
    (.mk q.1 0 a.1, closed a.2)

def ended (p : PS) : PS := if p.e = 0 ∧ p.l ≠ [] then p.fail 2 else p

/-- the term of a text; what is wrong -/
def parse (s : Str) (bound : List Str) : T × Int :=
  if 1500 < s.length then (T0, 4) else if 8 < bound.length then (T0, 5) else
  let q := pterm cn decls 24 bound ⟨words s, 0⟩
  if (ended q.2).e ≠ 0 then (T0, (ended q.2).e) else (q.1, 0)
end

/-- (fn nat n (a n)), where a, b are bound -/
theorem parse_ex1 : parse (fun _ => none) [] [40, 102, 110, 32, 110, 97, 116, 32, 110, 32, 40, 97, 32, 110, 41, 41] [[97], [98]] = (.mk 4 0 [.mk 14 0 [], .mk 5 0 [.mk 1 2 [], .mk 1 0 []]], 0) := by rfl
end Go.Proofs.YtjboibbgigkhkaaGreatDoor

/- Plain: a term's text, and its words: read again it is the term; what is read is right. No program here. -/
namespace Go.Proofs.YtjboibbgigkhkaaGreatDoor

def xname (i : Nat) : Str := [120, UInt8.ofNat (97 + i % 26)]
def fresh : Nat → Nat → List Str
  | 0, _ => []
  | n + 1, i => xname i :: fresh n (i + 1)
def dig (n : Int) : Str := [UInt8.ofNat (48 + n.toNat)]
def joinB : List Str → Str
  | [] => []
  | [a] => a
  | a :: b :: r => a ++ 32 :: joinB (b :: r)
def leaf (decls bound : List Str) (k n : Int) : Str :=
  if k = 1 then (bound[bound.length - 1 - n.toNat]?).getD [] else if k = 2 then 85 :: dig n else if k = 18 then (decls[n.toNat]?).getD [] else word k.toNat
def headW (k : Int) : List Str := if k = 5 then [] else [word k.toNat]

mutual
/-- a term's text -/
def printT (decls : List Str) : T → List Str → Str
  | .mk k n al, b => if al.isEmpty then leaf decls b k n else 40 :: (joinB (headW k ++ printL decls al ((shape k).getD []) b) ++ [41])
def printL (decls : List Str) : List T → List Nat → List Str → List Str
  | [], _, _ => []
  | t :: r, l, b => fresh (l.headD 0) b.length ++ printT decls t (b ++ fresh (l.headD 0) b.length) :: printL decls r l.tail b
end
mutual
/-- its words -/
def wordsT (decls : List Str) : T → List Str → List Str
  | .mk k n al, b => if al.isEmpty then [leaf decls b k n] else [40] :: (headW k ++ wordsL decls al ((shape k).getD []) b ++ [[41]])
def wordsL (decls : List Str) : List T → List Nat → List Str → List Str
  | [], _, _ => []
  | t :: r, l, b => fresh (l.headD 0) b.length ++ (wordsT decls t (b ++ fresh (l.headD 0) b.length) ++ wordsL decls r l.tail b)
end
mutual
/-- how many are bound at most -/
def boundT : T → Int → Int
  | .mk k _ al, n => boundL al ((shape k).getD []) n
def boundL : List T → List Nat → Int → Int
  | [], _, n => n
  | t :: r, l, n => max (boundT t (n + (l.headD 0 : Nat))) (boundL r l.tail n)
end

/-- what comes begins with a stop, if with anything -/
def stopAhead (r : Str) : Prop := ∀ c r', r = c :: r' → isStop c = true
def clean (s : Str) : Prop := s ≠ [] ∧ ∀ c ∈ s, isStop c = false

theorem words_clean {s r : Str} (hs : clean s) (hr : stopAhead r) : words (s ++ r) = s :: words r := by
  have h1 : ∀ a ∈ s, notStop a = true := fun a ha => by simp [notStop, hs.2 a ha]
  have h2 : r.takeWhile notStop = [] ∧ r.dropWhile notStop = r := by
    cases r with
    | nil => exact ⟨rfl, rfl⟩
    | cons c r' =>
      have := hr c r' rfl
      have hn : notStop c = false := by simp [notStop, this]
      simp [hn]
  obtain ⟨c, s', rfl⟩ : ∃ c s', s = c :: s' := by
    cases s with
    | nil => exact absurd rfl hs.1
    | cons c s' => exact ⟨c, s', rfl⟩
  have hc := hs.2 c (List.mem_cons_self ..)
  rw [List.cons_append, words_word hc, ← List.cons_append, List.takeWhile_append_of_pos h1, List.dropWhile_append_of_pos h1, h2.1, h2.2, List.append_nil]

/-- the words of a piece, whatever comes -/
def HW (p : Str) (ws : List Str) : Prop := ∀ r, stopAhead r → words (p ++ r) = ws ++ words r
inductive HWs : List Str → List Str → Prop
  | nil : HWs [] []
  | cons {p : Str} {ws : List Str} {ps us : List Str} : HW p ws → HWs ps us → HWs (p :: ps) (ws ++ us)
theorem HW.clean {s : Str} (h : Go.Proofs.YtjboibbgigkhkaaGreatDoor.clean s) : HW s [s] := fun _r hr => words_clean h hr
theorem HWs.append {ps us qs vs : List Str} (h : HWs ps us) (h2 : HWs qs vs) : HWs (ps ++ qs) (us ++ vs) := by
  induction h with
  | nil => exact h2
  | cons h1 _ ih => rw [List.cons_append, List.append_assoc]; exact .cons h1 ih
theorem HWs.clean {ps : List Str} (h : ∀ p ∈ ps, Go.Proofs.YtjboibbgigkhkaaGreatDoor.clean p) : HWs ps ps := by
  induction ps with
  | nil => exact .nil
  | cons p ps ih => exact .cons (ws := [p]) (HW.clean (h p (List.mem_cons_self ..))) (ih fun q hq => h q (List.mem_cons_of_mem _ hq))
theorem stop_blank (r : Str) : stopAhead (32 :: r) := fun c r' e => by cases e; rfl
theorem stop_close (r : Str) : stopAhead (41 :: r) := fun c r' e => by cases e; rfl
theorem joinB_words {ps us : List Str} (h : HWs ps us) : HW (joinB ps) us := by
  induction h with
  | nil => intro r _; rfl
  | @cons p ws ps us h1 h2 ih =>
    intro r hr
    cases h2 with
    | nil => rw [List.append_nil]; exact h1 r hr
    | @cons p2 ws2 ps2 us2 h3 h4 =>
      show words ((p ++ 32 :: joinB (p2 :: ps2)) ++ r) = _
      rw [List.append_assoc, List.cons_append, h1 _ (stop_blank _), words_blank (by rfl), ih r hr, List.append_assoc, List.append_assoc, List.append_assoc]

/-- kinds without arguments that have a word -/
theorem leaf_kinds {k : Int} (h : shape k = some []) : k = 1 ∨ k = 2 ∨ k = 18 ∨ k = 10 ∨ k = 11 ∨ k = 12 ∨ k = 14 ∨ k = 15 := by
  unfold shape at h
  repeat' split at h
  all_goals first | omega | (simp at h)
theorem node_kinds {k : Int} {l : List Nat} (h : shape k = some l) (hl : l ≠ []) : k = 3 ∨ k = 4 ∨ k = 5 ∨ k = 6 ∨ k = 7 ∨ k = 8 ∨ k = 9 ∨ k = 13 ∨ k = 16 ∨ k = 17 := by
  unfold shape at h
  repeat' split at h
  all_goals first | omega | exact absurd (Option.some.inj h).symm hl | cases h

def lowAll (s : Str) : Bool := s.all fun c => decide (97 ≤ c ∧ c ≤ 122)
theorem clean_low {s : Str} (h0 : s ≠ []) (h : lowAll s = true) : clean s := by
  refine ⟨h0, fun c hc => ?_⟩
  have := List.all_eq_true.1 h c hc
  simp only [decide_eq_true_eq] at this
  have h1 : (97 : UInt8).toNat ≤ c.toNat := this.1
  have : c ≠ 32 := by rintro rfl; revert h1; decide
  have : c ≠ 10 := by rintro rfl; revert h1; decide
  have : c ≠ 40 := by rintro rfl; revert h1; decide
  have : c ≠ 41 := by rintro rfl; revert h1; decide
  simp [isStop, isBlank, isBr, *]
theorem isName_iff {s : Str} (h : isName s = true) : s ≠ [] ∧ kindOf s = 0 ∧ lowAll s = true := by
  unfold isName at h
  simp only [Bool.and_eq_true] at h
  obtain ⟨⟨⟨⟨h1, -⟩, -⟩, h4⟩, h5⟩ := h
  exact ⟨by intro e; subst e; simp at h1, by simpa using h4, h5⟩
theorem isName_clean {s : Str} (h : isName s = true) : clean s := clean_low (isName_iff h).1 (isName_iff h).2.2
theorem isName_U {s : Str} (h : isName s = true) : s.head? ≠ some 85 := by
  obtain ⟨h0, -, h2⟩ := isName_iff h
  cases s with
  | nil => exact absurd rfl h0
  | cons c r =>
    have := List.all_eq_true.1 h2 c (List.mem_cons_self ..)
    simp only [decide_eq_true_eq] at this
    have h1 : (97 : UInt8).toNat ≤ c.toNat := this.1
    intro e
    simp at e
    subst e
    revert h1; decide

theorem xname_name : ∀ i, isName (xname i) = true := by
  intro i
  have h : ∀ j < 26, isName [120, UInt8.ofNat (97 + j)] = true := by decide
  exact h _ (Nat.mod_lt _ (by decide))
theorem xname_inj {i j : Nat} (hi : i < 26) (hj : j < 26) (h : xname i = xname j) : i = j := by
  have key : ∀ a < 26, ∀ b < 26, UInt8.ofNat (97 + a % 26) = UInt8.ofNat (97 + b % 26) → a = b := by decide
  unfold xname at h
  injection h with _ h
  injection h with h _
  exact key i hi j hj h

theorem fresh_length : ∀ n i, (fresh n i).length = n := by
  intro n
  induction n with
  | zero => intro i; rfl
  | succ n ih => intro i; rw [fresh, List.length_cons, ih]
theorem fresh_mem : ∀ n i, ∀ x ∈ fresh n i, isName x = true := by
  intro n
  induction n with
  | zero => intro i x h; cases h
  | succ n ih =>
    intro i x h
    cases h with
    | head => exact xname_name i
    | tail _ h => exact ih _ x h

/-- names that are there: unlike, no words; those that begin with x are named for their places -/
structure Scope (decls b : List Str) : Prop where
  nm : ∀ x ∈ b, isName x = true
  dn : ∀ x ∈ decls, isName x = true
  dx : ∀ x ∈ decls, x.head? ≠ some 120
  dd : decls.Nodup
  bd : b.Nodup
  no : ∀ x ∈ b, x ∉ decls
  ix : ∀ (i : Nat) x, b[i]? = some x → x.head? = some 120 → x = xname i
theorem Scope.more {decls b : List Str} (h : Scope decls b) (hl : b.length < 26) : Scope decls (b ++ [xname b.length]) where
  nm := fun x hx => by
    rcases List.mem_append.1 hx with hx | hx
    · exact h.nm x hx
    · simp at hx; subst hx; exact xname_name _
  dn := h.dn
  dx := h.dx
  dd := h.dd
  bd := by
    rw [List.nodup_append]
    refine ⟨h.bd, by simp, fun x hx y hy e => ?_⟩
    simp at hy
    subst hy e
    obtain ⟨i, hi, hx⟩ := List.mem_iff_getElem.1 hx
    have := h.ix i _ (by rw [List.getElem?_eq_getElem hi, hx]) rfl
    have := xname_inj (by omega) (by omega) this
    omega
  no := fun x hx => by
    rcases List.mem_append.1 hx with hx | hx
    · exact h.no x hx
    · simp at hx; subst hx; exact fun hm => h.dx _ hm rfl
  ix := fun i x hx h0 => by
    rcases Nat.lt_or_ge i b.length with hi | hi
    · rw [List.getElem?_append_left hi] at hx; exact h.ix i x hx h0
    · rw [List.getElem?_append_right hi] at hx
      have hz : i - b.length = 0 := by
        rcases Nat.eq_zero_or_pos (i - b.length) with hz | hz
        · exact hz
        · rw [List.getElem?_eq_none (by simp; omega)] at hx; cases hx
      rw [hz] at hx
      simp at hx
      rw [← hx, show i = b.length by omega]
theorem Scope.fresh {decls : List Str} : ∀ {n : Nat} {b : List Str}, Scope decls b → b.length + n ≤ 26 → Scope decls (b ++ Go.Proofs.YtjboibbgigkhkaaGreatDoor.fresh n b.length) := by
  intro n
  induction n with
  | zero => intro b h _; rw [Go.Proofs.YtjboibbgigkhkaaGreatDoor.fresh, List.append_nil]; exact h
  | succ n ih =>
    intro b h hl
    have := ih (h.more (by omega)) (by simp; omega)
    rw [List.append_assoc] at this
    simpa [Go.Proofs.YtjboibbgigkhkaaGreatDoor.fresh] using this
theorem Scope.cleanb {decls b : List Str} (h : Scope decls b) : ∀ x ∈ b, clean x := fun x hx => isName_clean (h.nm x hx)

theorem fromEnd_nodup {b : List Str} (h : b.Nodup) {n : Nat} (hn : n < b.length) : fromEnd b ((b[b.length - 1 - n]?).getD []) = some n := by
  unfold fromEnd
  rw [List.findIdx?_eq_some_iff_getElem]
  have e : (b[b.length - 1 - n]?).getD [] = b[b.length - 1 - n] := by rw [List.getElem?_eq_getElem (by omega)]; rfl
  refine ⟨by simpa using hn, ?_, fun j hj => ?_⟩
  · rw [e, List.getElem_reverse]; simp
  · rw [e, List.getElem_reverse]
    simp only [beq_iff_eq]
    intro e2
    exact List.pairwise_iff_getElem.1 h _ _ (by omega) (by omega) (by omega) e2.symm
theorem fromEnd_not {b : List Str} {x : Str} (h : x ∉ b) : fromEnd b x = none := by
  unfold fromEnd
  rw [List.findIdx?_eq_none_iff]
  intro y hy
  simp at hy
  simp only [beq_eq_false_iff_ne]
  rintro rfl
  exact h hy

theorem boundT_ge : (∀ t : T, ∀ n, n ≤ boundT t n) ∧ (∀ (al : List T) l n, n ≤ boundL al l n) := by
  refine T.ind (P := fun t => ∀ n, n ≤ boundT t n) (Q := fun al => ∀ l n, n ≤ boundL al l n) ?_ ?_ ?_
  · intro k n al h m; rw [boundT]; exact h _ _
  · intro l n; rw [boundL]; exact Int.le_refl _
  · intro t r _ h2 l n
    rw [boundL]
    have := h2 l.tail n
    omega

theorem leaf_clean {decls b : List Str} (hd : ∀ x ∈ decls, clean x) (hb : ∀ x ∈ b, clean x) {k n : Int} (hs : shape k = some []) (h0 : 0 ≤ n) (h1 : n < lim k b.length decls.length) : clean (leaf decls b k n) := by
  have hget : ∀ (l : List Str) (i : Nat), i < l.length → (l[i]?).getD [] ∈ l := fun l i hi => by
    rw [List.getElem?_eq_getElem hi]; exact List.getElem_mem hi
  rcases leaf_kinds hs with rfl | rfl | rfl | h
  · have h1 : n < (b.length : Int) := h1
    exact hb _ (hget b _ (by omega))
  · have h1 : n < 4 := h1
    have : n = 0 ∨ n = 1 ∨ n = 2 ∨ n = 3 := by omega
    show clean (85 :: dig n)
    rcases this with rfl | rfl | rfl | rfl <;> exact ⟨by decide, by decide⟩
  · have h1 : n < (decls.length : Int) := h1
    exact hd _ (hget decls _ (by omega))
  · have e : leaf decls b k n = word k.toNat := by
      unfold leaf
      rw [if_neg (by omega), if_neg (by omega), if_neg (by omega)]
    rw [e]
    rcases h with rfl | rfl | rfl | rfl | rfl <;> exact clean_low (by decide) (by decide)
theorem headW_words {k : Int} {l : List Nat} (h : shape k = some l) (hl : l ≠ []) : HWs (headW k) (headW k) := by
  refine HWs.clean ?_
  unfold headW
  split
  · intro p hp; cases hp
  · rename_i h5
    intro p hp
    simp at hp
    subst hp
    rcases node_kinds h hl with rfl | rfl | rfl | rfl | rfl | rfl | rfl | rfl | rfl | rfl <;> first | exact absurd rfl h5 | exact clean_low (by decide) (by decide)

theorem print_words {decls : List Str} (hd : ∀ x ∈ decls, clean x) : (∀ t : T, ∀ (b : List Str) f, look decls.length t b.length f = 0 → (∀ x ∈ b, clean x) → HW (printT decls t b) (wordsT decls t b)) ∧
    (∀ (al : List T) l (b : List Str) f, lookL decls.length al l b.length f = 0 → (∀ x ∈ b, clean x) → HWs (printL decls al l b) (wordsL decls al l b)) := by
  refine T.ind (P := fun t => ∀ (b : List Str) f, look decls.length t b.length f = 0 → (∀ x ∈ b, clean x) → HW (printT decls t b) (wordsT decls t b))
    (Q := fun al => ∀ l (b : List Str) f, lookL decls.length al l b.length f = 0 → (∀ x ∈ b, clean x) → HWs (printL decls al l b) (wordsL decls al l b)) ?_ ?_ ?_
  · intro k n al ih b f h hb
    obtain ⟨g, l, rfl, hs, hl, h0, h1, hL⟩ := look_zero h
    rw [printT, wordsT]
    cases al with
    | nil =>
      have hl0 : l = [] := List.eq_nil_of_length_eq_zero hl.symm
      subst hl0
      exact HW.clean (leaf_clean hd hb hs h0 h1)
    | cons a r =>
      simp only [List.isEmpty_cons, Bool.false_eq_true, if_false]
      have h2 := ih l b g hL hb
      have hne : l ≠ [] := by rintro rfl; simp at hl
      rw [hs, Option.getD_some]
      intro r' hr'
      rw [List.cons_append, words_br (by rfl), List.append_assoc, joinB_words ((headW_words hs hne).append h2) _ (by simpa using stop_close r')]
      simp only [List.cons_append, List.nil_append, List.append_assoc]
      rw [words_br (by rfl)]
  · intro l b f _ _
    rw [printL, wordsL]; exact .nil
  · intro t r h1 h2 l b f h hb
    obtain ⟨h3, h4⟩ := lookL_cons h
    rw [printL, wordsL]
    have hf := fresh_mem (l.headD 0) b.length
    refine HWs.append (HWs.clean fun p hp => isName_clean (hf p hp)) (.cons (h1 _ f ?_ ?_) (h2 l.tail b f h4 hb))
    · rw [List.length_append, fresh_length]; simpa using h3
    · intro x hx
      rcases List.mem_append.1 hx with hx | hx
      · exact hb x hx
      · exact isName_clean (hf x hx)

theorem binders_fresh : ∀ (n : Nat) (b ws : List Str), binders n b ⟨fresh n b.length ++ ws, 0⟩ = (b ++ fresh n b.length, ⟨ws, 0⟩) := by
  intro n
  induction n with
  | zero => intro b ws; simp [binders, fresh]
  | succ n ih =>
    intro b ws
    rw [fresh, binders]
    simp only [List.cons_append, PS.take, xname_name, if_true]
    have := ih (b ++ [xname b.length]) ws
    simp only [List.length_append, List.length_singleton] at this
    rw [this]
    simp

section
variable {cn : Str → Option Int} {decls : List Str}
theorem atom_leaf (hcn : ∀ n : Int, 0 ≤ n → n < 4 → cn (dig n) = some n) {b : List Str} (hsc : Scope decls b) {k n : Int} (hs : shape k = some []) (h0 : 0 ≤ n) (h1 : n < lim k b.length decls.length) (p : PS) :
    atom cn decls (leaf decls b k n) b p = (.mk k n [], p) ∧ leaf decls b k n ≠ [40] ∧ ¬ (0 < kindOf (leaf decls b k n) ∧ shape (kindOf (leaf decls b k n)) ≠ some []) := by
  have hget : ∀ (l : List Str) (i : Nat), i < l.length → (l[i]?).getD [] ∈ l := fun l i hi => by
    rw [List.getElem?_eq_getElem hi]; exact List.getElem_mem hi
  have h40 : ∀ x : Str, isName x = true → x ≠ [40] := by rintro x hx rfl; revert hx; decide
  rcases leaf_kinds hs with rfl | rfl | rfl | h
  · have h1 : n < (b.length : Int) := h1
    have hm := hget b (b.length - 1 - n.toNat) (by omega)
    have hn := hsc.nm _ hm
    obtain ⟨-, hk, -⟩ := isName_iff hn
    show atom cn decls ((b[b.length - 1 - n.toNat]?).getD []) b p = _ ∧ _ ∧ _
    refine ⟨?_, h40 _ hn, fun h => absurd h.1 (by show ¬ 0 < kindOf ((b[b.length - 1 - n.toNat]?).getD []); omega)⟩
    unfold atom
    rw [if_neg (isName_U hn), if_neg (by omega), if_neg (by simp [hn]), fromEnd_nodup hsc.bd (by omega)]
    dsimp only
    rw [Int.toNat_of_nonneg h0]
  · have h1 : n < 4 := h1
    refine ⟨?_, by intro e; simp [leaf] at e, ?_⟩
    · show atom cn decls (85 :: dig n) b p = _
      unfold atom
      rw [if_pos (show (85 :: dig n).head? = some 85 from rfl)]
      show height cn (dig n) p = _
      unfold height
      rw [hcn n h0 h1]
      dsimp only
      rw [if_neg (by omega)]
    · have : n = 0 ∨ n = 1 ∨ n = 2 ∨ n = 3 := by omega
      show ¬ (0 < kindOf (85 :: dig n) ∧ shape (kindOf (85 :: dig n)) ≠ some [])
      rcases this with rfl | rfl | rfl | rfl <;> decide
  · have h1 : n < (decls.length : Int) := h1
    have hm := hget decls n.toNat (by omega)
    have hn := hsc.dn _ hm
    obtain ⟨-, hk, -⟩ := isName_iff hn
    show atom cn decls ((decls[n.toNat]?).getD []) b p = _ ∧ _ ∧ _
    refine ⟨?_, h40 _ hn, fun h => absurd h.1 (by show ¬ 0 < kindOf ((decls[n.toNat]?).getD []); omega)⟩
    have hf := fromEnd_nodup hsc.dd (n := decls.length - 1 - n.toNat) (by omega)
    rw [show decls.length - 1 - (decls.length - 1 - n.toNat) = n.toNat by omega] at hf
    unfold atom
    rw [if_neg (isName_U hn), if_neg (by omega), if_neg (by simp [hn]), fromEnd_not (fun hb => hsc.no _ hb hm), hf]
    dsimp only
    rw [show (decls.length : Int) - 1 - ((decls.length - 1 - n.toNat : Nat) : Int) = n by omega]
  · have hl1 : n = 0 := by
      have hh : lim k b.length decls.length = 1 := by
        unfold lim
        rw [if_neg (by omega), if_neg (by omega), if_neg (by omega)]
      omega
    subst hl1
    have e : leaf decls b k 0 = word k.toNat := by
      unfold leaf
      rw [if_neg (by omega), if_neg (by omega), if_neg (by omega)]
    rw [e]
    rcases h with rfl | rfl | rfl | rfl | rfl
    all_goals exact ⟨rfl, by decide, by decide⟩

theorem wordsT_head (hcn : ∀ n : Int, 0 ≤ n → n < 4 → cn (dig n) = some n) {b : List Str} (hsc : Scope decls b) {t : T} {f : Nat} (h : look decls.length t b.length f = 0) :
    ∃ x xs, wordsT decls t b = x :: xs ∧ ¬ (0 < kindOf x ∧ shape (kindOf x) ≠ some []) := by
  obtain ⟨k, n, al⟩ := t
  obtain ⟨g, l, rfl, hs, hl, h0, h1, hL⟩ := look_zero h
  rw [wordsT]
  cases al with
  | nil =>
    have hl0 : l = [] := List.eq_nil_of_length_eq_zero hl.symm
    subst hl0
    exact ⟨_, _, rfl, (atom_leaf hcn hsc hs h0 h1 ⟨[], 0⟩).2.2⟩
  | cons a r => exact ⟨_, _, rfl, by decide⟩

theorem kind_of_word {k : Int} {l : List Nat} (h : shape k = some l) (hl : l ≠ []) (h5 : k ≠ 5) : ((kindOf (word k.toNat) : Nat) : Int) = k ∧ 0 < kindOf (word k.toNat) ∧ shape (kindOf (word k.toNat)) ≠ some [] := by
  rcases node_kinds h hl with rfl | rfl | rfl | rfl | rfl | rfl | rfl | rfl | rfl | rfl
  all_goals first | exact absurd rfl h5 | decide

theorem hk_pos {p : PS} (h : 0 < kindOf (p.l.headD []) ∧ shape (kindOf (p.l.headD [])) ≠ some []) : headKind p = (((kindOf (p.l.headD []) : Nat) : Int), p.take.2) := if_pos h
theorem hk_neg {p : PS} (h : ¬ (0 < kindOf (p.l.headD []) ∧ shape (kindOf (p.l.headD [])) ≠ some [])) : headKind p = (5, p) := if_neg h
theorem pt_atom {f : Nat} {b : List Str} {p : PS} (h : p.e = 0) (hx : p.take.1 ≠ [40]) : pterm cn decls (f + 1) b p = atom cn decls p.take.1 b p.take.2 := by
  rw [pterm, if_neg (by simpa using h), if_pos hx]
theorem pt_list {f : Nat} {b : List Str} {p : PS} (h : p.e = 0) (hx : p.take.1 = [40]) : pterm cn decls (f + 1) b p =
    (.mk (headKind p.take.2).1 0 (pargs (pterm cn decls f) b ((shape (headKind p.take.2).1).getD []) (headKind p.take.2).2).1, closed (pargs (pterm cn decls f) b ((shape (headKind p.take.2).1).getD []) (headKind p.take.2).2).2) := by
  rw [pterm, if_neg (by simpa using h), if_neg (by simpa using hx)]

theorem parse_words (hcn : ∀ n : Int, 0 ≤ n → n < 4 → cn (dig n) = some n) :
    (∀ t : T, ∀ (b : List Str) f r, look decls.length t b.length f = 0 → boundT t b.length ≤ 8 → Scope decls b → pterm cn decls f b ⟨wordsT decls t b ++ r, 0⟩ = (t, ⟨r, 0⟩)) ∧
    (∀ (al : List T) (l : List Nat) (b : List Str) f r, (∀ x ∈ l, x ≤ 2) → al.length = l.length → lookL decls.length al l b.length f = 0 → boundL al l b.length ≤ 8 → Scope decls b → pargs (pterm cn decls f) b l ⟨wordsL decls al l b ++ r, 0⟩ = (al, ⟨r, 0⟩)) := by
  refine T.ind (P := fun t => ∀ (b : List Str) f r, look decls.length t b.length f = 0 → boundT t b.length ≤ 8 → Scope decls b → pterm cn decls f b ⟨wordsT decls t b ++ r, 0⟩ = (t, ⟨r, 0⟩))
    (Q := fun al => ∀ (l : List Nat) (b : List Str) f r, (∀ x ∈ l, x ≤ 2) → al.length = l.length → lookL decls.length al l b.length f = 0 → boundL al l b.length ≤ 8 → Scope decls b → pargs (pterm cn decls f) b l ⟨wordsL decls al l b ++ r, 0⟩ = (al, ⟨r, 0⟩)) ?_ ?_ ?_
  · intro k n al ih b f r h hb hsc
    have hwh := wordsT_head hcn hsc h
    obtain ⟨g, l, rfl, hs, hl, h0, h1, hL⟩ := look_zero h
    cases al with
    | nil =>
      have hl0 : l = [] := List.eq_nil_of_length_eq_zero hl.symm
      subst hl0
      obtain ⟨e1, e2, -⟩ := atom_leaf (cn := cn) hcn hsc hs h0 h1 ⟨r, 0⟩
      have ew : wordsT decls (.mk k n []) b = [leaf decls b k n] := by rw [wordsT]; rfl
      rw [ew]
      exact (pt_atom (p := ⟨leaf decls b k n :: r, 0⟩) rfl e2).trans e1
    | cons a ar =>
      have hne : l ≠ [] := by rintro rfl; simp at hl
      have hz : n = 0 := by
        have hh : lim k b.length decls.length = 1 := by
          have := node_kinds hs hne
          unfold lim
          rw [if_neg (by omega), if_neg (by omega), if_neg (by omega)]
        omega
      subst hz
      have ew : wordsT decls (.mk k 0 (a :: ar)) b = [40] :: (headW k ++ wordsL decls (a :: ar) l b ++ [[41]]) := by rw [wordsT, hs]; rfl
      rw [boundT, hs] at hb
      have hih := ih l b g ([41] :: r) (shape_le hs) hl hL hb hsc
      have hhk : headKind ⟨headW k ++ (wordsL decls (a :: ar) l b ++ [41] :: r), 0⟩ = (k, ⟨wordsL decls (a :: ar) l b ++ [41] :: r, 0⟩) := by
        by_cases h5 : k = 5
        · subst h5
          have hl2 : l = [0, 0] := by
            have : shape 5 = some [0, 0] := rfl
            rw [this] at hs
            injection hs with hs
            exact hs.symm
          subst hl2
          obtain ⟨h3, -⟩ := lookL_cons hL
          have h3' : look decls.length a b.length g = 0 := by simpa using h3
          obtain ⟨x, xs, ex, hx⟩ := wordsT_head hcn hsc h3'
          have e2 : wordsL decls (a :: ar) [0, 0] b = x :: (xs ++ wordsL decls ar [0] b) := by
            rw [wordsL]
            simp [fresh, ex]
          rw [e2]
          exact hk_neg (p := ⟨x :: (xs ++ wordsL decls ar [0] b ++ [41] :: r), 0⟩) hx
        · obtain ⟨k1, k2, k3⟩ := kind_of_word hs hne h5
          have e3 : headW k = [word k.toNat] := if_neg h5
          rw [e3]
          refine (hk_pos (p := ⟨word k.toNat :: (wordsL decls (a :: ar) l b ++ [41] :: r), 0⟩) ⟨k2, k3⟩).trans ?_
          exact Prod.ext k1 rfl
      have e4 : [40] :: (headW k ++ wordsL decls (a :: ar) l b ++ [[41]]) ++ r = [40] :: (headW k ++ (wordsL decls (a :: ar) l b ++ [41] :: r)) := by simp
      rw [ew, e4]
      refine (pt_list (p := ⟨[40] :: (headW k ++ (wordsL decls (a :: ar) l b ++ [41] :: r)), 0⟩) rfl rfl).trans ?_
      simp only [PS.take]
      rw [hhk]
      dsimp only
      rw [hs, Option.getD_some, hih]
      rfl
  · intro l b f r _ hl _ _ _
    cases l with
    | nil => rw [wordsL]; rfl
    | cons x l => simp at hl
  · intro t r h1 h2 l b f r' hl2 hl hL hb hsc
    cases l with
    | nil => simp at hl
    | cons y l =>
      obtain ⟨h3, h4⟩ := lookL_cons hL
      simp only [List.headD_cons, List.tail_cons] at h3 h4
      rw [boundL] at hb
      simp only [List.headD_cons, List.tail_cons] at hb
      have hy := hl2 y (List.mem_cons_self ..)
      have hbl := boundT_ge.1 t ((b.length : Int) + (y : Nat))
      have hln : (b ++ fresh y b.length).length = b.length + y := by rw [List.length_append, fresh_length]
      have hsc2 : Scope decls (b ++ fresh y b.length) := hsc.fresh (by omega)
      rw [wordsL, pargs]
      simp only [List.headD_cons, List.tail_cons, List.append_assoc]
      rw [binders_fresh]
      dsimp only
      rw [if_neg (by omega), h1 (b ++ fresh y b.length) f _ (by rw [hln]; simpa using h3) (by rw [hln]; have := hb; simp only [Int.natCast_add]; omega) hsc2]
      dsimp only
      rw [h2 l b f r' (fun x hx => hl2 x (List.mem_cons_of_mem _ hx)) (by simpa using hl) h4 (by omega) hsc]

/-- a right term's text is read as the term -/
theorem parse_print (hcn : ∀ n : Int, 0 ≤ n → n < 4 → cn (dig n) = some n) {t : T} {b : List Str} (hsc : Scope decls b) (h : look decls.length t b.length 24 = 0) (hb : boundT t b.length ≤ 8) (hl : (printT decls t b).length ≤ 1500) :
    parse cn decls (printT decls t b) b = (t, 0) := by
  have h8 := boundT_ge.1 t (b.length : Int)
  have hw : words (printT decls t b) = wordsT decls t b := by
    have := (print_words (fun x hx => isName_clean (hsc.dn x hx))).1 t b 24 h hsc.cleanb [] (fun c r' e => by cases e)
    simpa [words_nil] using this
  have hp := (parse_words (cn := cn) hcn).1 t b 24 [] h hb hsc
  rw [List.append_nil] at hp
  unfold parse
  rw [if_neg (by omega), if_neg (by omega), hw, hp]
  rfl

/-! what is read is right -/
theorem fail_ne {c : Int} (hc : c ≠ 0) (p : PS) : (p.fail c).e ≠ 0 := by
  unfold PS.fail
  split
  · exact hc
  · assumption
theorem take_right {p : PS} (h : p.take.2.e = 0) : p.e = 0 ∧ p.take.2.l.length + 1 = p.l.length := by
  obtain ⟨l, e⟩ := p
  cases l with
  | nil => exact absurd h (fail_ne (by decide) _)
  | cons a r => exact ⟨h, rfl⟩
theorem binders_right : ∀ (n : Nat) (b : List Str) (p : PS), (binders n b p).2.e = 0 → p.e = 0 ∧ (binders n b p).1.length = b.length + n ∧ (binders n b p).2.l.length + n = p.l.length := by
  intro n
  induction n with
  | zero => intro b p h; exact ⟨h, rfl, rfl⟩
  | succ n ih =>
    intro b p h
    rw [binders] at h ⊢
    obtain ⟨h1, h2, h3⟩ := ih _ _ h
    split at h1
    · rename_i hn
      rw [if_pos hn] at h3 ⊢
      obtain ⟨h4, h5⟩ := take_right h1
      rw [if_pos hn] at h2
      refine ⟨h4, by rw [h2]; simp; omega, by omega⟩
    · exact absurd h1 (fail_ne (by decide) _)
theorem kindOf_low (x : Str) (h : 0 < kindOf x) : 3 ≤ kindOf x ∧ kindOf x ≤ 17 := by
  have key : ∀ f k, 0 < kindFrom x k f → k ≤ kindFrom x k f ∧ kindFrom x k f < k + f := by
    intro f
    induction f with
    | zero => intro k h; simp [kindFrom] at h
    | succ f ih =>
      intro k h
      rw [kindFrom] at h ⊢
      split
      · omega
      · rename_i hh
        rw [if_neg hh] at h
        have := ih (k + 1) h
        omega
  have := key 15 3 h
  unfold kindOf
  omega
theorem atom_right {x : Str} {b : List Str} {p : PS} (f : Nat) (h : (atom cn decls x b p).2.e = 0) : p.e = 0 ∧ (atom cn decls x b p).2 = p ∧ look decls.length (atom cn decls x b p).1 b.length (f + 1) = 0 ∧ size (atom cn decls x b p).1 = 1 ∧ boundT (atom cn decls x b p).1 b.length = b.length := by
  have key : ∀ k n : Int, p.e = 0 → shape k = some [] → 0 ≤ n → n < lim k b.length decls.length → p.e = 0 ∧ p = p ∧ look decls.length (.mk k n []) b.length (f + 1) = 0 ∧ size (.mk k n []) = 1 ∧ boundT (.mk k n []) b.length = b.length := by
    intro k n h0 hs h1 h2
    refine ⟨h0, rfl, ?_, by simp [size, sizeL], by rw [boundT]; rfl⟩
    rw [look, hs]
    dsimp only
    rw [if_neg (by simp), if_neg (by omega), lookL]
  unfold atom height at h ⊢
  split at h
  · rename_i h85
    rw [if_pos h85]
    split at h
    · exact absurd h (fail_ne (by decide) _)
    · rename_i n hn
      split at h
      · exact absurd h (fail_ne (by decide) _)
      · rename_i hr
        rw [if_neg hr]
        exact key 2 n h rfl (by omega) (by show n < 4; omega)
  · rename_i h85
    rw [if_neg h85]
    split at h
    · rename_i hk
      rw [if_pos hk]
      split at h
      · rename_i hs
        rw [if_pos hs]
        have := kindOf_low x hk
        refine key _ 0 h hs (by omega) ?_
        unfold lim
        rw [if_neg (by omega), if_neg (by omega), if_neg (by omega)]
        omega
      · exact absurd h (fail_ne (by decide) _)
    · rename_i hk
      rw [if_neg hk]
      split at h
      · exact absurd h (fail_ne (by decide) _)
      · rename_i hn
        rw [if_neg hn]
        cases hf : fromEnd b x with
        | some i =>
          rw [hf] at h
          have hi : i < b.length := by
            unfold fromEnd at hf
            obtain ⟨h1, -⟩ := List.findIdx?_eq_some_iff_getElem.1 hf
            simpa using h1
          exact key 1 i h rfl (by omega) (by show (i : Int) < (b.length : Int); omega)
        | none =>
          rw [hf] at h
          dsimp only at h ⊢
          cases hg : fromEnd decls x with
          | some i =>
            rw [hg] at h
            have hi : i < decls.length := by
              unfold fromEnd at hg
              obtain ⟨h1, -⟩ := List.findIdx?_eq_some_iff_getElem.1 hg
              simpa using h1
            exact key 18 ((decls.length : Int) - 1 - i) h rfl (by omega) (by show _ < (decls.length : Int); omega)
          | none =>
            rw [hg] at h
            exact absurd h (fail_ne (by decide) _)

theorem headKind_right {p : PS} (h : (headKind p).2.e = 0) : p.e = 0 ∧ (headKind p).2.l.length ≤ p.l.length ∧ ∃ l, shape (headKind p).1 = some l ∧ l ≠ [] := by
  unfold headKind at h ⊢
  split at h
  · rename_i hk
    rw [if_pos hk]
    obtain ⟨h1, h2⟩ := take_right h
    have h3 := kindOf_low _ hk.1
    refine ⟨h1, by dsimp only; omega, ?_⟩
    cases hs : shape ((kindOf (p.l.headD []) : Nat) : Int) with
    | some l => exact ⟨l, rfl, fun e => hk.2 (by rw [hs, e])⟩
    | none =>
      exfalso
      unfold shape at hs
      repeat' split at hs
      all_goals first | omega | (simp at hs)
  · rename_i hk
    rw [if_neg hk]
    exact ⟨h, Nat.le_refl _, [0, 0], rfl, by simp⟩

theorem lookL_mk {d : Int} {t : T} {r : List T} {y : Nat} {l : List Nat} {b : Int} {f : Nat} (h1 : look d t (b + (y : Nat)) f = 0) (h2 : lookL d r l b f = 0) : lookL d (t :: r) (y :: l) b f = 0 := by
  rw [lookL]
  exact (if_neg (fun h => h h1)).trans h2

/-- where nothing is wrong behind it, nothing was wrong ahead; the term is right, and made of words -/
def Right (decls : List Str) (f : Nat) (b : List Str) (p : PS) (r : T × PS) : Prop := r.2.e = 0 → p.e = 0 ∧ (b.length ≤ 8 → look decls.length r.1 b.length f = 0 ∧ boundT r.1 b.length ≤ 8 ∧ size r.1 + r.2.l.length ≤ p.l.length)

theorem pargs_right {g : List Str → PS → T × PS} {f : Nat} (hg : ∀ b p, Right decls f b p (g b p)) (b : List Str) :
    ∀ (l : List Nat) (p : PS), (pargs g b l p).2.e = 0 → p.e = 0 ∧ (b.length ≤ 8 → (pargs g b l p).1.length = l.length ∧ lookL decls.length (pargs g b l p).1 l b.length f = 0 ∧ boundL (pargs g b l p).1 l b.length ≤ 8 ∧ sizeL (pargs g b l p).1 + (pargs g b l p).2.l.length ≤ p.l.length) := by
  intro l
  induction l with
  | nil => intro p h; exact ⟨h, fun hb => ⟨rfl, by simp [pargs, lookL], by simp [pargs, boundL]; omega, by simp [pargs, sizeL]⟩⟩
  | cons y l ih =>
    intro p h
    rw [pargs] at h ⊢
    dsimp only at h ⊢
    obtain ⟨h1, h2⟩ := ih _ h
    obtain ⟨g1, g2⟩ := hg _ _ h1
    have h8 : ¬ 8 < (binders y b p).1.length := by
      intro h8
      rw [if_pos h8] at g1
      exact fail_ne (by decide) _ g1
    rw [if_neg h8] at g1 g2 h1 h2 ⊢
    obtain ⟨b1, b2, b3⟩ := binders_right y b p g1
    obtain ⟨g2, g3, g4⟩ := g2 (by omega)
    refine ⟨b1, fun hb => ?_⟩
    obtain ⟨h3, h4, h5, h6⟩ := h2 hb
    refine ⟨by rw [List.length_cons, List.length_cons, h3], ?_, ?_, ?_⟩
    · rw [b2] at g2
      have g2 : look decls.length (g (binders y b p).1 (binders y b p).2).1 ((b.length : Int) + (y : Nat)) f = 0 := by simpa using g2
      exact lookL_mk g2 h4
    · rw [boundL]
      simp only [List.headD_cons, List.tail_cons]
      rw [b2] at g3
      have : boundT (g (binders y b p).1 (binders y b p).2).1 ((b.length : Int) + (y : Nat)) ≤ 8 := by simpa using g3
      omega
    · rw [sizeL]; omega

theorem closed_right {p : PS} (h : (closed p).e = 0) : p.e = 0 ∧ (closed p).l.length + 1 = p.l.length := by
  unfold closed at h ⊢
  split at h
  · rename_i hx
    rw [if_pos hx]
    exact take_right h
  · exact absurd h (fail_ne (by decide) _)

theorem pterm_right : ∀ (f : Nat) (b : List Str) (p : PS), Right decls f b p (pterm cn decls f b p) := by
  intro f
  induction f with
  | zero => intro b p h; exact absurd h (fail_ne (by decide) _)
  | succ f ih =>
    intro b p
    rw [pterm]
    unfold Right
    split
    · rename_i he
      intro h
      exact absurd h he
    · split
      · intro h
        obtain ⟨h1, h2, h3, h4, h5⟩ := atom_right f h
        obtain ⟨h6, h7⟩ := take_right h1
        refine ⟨h6, fun hb => ⟨h3, by omega, ?_⟩⟩
        rw [h2, h4]
        omega
      · intro h
        dsimp only at h ⊢
        obtain ⟨h1, h2⟩ := closed_right h
        obtain ⟨h3, h4⟩ := pargs_right ih b _ _ h1
        obtain ⟨h5, h6, l, h7, h8⟩ := headKind_right h3
        obtain ⟨h9, h10⟩ := take_right h5
        refine ⟨h9, fun hb => ?_⟩
        obtain ⟨k1, k2, k3, k4⟩ := h4 hb
        rw [h7] at k1 k2 k3 k4 h2 ⊢
        simp only [Option.getD_some] at k1 k2 k3 k4 h2 ⊢
        refine ⟨?_, ?_, ?_⟩
        · rw [look, h7]
          dsimp only
          rw [if_neg (by simpa using k1), if_neg ?_]
          · exact k2
          · have hh : lim (headKind p.take.2).1 b.length decls.length = 1 := by
              have := node_kinds h7 h8
              unfold lim
              rw [if_neg (by omega), if_neg (by omega), if_neg (by omega)]
            omega
        · rw [boundT, h7]; exact k3
        · rw [size]; omega

/-- what is read from a text is right -/
theorem parse_right {s : Str} {b : List Str} (h : (parse cn decls s b).2 = 0) : b.length ≤ 8 ∧ look decls.length (parse cn decls s b).1 b.length 24 = 0 ∧ boundT (parse cn decls s b).1 b.length ≤ 8 ∧ size (parse cn decls s b).1 ≤ (words s).length ∧ s.length ≤ 1500 := by
  unfold parse at h ⊢
  split at h
  · cases h
  · rename_i h1
    split at h
    · cases h
    · rename_i h2
      rw [if_neg h1, if_neg h2]
      dsimp only at h ⊢
      split at h
      · rename_i h3
        exact absurd h h3
      · rename_i h3
        rw [if_neg h3]
        have he : (pterm cn decls 24 b ⟨words s, 0⟩).2.e = 0 := by
          have h3 := Classical.not_not.1 h3
          unfold ended at h3
          split at h3
          · exact absurd h3 (fail_ne (by decide) _)
          · exact h3
        obtain ⟨-, h4⟩ := pterm_right (cn := cn) (decls := decls) 24 b ⟨words s, 0⟩ he
        obtain ⟨h5, h6, h7⟩ := h4 (by omega)
        exact ⟨by omega, h5, h6, Nat.le_trans (Nat.le_add_right _ _) h7, by omega⟩
theorem parse_wrong {s : Str} {b : List Str} (h : (parse cn decls s b).2 ≠ 0) : (parse cn decls s b).1 = T0 := by
  unfold parse at h ⊢
  split at h
  · rename_i h1; rw [if_pos h1]
  · rename_i h1
    rw [if_neg h1]
    split at h
    · rename_i h2; rw [if_pos h2]
    · rename_i h2
      rw [if_neg h2]
      dsimp only at h ⊢
      split at h
      · rename_i h3; rw [if_pos h3]
      · exact absurd rfl h
end

theorem words_count (s : Str) : (words s).length ≤ s.length := by
  have key : ∀ s : Str, (wst s).2.length + (if (wst s).1 = [] then 0 else 1) ≤ s.length := by
    intro s
    induction s with
    | nil => exact Nat.le_refl _
    | cons c r ih =>
      have hf : (flush (wst r).1 (wst r).2).length ≤ r.length := by
        unfold flush
        split
        · rename_i h; rw [if_pos h] at ih; omega
        · rename_i h; rw [if_neg h] at ih; rw [List.length_cons]; omega
      rw [wst]
      by_cases h : isStop c = true
      · rw [if_pos h]
        by_cases h2 : isBr c = true
        · simp only [h2, if_true, List.length_cons]; omega
        · simp only [h2, if_false, if_true, List.length_cons, Bool.false_eq_true]; omega
      · rw [if_neg h]
        simp only [List.cons_ne_nil, if_false, List.length_cons]
        split at ih <;> omega
  have := key s
  unfold words flush
  split
  · rename_i h; rw [if_pos h] at this; omega
  · rename_i h; rw [if_neg h] at this; rw [List.length_cons]; omega
end Go.Proofs.YtjboibbgigkhkaaGreatDoor

