/- Plain laws of terms al trees, and of their bytes: no program here. -/
import Derived.Test.YtjboibbgigkhkaaDoorRows
namespace Go.Proofs.YtjboibbgigkhkaaDoor

inductive T where
  | mk (k n : Int) (al : List T)
deriving Inhabited

def T.k : T → Int | .mk k _ _ => k
def T.n : T → Int | .mk _ n _ => n
def T.al : T → List T | .mk _ _ al => al

theorem T.eta (t : T) : T.mk t.k t.n t.al = t := by cases t; rfl

/-- induction over a term and the list of its arguments -/
theorem T.ind {P : T → Prop} {Q : List T → Prop} (hm : ∀ k n al, Q al → P (.mk k n al)) (hn : Q []) (hc : ∀ t r, P t → Q r → Q (t :: r)) : (∀ t, P t) ∧ (∀ l, Q l) :=
  ⟨fun t => T.rec (motive_1 := P) (motive_2 := Q) hm hn hc t, fun l => T.rec_1 (motive_1 := P) (motive_2 := Q) hm hn hc l⟩

/-- how many each argument of a kind has bound -/
def shape (k : Int) : Option (List Nat) :=
  if k = 1 ∨ k = 2 ∨ k = 10 ∨ k = 11 ∨ k = 12 ∨ k = 14 ∨ k = 15 ∨ k = 18 then some []
  else if k = 8 ∨ k = 9 ∨ k = 16 then some [0]
  else if k = 3 ∨ k = 4 ∨ k = 6 then some [0, 1]
  else if k = 5 ∨ k = 13 then some [0, 0]
  else if k = 7 then some [0, 1, 0, 0]
  else if k = 17 then some [1, 0, 2, 0]
  else none

mutual
def size : T → Nat
  | .mk _ _ al => 1 + sizeL al
def sizeL : List T → Nat
  | [] => 0
  | t :: r => size t + sizeL r
end

mutual
def liftT (b : Int) : T → Int → T
  | .mk k n al, last => if k = 1 then (if last ≤ n then .mk k (n + b) al else .mk k n al) else .mk k n (liftL b al ((shape k).getD []) last)
def liftL (b : Int) : List T → List Nat → Int → List T
  | [], _, _ => []
  | t :: r, l, last => liftT b t (last + (l.headD 0 : Nat)) :: liftL b r l.tail last
end

mutual
def putT (u : T) : T → Int → T
  | .mk k n al, i => if k = 1 then (if i ≤ n then (if n = i then liftT i u 0 else .mk k (n - 1) al) else .mk k n al) else .mk k n (putL u al ((shape k).getD []) i)
def putL (u : T) : List T → List Nat → Int → List T
  | [], _, _ => []
  | t :: r, l, i => putT u t (i + (l.headD 0 : Nat)) :: putL u r l.tail i
end

mutual
def usesT (m : Int) : T → Int → Bool
  | .mk k n al, i => if k = 1 then (decide (i ≤ n) && decide (n - i = m)) else usesL m al ((shape k).getD []) i
def usesL (m : Int) : List T → List Nat → Int → Bool
  | [], _, _ => false
  | t :: r, l, i => usesT m t (i + (l.headD 0 : Nat)) || usesL m r l.tail i
end

mutual
def swapT : T → Int → T
  | .mk k n al, i => if k = 1 then (if n = i then .mk k (i + 1) al else if n = i + 1 then .mk k i al else .mk k n al) else .mk k n (swapL al ((shape k).getD []) i)
def swapL : List T → List Nat → Int → List T
  | [], _, _ => []
  | t :: r, l, i => swapT t (i + (l.headD 0 : Nat)) :: swapL r l.tail i
end

theorem size_lift (b : Int) : (∀ t : T, ∀ i, size (liftT b t i) = size t) ∧ (∀ (al : List T) l i, sizeL (liftL b al l i) = sizeL al) := by
  refine T.ind (P := fun t => ∀ i, size (liftT b t i) = size t) (Q := fun al => ∀ l i, sizeL (liftL b al l i) = sizeL al) ?_ ?_ ?_
  · intro k n al h i
    by_cases hk : k = 1
    · by_cases hn : i ≤ n <;> simp [liftT, hk, hn, size]
    · simp [liftT, hk, size, h]
  · intro l i; simp [liftL]
  · intro t r ht hr l i; simp [liftL, sizeL, ht, hr]

theorem uses_lift : (∀ t : T, ∀ i, usesT 0 (liftT 1 t i) i = false) ∧ (∀ (al : List T) l i, usesL 0 (liftL 1 al l i) l i = false) := by
  refine T.ind (P := fun t => ∀ i, usesT 0 (liftT 1 t i) i = false) (Q := fun al => ∀ l i, usesL 0 (liftL 1 al l i) l i = false) ?_ ?_ ?_
  · intro k n al h i
    by_cases hk : k = 1
    · by_cases hn : i ≤ n
      · simp [liftT, hk, hn, usesT]; omega
      · simp [liftT, hk, hn, usesT]
    · simp [liftT, hk, usesT, h]
  · intro l i; simp [liftL, usesL]
  · intro t r ht hr l i; simp [liftL, usesL, ht, hr]

theorem put_lift (u : T) : (∀ t : T, ∀ i, putT u (liftT 1 t i) i = t) ∧ (∀ (al : List T) l i, putL u (liftL 1 al l i) l i = al) := by
  refine T.ind (P := fun t => ∀ i, putT u (liftT 1 t i) i = t) (Q := fun al => ∀ l i, putL u (liftL 1 al l i) l i = al) ?_ ?_ ?_
  · intro k n al h i
    by_cases hk : k = 1
    · by_cases hn : i ≤ n
      · have h1 : i ≤ n + 1 := by omega
        have h2 : ¬ n + 1 = i := by omega
        simp [liftT, hk, hn, putT, h1, h2]
      · simp [liftT, hk, hn, putT]
    · simp [liftT, hk, putT, h]
  · intro l i; simp [liftL, putL]
  · intro t r ht hr l i; simp [liftL, putL, ht, hr]

/-- lifted twice: the second one from where the first one's are -/
theorem lift_lift (a b : Int) : (∀ t : T, ∀ i j, i ≤ j → j ≤ i + a → liftT b (liftT a t i) j = liftT (a + b) t i) ∧
    (∀ (al : List T) l i j, i ≤ j → j ≤ i + a → liftL b (liftL a al l i) l j = liftL (a + b) al l i) := by
  refine T.ind (P := fun t => ∀ i j, i ≤ j → j ≤ i + a → liftT b (liftT a t i) j = liftT (a + b) t i) (Q := fun al => ∀ l i j, i ≤ j → j ≤ i + a → liftL b (liftL a al l i) l j = liftL (a + b) al l i) ?_ ?_ ?_
  · intro k n al h i j h1 h2
    by_cases hk : k = 1
    · by_cases hn : i ≤ n
      · have h3 : j ≤ n + a := by omega
        simp [liftT, hk, hn, h3]; omega
      · have h3 : ¬ j ≤ n := by omega
        simp [liftT, hk, hn, h3]
    · simp [liftT, hk, h _ i j h1 h2]
  · intro l i j _ _; simp [liftL]
  · intro t r ht hr l i j h1 h2
    simp only [liftL]
    rw [ht _ _ (show i + ((l.headD 0 : Nat) : Int) ≤ j + ((l.headD 0 : Nat) : Int) by omega) (by omega), hr _ i j h1 h2]

theorem put_lift_at (v : T) (i : Int) (hi : 0 ≤ i) : (∀ u : T, ∀ c d, 0 ≤ c → d = c + i → putT v (liftT i u c) d = liftT i (putT v u c) c) ∧
    (∀ (al : List T) l c d, 0 ≤ c → d = c + i → putL v (liftL i al l c) l d = liftL i (putL v al l c) l c) := by
  refine T.ind (P := fun u => ∀ c d, 0 ≤ c → d = c + i → putT v (liftT i u c) d = liftT i (putT v u c) c) (Q := fun al => ∀ l c d, 0 ≤ c → d = c + i → putL v (liftL i al l c) l d = liftL i (putL v al l c) l c) ?_ ?_ ?_
  · intro k n al h c d hc hd
    subst hd
    by_cases hk : k = 1
    · subst hk
      by_cases hn : c ≤ n
      · by_cases he : n = c
        · subst he
          have h1 : (n + i = n + i) := rfl
          simp only [liftT, putT, Int.le_refl, if_pos]
          rw [(lift_lift n i).1 v 0 n hc (by omega)]
        · have h1 : c + i ≤ n + i := by omega
          have h2 : ¬ n + i = c + i := by omega
          have h3 : c ≤ n - 1 := by omega
          simp only [liftT, putT, hn, if_pos, h1, h2, he, if_neg, h3, not_false_eq_true]
          congr 1; omega
      · have h1 : ¬ c + i ≤ n := by omega
        simp [liftT, putT, hn, h1]
    · simp [liftT, putT, hk, h _ c _ hc rfl]
  · intro l c d _ _; simp [liftL, putL]
  · intro t r ht hr l c d hc hd
    simp only [liftL, putL]
    rw [ht (c + ((l.headD 0 : Nat) : Int)) (d + ((l.headD 0 : Nat) : Int)) (by omega) (by omega), hr _ c d hc hd]

theorem put_lift_more (w : T) (i : Int) (hi : 0 ≤ i) : (∀ v : T, ∀ c d, d = c + i → putT w (liftT (i + 1) v c) d = liftT i v c) ∧
    (∀ (al : List T) l c d, d = c + i → putL w (liftL (i + 1) al l c) l d = liftL i al l c) := by
  refine T.ind (P := fun v => ∀ c d, d = c + i → putT w (liftT (i + 1) v c) d = liftT i v c) (Q := fun al => ∀ l c d, d = c + i → putL w (liftL (i + 1) al l c) l d = liftL i al l c) ?_ ?_ ?_
  · intro k n al h c d hd
    subst hd
    by_cases hk : k = 1
    · subst hk
      by_cases hn : c ≤ n
      · have h1 : c + i ≤ n + (i + 1) := by omega
        have h2 : ¬ n + (i + 1) = c + i := by omega
        simp only [liftT, putT, hn, if_pos, h1, h2, if_neg, not_false_eq_true]
        congr 1; omega
      · have h1 : ¬ c + i ≤ n := by omega
        simp [liftT, putT, hn, h1]
    · simp [liftT, putT, hk, h _ c _ rfl]
  · intro l c d _; simp [liftL, putL]
  · intro t r ht hr l c d hd
    simp only [liftL, putL]
    rw [ht (c + ((l.headD 0 : Nat) : Int)) (d + ((l.headD 0 : Nat) : Int)) (by omega), hr _ c d hd]

theorem puts (u v : T) : (∀ t : T, ∀ i, 0 ≤ i → putT v (putT u t i) i = putT (putT v u 0) (putT (liftT 1 v 0) (swapT t i) i) i) ∧
    (∀ (al : List T) l i, 0 ≤ i → putL v (putL u al l i) l i = putL (putT v u 0) (putL (liftT 1 v 0) (swapL al l i) l i) l i) := by
  refine T.ind (P := fun t => ∀ i, 0 ≤ i → putT v (putT u t i) i = putT (putT v u 0) (putT (liftT 1 v 0) (swapT t i) i) i)
    (Q := fun al => ∀ l i, 0 ≤ i → putL v (putL u al l i) l i = putL (putT v u 0) (putL (liftT 1 v 0) (swapL al l i) l i) l i) ?_ ?_ ?_
  · intro k n al h i hi
    by_cases hk : k = 1
    · subst hk
      by_cases h0 : n < i
      · have a1 : ¬ i ≤ n := by omega
        have a2 : ¬ n = i := by omega
        have a3 : ¬ n = i + 1 := by omega
        simp [putT, swapT, a1, a2, a3]
      · have a1 : i ≤ n := by omega
        by_cases h1 : n = i
        · subst h1
          have e1 : (n + 1 - 1 : Int) = n := by omega
          have e2 : n ≤ n + 1 := by omega
          have e3 : ¬ n + 1 = n := by omega
          simp only [putT, swapT, Int.le_refl, if_pos, e2, e3, if_neg, not_false_eq_true, e1]
          exact (put_lift_at v n hi).1 u 0 n (by omega) (by omega)
        · by_cases h2 : n = i + 1
          · subst h2
            have e1 : (i + 1 - 1 : Int) = i := by omega
            simp only [putT, swapT, a1, if_pos, h1, if_neg, not_false_eq_true, e1, Int.le_refl]
            rw [(lift_lift 1 i).1 v 0 0 (by omega) (by omega), show (1 + i : Int) = i + 1 by omega, (put_lift_more _ i hi).1 v 0 i (by omega)]
          · have e1 : i ≤ n - 1 := by omega
            have e2 : ¬ n - 1 = i := by omega
            simp only [putT, swapT, a1, if_pos, h1, h2, if_neg, not_false_eq_true, e1, e2]
    · simp [putT, swapT, hk, h _ i hi]
  · intro l i _; simp [putL, swapL]
  · intro t r ht hr l i hi
    simp only [putL, swapL]
    rw [ht _ (by omega), hr _ i hi]

theorem term_lift (t u : T) (a b : Int) (ha : 0 ≤ a) : usesT 0 (liftT 1 t 0) 0 = false ∧ putT u (liftT 1 t 0) 0 = t ∧ liftT b (liftT a t 0) 0 = liftT (a + b) t 0 ∧ size (liftT 1 t 0) = size t :=
  ⟨uses_lift.1 t 0, (put_lift u).1 t 0, (lift_lift a b).1 t 0 0 (by omega) (by omega), (size_lift 1).1 t 0⟩

theorem term_puts (t u v : T) : putT v (putT u t 0) 0 = putT (putT v u 0) (putT (liftT 1 v 0) (swapT t 0) 0) 0 := (puts u v).1 t 0 (by omega)

/-- from below which number a kind's N is right -/
def lim (k b d : Int) : Int := if k = 1 then b else if k = 2 then 4 else if k = 18 then d else 1

mutual
def look (d : Int) : T → Int → Nat → Int
  | .mk _ _ _, _, 0 => 9
  | .mk k n al, b, f + 1 => match shape k with
    | none => 1
    | some l => if al.length ≠ l.length then 5 else if n < 0 ∨ lim k b d ≤ n then 3 else lookL d al l b f
def lookL (d : Int) : List T → List Nat → Int → Nat → Int
  | [], _, _, _ => 0
  | t :: r, l, b, f => if look d t (b + (l.headD 0 : Nat)) f ≠ 0 then look d t (b + (l.headD 0 : Nat)) f else lookL d r l.tail b f
end

def wrong (t : T) (b d : Int) : Int := if look d t b 24 ≠ 0 then look d t b 24 else if 60 < size t then 4 else 0

theorem look_zero {d : Int} {k n : Int} {al : List T} {b : Int} {f : Nat} (h : look d (.mk k n al) b f = 0) :
    ∃ g l, f = g + 1 ∧ shape k = some l ∧ al.length = l.length ∧ 0 ≤ n ∧ n < lim k b d ∧ lookL d al l b g = 0 := by
  cases f with
  | zero => simp [look] at h
  | succ g =>
    cases hs : shape k with
    | none => simp [look, hs] at h
    | some l =>
      rw [look, hs] at h
      dsimp only at h
      by_cases h1 : al.length = l.length
      · rw [if_neg (by simpa using h1)] at h
        by_cases h2 : n < 0 ∨ lim k b d ≤ n
        · rw [if_pos h2] at h; omega
        · rw [if_neg h2] at h
          exact ⟨g, l, rfl, rfl, h1, by omega, by omega, h⟩
      · rw [if_pos (by simpa using h1)] at h; omega

theorem lookL_cons {d : Int} {t : T} {r : List T} {l : List Nat} {b : Int} {f : Nat} (h : lookL d (t :: r) l b f = 0) :
    look d t (b + (l.headD 0 : Nat)) f = 0 ∧ lookL d r l.tail b f = 0 := by
  rw [lookL] at h
  by_cases h1 : look d t (b + (l.headD 0 : Nat)) f = 0
  · rw [if_neg (by simpa using h1)] at h; exact ⟨h1, h⟩
  · rw [if_pos h1] at h; exact absurd h h1

theorem wrong_zero {t : T} {b d : Int} (h : wrong t b d = 0) : look d t b 24 = 0 ∧ size t ≤ 60 := by
  unfold wrong at h
  by_cases h1 : look d t b 24 = 0
  · rw [if_neg (by simpa using h1)] at h
    by_cases h2 : 60 < size t
    · rw [if_pos h2] at h; omega
    · exact ⟨h1, by omega⟩
  · rw [if_pos h1] at h; exact absurd h h1

def b8 (x : Int) : UInt8 := UInt8.ofNat (x % 256).toNat

def numbered (k : Int) : Bool := k == 1 || k == 2 || k == 18

mutual
def bytesT : T → List UInt8
  | .mk k n al => b8 k :: ((if numbered k then [b8 n] else []) ++ bytesL al)
def bytesL : List T → List UInt8
  | [] => []
  | t :: r => bytesT t ++ bytesL r
end

def getL (g : List UInt8 → Except Int (T × List UInt8)) : List Nat → List UInt8 → Except Int (List T × List UInt8)
  | [], b => .ok ([], b)
  | _ :: l, b => match g b with
    | .error e => .error e
    | .ok (a, b) => match getL g l b with
      | .error e => .error e
      | .ok (al, b) => .ok (a :: al, b)

def getT : Nat → List UInt8 → Except Int (T × List UInt8)
  | 0, _ => .error 9
  | _ + 1, [] => .error 8
  | f + 1, k :: b => match shape k.toNat with
    | none => .error 1
    | some l => if numbered k.toNat then (match b with
        | [] => .error 8
        | n :: b => match getL (getT f) l b with
          | .error e => .error e
          | .ok (al, b) => .ok (.mk k.toNat n.toNat al, b))
      else match getL (getT f) l b with
        | .error e => .error e
        | .ok (al, b) => .ok (.mk k.toNat 0 al, b)

theorem b8_toNat (x : Int) (h0 : 0 ≤ x) (h1 : x < 256) : ((b8 x).toNat : Int) = x := by
  unfold b8
  rw [UInt8.toNat_ofNat']
  omega

theorem b8_byte (c : UInt8) : b8 (c.toNat : Int) = c := by
  unfold b8
  have h : c.toNat < 256 := c.toNat_lt
  rw [show ((c.toNat : Int) % 256).toNat = c.toNat by omega]
  simp

theorem shape_bounds {k : Int} {l : List Nat} (h : shape k = some l) : 1 ≤ k ∧ k ≤ 18 := by
  unfold shape at h
  repeat' split at h
  all_goals first | omega | cases h

theorem lim_one {k b d : Int} (h : numbered k = false) : lim k b d = 1 := by
  simp [numbered] at h
  unfold lim
  rw [if_neg h.1.1, if_neg h.1.2, if_neg h.2]

theorem lim_le {k b d : Int} (hb : b ≤ 256) (hd : d ≤ 256) : lim k b d ≤ 256 := by
  unfold lim
  repeat' split
  all_goals omega

theorem shape_le {k : Int} {l : List Nat} (h : shape k = some l) : ∀ x ∈ l, x ≤ 2 := by
  unfold shape at h
  repeat' split at h
  all_goals first | (cases h; decide) | cases h

theorem headD_le {l : List Nat} (h : ∀ x ∈ l, x ≤ 2) : l.headD 0 ≤ 2 := by
  cases l with
  | nil => simp
  | cons a r => exact h a (by simp)

theorem tail_le {l : List Nat} (h : ∀ x ∈ l, x ≤ 2) : ∀ x ∈ l.tail, x ≤ 2 := fun x hx => h x (List.mem_of_mem_tail hx)

theorem get_bytes (d : Int) (hd : d ≤ 256) : (∀ t : T, ∀ (b : Int) (f : Nat) r, b + 2 * f ≤ 256 → look d t b f = 0 → getT f (bytesT t ++ r) = .ok (t, r)) ∧
    (∀ (al : List T) l (b : Int) (f : Nat) r, (∀ x ∈ l, x ≤ 2) → al.length = l.length → b + 2 * f + 2 ≤ 256 → lookL d al l b f = 0 → getL (getT f) l (bytesL al ++ r) = .ok (al, r)) := by
  refine T.ind (P := fun t => ∀ (b : Int) (f : Nat) r, b + 2 * f ≤ 256 → look d t b f = 0 → getT f (bytesT t ++ r) = .ok (t, r))
    (Q := fun al => ∀ l (b : Int) (f : Nat) r, (∀ x ∈ l, x ≤ 2) → al.length = l.length → b + 2 * f + 2 ≤ 256 → lookL d al l b f = 0 → getL (getT f) l (bytesL al ++ r) = .ok (al, r)) ?_ ?_ ?_
  · intro k n al h b f r hb hl
    obtain ⟨g, l, rfl, hs, hlen, h0, h1, hL⟩ := look_zero hl
    have hk := shape_bounds hs
    have ek : ((b8 k).toNat : Int) = k := b8_toNat k (by omega) (by omega)
    have ih := h l b g r (shape_le hs) hlen (by omega) hL
    rw [bytesT, List.cons_append, getT, ek, hs]
    dsimp only
    by_cases hn : numbered k = true
    · have hll : lim k b d ≤ 256 := lim_le (by omega) hd
      have en : ((b8 n).toNat : Int) = n := b8_toNat n h0 (by omega)
      rw [if_pos hn, if_pos hn]
      simp only [List.cons_append, List.nil_append]
      rw [ih]
      dsimp only
      rw [en]
    · have hn' : numbered k = false := by simpa using hn
      have hz : n = 0 := by rw [lim_one hn'] at h1; omega
      subst hz
      rw [if_neg hn, if_neg hn]
      simp only [List.nil_append]
      rw [ih]
  · intro l b f r _ hlen _ _
    cases l with
    | nil => rfl
    | cons a l => simp at hlen
  · intro t rs ht hr l b f r hl2 hlen hb hL
    cases l with
    | nil => simp at hlen
    | cons a l =>
      obtain ⟨h1, h2⟩ := lookL_cons hL
      have ha := headD_le hl2
      simp only [List.headD_cons] at h1 ha
      rw [bytesL, List.append_assoc, getL, ht (b + (a : Nat)) f (bytesL rs ++ r) (by omega) h1]
      dsimp only
      rw [hr l b f r (fun x hx => hl2 x (by simp [hx])) (by simpa using hlen) hb h2]

theorem bytes_getL (g : List UInt8 → Except Int (T × List UInt8)) (hg : ∀ b t r, g b = .ok (t, r) → bytesT t ++ r = b) :
    ∀ l b al r, getL g l b = .ok (al, r) → bytesL al ++ r = b := by
  intro l
  induction l with
  | nil => intro b al r h; simp only [getL, Except.ok.injEq, Prod.mk.injEq] at h; obtain ⟨rfl, rfl⟩ := h; simp [bytesL]
  | cons a l ih =>
    intro b al r h
    rw [getL] at h
    cases h1 : g b with
    | error e => rw [h1] at h; cases h
    | ok x =>
      obtain ⟨t, b1⟩ := x
      rw [h1] at h
      dsimp only at h
      cases h2 : getL g l b1 with
      | error e => rw [h2] at h; cases h
      | ok y =>
        obtain ⟨ts, b2⟩ := y
        rw [h2] at h
        simp only [Except.ok.injEq, Prod.mk.injEq] at h
        obtain ⟨rfl, rfl⟩ := h
        rw [bytesL, List.append_assoc, ih _ _ _ h2, hg _ _ _ h1]

theorem bytes_get : ∀ (f : Nat) (b : List UInt8) (t : T) (r : List UInt8), getT f b = .ok (t, r) → bytesT t ++ r = b := by
  intro f
  induction f with
  | zero => intro b t r h; simp [getT] at h
  | succ f ih =>
    intro b t r h
    cases b with
    | nil => simp [getT] at h
    | cons k b =>
      rw [getT] at h
      cases hs : shape k.toNat with
      | none => rw [hs] at h; cases h
      | some l =>
        rw [hs] at h
        dsimp only at h
        by_cases hn : numbered k.toNat = true
        · rw [if_pos hn] at h
          cases b with
          | nil => cases h
          | cons n b =>
            dsimp only at h
            cases h2 : getL (getT f) l b with
            | error e => rw [h2] at h; cases h
            | ok y =>
              obtain ⟨ts, b2⟩ := y
              rw [h2] at h
              simp only [Except.ok.injEq, Prod.mk.injEq] at h
              obtain ⟨rfl, rfl⟩ := h
              rw [bytesT, if_pos hn, b8_byte, b8_byte]
              simp only [List.cons_append, List.nil_append]
              rw [bytes_getL _ ih _ _ _ _ h2]
        · rw [if_neg hn] at h
          cases h2 : getL (getT f) l b with
          | error e => rw [h2] at h; cases h
          | ok y =>
            obtain ⟨ts, b2⟩ := y
            rw [h2] at h
            simp only [Except.ok.injEq, Prod.mk.injEq] at h
            obtain ⟨rfl, rfl⟩ := h
            rw [bytesT, if_neg hn, b8_byte]
            simp only [List.cons_append, List.nil_append]
            rw [bytes_getL _ ih _ _ _ _ h2]

end Go.Proofs.YtjboibbgigkhkaaDoor
