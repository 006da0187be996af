/- Plain: a term's text, and its words: read again it is the term; what is read is right. No program here. -/
import Derived.Test.YtjboibbgigkhkaaDoorParseP
namespace Go.Proofs.YtjboibbgigkhkaaDoor

def xname (i : Nat) : Str := [120, UInt8.ofNat (97 + i % 26)]
def fresh : Nat → Nat → List Str
  | 0, _ => []
  | n + 1, i => xname i :: fresh n (i + 1)
def dig (n : Int) : Str := [UInt8.ofNat (48 + n.toNat)]
def joinB : List Str → Str
  | [] => []
  | [a] => a
  | a :: b :: r => a ++ 32 :: joinB (b :: r)
def leaf (decls bound : List Str) (k n : Int) : Str :=
  if k = 1 then (bound[bound.length - 1 - n.toNat]?).getD [] else if k = 2 then 85 :: dig n else if k = 18 then (decls[n.toNat]?).getD [] else word k.toNat
def headW (k : Int) : List Str := if k = 5 then [] else [word k.toNat]

mutual
/-- a term's text -/
def printT (decls : List Str) : T → List Str → Str
  | .mk k n al, b => if al.isEmpty then leaf decls b k n else 40 :: (joinB (headW k ++ printL decls al ((shape k).getD []) b) ++ [41])
def printL (decls : List Str) : List T → List Nat → List Str → List Str
  | [], _, _ => []
  | t :: r, l, b => fresh (l.headD 0) b.length ++ printT decls t (b ++ fresh (l.headD 0) b.length) :: printL decls r l.tail b
end
mutual
/-- its words -/
def wordsT (decls : List Str) : T → List Str → List Str
  | .mk k n al, b => if al.isEmpty then [leaf decls b k n] else [40] :: (headW k ++ wordsL decls al ((shape k).getD []) b ++ [[41]])
def wordsL (decls : List Str) : List T → List Nat → List Str → List Str
  | [], _, _ => []
  | t :: r, l, b => fresh (l.headD 0) b.length ++ (wordsT decls t (b ++ fresh (l.headD 0) b.length) ++ wordsL decls r l.tail b)
end
mutual
/-- how many are bound at most -/
def boundT : T → Int → Int
  | .mk k _ al, n => boundL al ((shape k).getD []) n
def boundL : List T → List Nat → Int → Int
  | [], _, n => n
  | t :: r, l, n => max (boundT t (n + (l.headD 0 : Nat))) (boundL r l.tail n)
end

/-- what comes begins with a stop, if with anything -/
def stopAhead (r : Str) : Prop := ∀ c r', r = c :: r' → isStop c = true
def clean (s : Str) : Prop := s ≠ [] ∧ ∀ c ∈ s, isStop c = false

theorem words_clean {s r : Str} (hs : clean s) (hr : stopAhead r) : words (s ++ r) = s :: words r := by
  have h1 : ∀ a ∈ s, notStop a = true := fun a ha => by simp [notStop, hs.2 a ha]
  have h2 : r.takeWhile notStop = [] ∧ r.dropWhile notStop = r := by
    cases r with
    | nil => exact ⟨rfl, rfl⟩
    | cons c r' =>
      have := hr c r' rfl
      have hn : notStop c = false := by simp [notStop, this]
      simp [List.takeWhile_cons, List.dropWhile_cons, hn]
  obtain ⟨c, s', rfl⟩ : ∃ c s', s = c :: s' := by
    cases s with
    | nil => exact absurd rfl hs.1
    | cons c s' => exact ⟨c, s', rfl⟩
  have hc := hs.2 c (List.mem_cons_self ..)
  rw [List.cons_append, words_word hc, ← List.cons_append, List.takeWhile_append_of_pos h1, List.dropWhile_append_of_pos h1, h2.1, h2.2, List.append_nil]

/-- the words of a piece, whatever comes -/
def HW (p : Str) (ws : List Str) : Prop := ∀ r, stopAhead r → words (p ++ r) = ws ++ words r
inductive HWs : List Str → List Str → Prop
  | nil : HWs [] []
  | cons {p : Str} {ws : List Str} {ps us : List Str} : HW p ws → HWs ps us → HWs (p :: ps) (ws ++ us)
theorem HW.clean {s : Str} (h : Go.Proofs.YtjboibbgigkhkaaDoor.clean s) : HW s [s] := fun r hr => words_clean h hr
theorem HWs.append {ps us qs vs : List Str} (h : HWs ps us) (h2 : HWs qs vs) : HWs (ps ++ qs) (us ++ vs) := by
  induction h with
  | nil => exact h2
  | cons h1 _ ih => rw [List.cons_append, List.append_assoc]; exact .cons h1 ih
theorem HWs.clean {ps : List Str} (h : ∀ p ∈ ps, Go.Proofs.YtjboibbgigkhkaaDoor.clean p) : HWs ps ps := by
  induction ps with
  | nil => exact .nil
  | cons p ps ih => exact .cons (ws := [p]) (HW.clean (h p (List.mem_cons_self ..))) (ih fun q hq => h q (List.mem_cons_of_mem _ hq))
theorem stop_blank (r : Str) : stopAhead (32 :: r) := fun c r' e => by cases e; rfl
theorem stop_close (r : Str) : stopAhead (41 :: r) := fun c r' e => by cases e; rfl
theorem joinB_words {ps us : List Str} (h : HWs ps us) : HW (joinB ps) us := by
  induction h with
  | nil => intro r _; rfl
  | @cons p ws ps us h1 h2 ih =>
    intro r hr
    cases h2 with
    | nil => rw [List.append_nil]; exact h1 r hr
    | @cons p2 ws2 ps2 us2 h3 h4 =>
      show words ((p ++ 32 :: joinB (p2 :: ps2)) ++ r) = _
      rw [List.append_assoc, List.cons_append, h1 _ (stop_blank _), words_blank (by rfl), ih r hr, List.append_assoc, List.append_assoc, List.append_assoc]

/-- kinds without arguments that have a word -/
theorem leaf_kinds {k : Int} (h : shape k = some []) : k = 1 ∨ k = 2 ∨ k = 18 ∨ k = 10 ∨ k = 11 ∨ k = 12 ∨ k = 14 ∨ k = 15 := by
  unfold shape at h
  repeat' split at h
  all_goals first | omega | (simp at h)
theorem node_kinds {k : Int} {l : List Nat} (h : shape k = some l) (hl : l ≠ []) : k = 3 ∨ k = 4 ∨ k = 5 ∨ k = 6 ∨ k = 7 ∨ k = 8 ∨ k = 9 ∨ k = 13 ∨ k = 16 ∨ k = 17 := by
  unfold shape at h
  repeat' split at h
  all_goals first | omega | exact absurd (Option.some.inj h).symm hl | cases h

def lowAll (s : Str) : Bool := s.all fun c => decide (97 ≤ c ∧ c ≤ 122)
theorem clean_low {s : Str} (h0 : s ≠ []) (h : lowAll s = true) : clean s := by
  refine ⟨h0, fun c hc => ?_⟩
  have := List.all_eq_true.1 h c hc
  simp only [decide_eq_true_eq] at this
  have h1 : (97 : UInt8).toNat ≤ c.toNat := this.1
  have : c ≠ 32 := by rintro rfl; revert h1; decide
  have : c ≠ 10 := by rintro rfl; revert h1; decide
  have : c ≠ 40 := by rintro rfl; revert h1; decide
  have : c ≠ 41 := by rintro rfl; revert h1; decide
  simp [isStop, isBlank, isBr, *]
theorem isName_iff {s : Str} (h : isName s = true) : s ≠ [] ∧ kindOf s = 0 ∧ lowAll s = true := by
  unfold isName at h
  simp only [Bool.and_eq_true] at h
  obtain ⟨⟨⟨⟨h1, -⟩, -⟩, h4⟩, h5⟩ := h
  exact ⟨by intro e; subst e; simp at h1, by simpa using h4, h5⟩
theorem isName_clean {s : Str} (h : isName s = true) : clean s := clean_low (isName_iff h).1 (isName_iff h).2.2
theorem isName_U {s : Str} (h : isName s = true) : s.head? ≠ some 85 := by
  obtain ⟨h0, -, h2⟩ := isName_iff h
  cases s with
  | nil => exact absurd rfl h0
  | cons c r =>
    have := List.all_eq_true.1 h2 c (List.mem_cons_self ..)
    simp only [decide_eq_true_eq] at this
    have h1 : (97 : UInt8).toNat ≤ c.toNat := this.1
    intro e
    simp at e
    subst e
    revert h1; decide

theorem xname_name : ∀ i, isName (xname i) = true := by
  intro i
  have h : ∀ j < 26, isName [120, UInt8.ofNat (97 + j)] = true := by decide
  exact h _ (Nat.mod_lt _ (by decide))
theorem xname_inj {i j : Nat} (hi : i < 26) (hj : j < 26) (h : xname i = xname j) : i = j := by
  have key : ∀ a < 26, ∀ b < 26, UInt8.ofNat (97 + a % 26) = UInt8.ofNat (97 + b % 26) → a = b := by decide
  unfold xname at h
  injection h with _ h
  injection h with h _
  exact key i hi j hj h

theorem fresh_length : ∀ n i, (fresh n i).length = n := by
  intro n
  induction n with
  | zero => intro i; rfl
  | succ n ih => intro i; rw [fresh, List.length_cons, ih]
theorem fresh_mem : ∀ n i, ∀ x ∈ fresh n i, isName x = true := by
  intro n
  induction n with
  | zero => intro i x h; cases h
  | succ n ih =>
    intro i x h
    cases h with
    | head => exact xname_name i
    | tail _ h => exact ih _ x h

/-- names that are there: unlike, no words; those that begin with x are named for their places -/
structure Scope (decls b : List Str) : Prop where
  nm : ∀ x ∈ b, isName x = true
  dn : ∀ x ∈ decls, isName x = true
  dx : ∀ x ∈ decls, x.head? ≠ some 120
  dd : decls.Nodup
  bd : b.Nodup
  no : ∀ x ∈ b, x ∉ decls
  ix : ∀ (i : Nat) x, b[i]? = some x → x.head? = some 120 → x = xname i
theorem Scope.more {decls b : List Str} (h : Scope decls b) (hl : b.length < 26) : Scope decls (b ++ [xname b.length]) where
  nm := fun x hx => by
    rcases List.mem_append.1 hx with hx | hx
    · exact h.nm x hx
    · simp at hx; subst hx; exact xname_name _
  dn := h.dn
  dx := h.dx
  dd := h.dd
  bd := by
    rw [List.nodup_append]
    refine ⟨h.bd, by simp, fun x hx y hy e => ?_⟩
    simp at hy
    subst hy e
    obtain ⟨i, hi, hx⟩ := List.mem_iff_getElem.1 hx
    have := h.ix i _ (by rw [List.getElem?_eq_getElem hi, hx]) rfl
    have := xname_inj (by omega) (by omega) this
    omega
  no := fun x hx => by
    rcases List.mem_append.1 hx with hx | hx
    · exact h.no x hx
    · simp at hx; subst hx; exact fun hm => h.dx _ hm rfl
  ix := fun i x hx h0 => by
    rcases Nat.lt_or_ge i b.length with hi | hi
    · rw [List.getElem?_append_left hi] at hx; exact h.ix i x hx h0
    · rw [List.getElem?_append_right hi] at hx
      have hz : i - b.length = 0 := by
        rcases Nat.eq_zero_or_pos (i - b.length) with hz | hz
        · exact hz
        · rw [List.getElem?_eq_none (by simp; omega)] at hx; cases hx
      rw [hz] at hx
      simp at hx
      rw [← hx, show i = b.length by omega]
theorem Scope.fresh {decls : List Str} : ∀ {n : Nat} {b : List Str}, Scope decls b → b.length + n ≤ 26 → Scope decls (b ++ Go.Proofs.YtjboibbgigkhkaaDoor.fresh n b.length) := by
  intro n
  induction n with
  | zero => intro b h _; rw [Go.Proofs.YtjboibbgigkhkaaDoor.fresh, List.append_nil]; exact h
  | succ n ih =>
    intro b h hl
    have := ih (h.more (by omega)) (by simp; omega)
    rw [List.append_assoc] at this
    simpa [Go.Proofs.YtjboibbgigkhkaaDoor.fresh] using this
theorem Scope.cleanb {decls b : List Str} (h : Scope decls b) : ∀ x ∈ b, clean x := fun x hx => isName_clean (h.nm x hx)

theorem fromEnd_nodup {b : List Str} (h : b.Nodup) {n : Nat} (hn : n < b.length) : fromEnd b ((b[b.length - 1 - n]?).getD []) = some n := by
  unfold fromEnd
  rw [List.findIdx?_eq_some_iff_getElem]
  have e : (b[b.length - 1 - n]?).getD [] = b[b.length - 1 - n] := by rw [List.getElem?_eq_getElem (by omega)]; rfl
  refine ⟨by simpa using hn, ?_, fun j hj => ?_⟩
  · rw [e, List.getElem_reverse]; simp
  · rw [e, List.getElem_reverse]
    simp only [beq_iff_eq]
    intro e2
    exact List.pairwise_iff_getElem.1 h _ _ (by omega) (by omega) (by omega) e2.symm
theorem fromEnd_not {b : List Str} {x : Str} (h : x ∉ b) : fromEnd b x = none := by
  unfold fromEnd
  rw [List.findIdx?_eq_none_iff]
  intro y hy
  simp at hy
  simp only [beq_eq_false_iff_ne]
  rintro rfl
  exact h hy

theorem boundT_ge : (∀ t : T, ∀ n, n ≤ boundT t n) ∧ (∀ (al : List T) l n, n ≤ boundL al l n) := by
  refine T.ind (P := fun t => ∀ n, n ≤ boundT t n) (Q := fun al => ∀ l n, n ≤ boundL al l n) ?_ ?_ ?_
  · intro k n al h m; rw [boundT]; exact h _ _
  · intro l n; rw [boundL]; exact Int.le_refl _
  · intro t r _ h2 l n
    rw [boundL]
    have := h2 l.tail n
    omega

theorem leaf_clean {decls b : List Str} (hd : ∀ x ∈ decls, clean x) (hb : ∀ x ∈ b, clean x) {k n : Int} (hs : shape k = some []) (h0 : 0 ≤ n) (h1 : n < lim k b.length decls.length) : clean (leaf decls b k n) := by
  have hget : ∀ (l : List Str) (i : Nat), i < l.length → (l[i]?).getD [] ∈ l := fun l i hi => by
    rw [List.getElem?_eq_getElem hi]; exact List.getElem_mem hi
  rcases leaf_kinds hs with rfl | rfl | rfl | h
  · have h1 : n < (b.length : Int) := h1
    exact hb _ (hget b _ (by omega))
  · have h1 : n < 4 := h1
    have : n = 0 ∨ n = 1 ∨ n = 2 ∨ n = 3 := by omega
    show clean (85 :: dig n)
    rcases this with rfl | rfl | rfl | rfl <;> exact ⟨by decide, by decide⟩
  · have h1 : n < (decls.length : Int) := h1
    exact hd _ (hget decls _ (by omega))
  · have e : leaf decls b k n = word k.toNat := by
      unfold leaf
      rw [if_neg (by omega), if_neg (by omega), if_neg (by omega)]
    rw [e]
    rcases h with rfl | rfl | rfl | rfl | rfl <;> exact clean_low (by decide) (by decide)
theorem headW_words {k : Int} {l : List Nat} (h : shape k = some l) (hl : l ≠ []) : HWs (headW k) (headW k) := by
  refine HWs.clean ?_
  unfold headW
  split
  · intro p hp; cases hp
  · rename_i h5
    intro p hp
    simp at hp
    subst hp
    rcases node_kinds h hl with rfl | rfl | rfl | rfl | rfl | rfl | rfl | rfl | rfl | rfl <;> first | exact absurd rfl h5 | exact clean_low (by decide) (by decide)

theorem print_words {decls : List Str} (hd : ∀ x ∈ decls, clean x) : (∀ t : T, ∀ (b : List Str) f, look decls.length t b.length f = 0 → (∀ x ∈ b, clean x) → HW (printT decls t b) (wordsT decls t b)) ∧
    (∀ (al : List T) l (b : List Str) f, lookL decls.length al l b.length f = 0 → (∀ x ∈ b, clean x) → HWs (printL decls al l b) (wordsL decls al l b)) := by
  refine T.ind (P := fun t => ∀ (b : List Str) f, look decls.length t b.length f = 0 → (∀ x ∈ b, clean x) → HW (printT decls t b) (wordsT decls t b))
    (Q := fun al => ∀ l (b : List Str) f, lookL decls.length al l b.length f = 0 → (∀ x ∈ b, clean x) → HWs (printL decls al l b) (wordsL decls al l b)) ?_ ?_ ?_
  · intro k n al ih b f h hb
    obtain ⟨g, l, rfl, hs, hl, h0, h1, hL⟩ := look_zero h
    rw [printT, wordsT]
    cases al with
    | nil =>
      have hl0 : l = [] := List.eq_nil_of_length_eq_zero hl.symm
      subst hl0
      exact HW.clean (leaf_clean hd hb hs h0 h1)
    | cons a r =>
      simp only [List.isEmpty_cons, Bool.false_eq_true, if_false]
      have h2 := ih l b g hL hb
      have hne : l ≠ [] := by rintro rfl; simp at hl
      rw [hs, Option.getD_some]
      intro r' hr'
      rw [List.cons_append, words_br (by rfl), List.append_assoc, joinB_words ((headW_words hs hne).append h2) _ (by simpa using stop_close r')]
      simp only [List.cons_append, List.nil_append, List.append_assoc, Option.getD_some]
      rw [words_br (by rfl)]
  · intro l b f _ _
    rw [printL, wordsL]; exact .nil
  · intro t r h1 h2 l b f h hb
    obtain ⟨h3, h4⟩ := lookL_cons h
    rw [printL, wordsL]
    have hf := fresh_mem (l.headD 0) b.length
    refine HWs.append (HWs.clean fun p hp => isName_clean (hf p hp)) (.cons (h1 _ f ?_ ?_) (h2 l.tail b f h4 hb))
    · rw [List.length_append, fresh_length]; simpa using h3
    · intro x hx
      rcases List.mem_append.1 hx with hx | hx
      · exact hb x hx
      · exact isName_clean (hf x hx)

theorem binders_fresh : ∀ (n : Nat) (b ws : List Str), binders n b ⟨fresh n b.length ++ ws, 0⟩ = (b ++ fresh n b.length, ⟨ws, 0⟩) := by
  intro n
  induction n with
  | zero => intro b ws; simp [binders, fresh]
  | succ n ih =>
    intro b ws
    rw [fresh, binders]
    simp only [List.cons_append, PS.take, xname_name, if_true]
    have := ih (b ++ [xname b.length]) ws
    simp only [List.length_append, List.length_singleton] at this
    rw [this]
    simp

section
variable {cn : Str → Option Int} {decls : List Str}
theorem atom_leaf (hcn : ∀ n : Int, 0 ≤ n → n < 4 → cn (dig n) = some n) {b : List Str} (hsc : Scope decls b) {k n : Int} (hs : shape k = some []) (h0 : 0 ≤ n) (h1 : n < lim k b.length decls.length) (p : PS) :
    atom cn decls (leaf decls b k n) b p = (.mk k n [], p) ∧ leaf decls b k n ≠ [40] ∧ ¬ (0 < kindOf (leaf decls b k n) ∧ shape (kindOf (leaf decls b k n)) ≠ some []) := by
  have hget : ∀ (l : List Str) (i : Nat), i < l.length → (l[i]?).getD [] ∈ l := fun l i hi => by
    rw [List.getElem?_eq_getElem hi]; exact List.getElem_mem hi
  have h40 : ∀ x : Str, isName x = true → x ≠ [40] := by rintro x hx rfl; revert hx; decide
  rcases leaf_kinds hs with rfl | rfl | rfl | h
  · have h1 : n < (b.length : Int) := h1
    have hm := hget b (b.length - 1 - n.toNat) (by omega)
    have hn := hsc.nm _ hm
    obtain ⟨-, hk, -⟩ := isName_iff hn
    show atom cn decls ((b[b.length - 1 - n.toNat]?).getD []) b p = _ ∧ _ ∧ _
    refine ⟨?_, h40 _ hn, fun h => absurd h.1 (by show ¬ 0 < kindOf ((b[b.length - 1 - n.toNat]?).getD []); omega)⟩
    unfold atom
    rw [if_neg (isName_U hn), if_neg (by omega), if_neg (by simp [hn]), fromEnd_nodup hsc.bd (by omega)]
    dsimp only
    rw [Int.toNat_of_nonneg h0]
  · have h1 : n < 4 := h1
    refine ⟨?_, by intro e; simp [leaf] at e, ?_⟩
    · show atom cn decls (85 :: dig n) b p = _
      unfold atom
      rw [if_pos (show (85 :: dig n).head? = some 85 from rfl)]
      show height cn (dig n) p = _
      unfold height
      rw [hcn n h0 h1]
      dsimp only
      rw [if_neg (by omega)]
    · have : n = 0 ∨ n = 1 ∨ n = 2 ∨ n = 3 := by omega
      show ¬ (0 < kindOf (85 :: dig n) ∧ shape (kindOf (85 :: dig n)) ≠ some [])
      rcases this with rfl | rfl | rfl | rfl <;> decide
  · have h1 : n < (decls.length : Int) := h1
    have hm := hget decls n.toNat (by omega)
    have hn := hsc.dn _ hm
    obtain ⟨-, hk, -⟩ := isName_iff hn
    show atom cn decls ((decls[n.toNat]?).getD []) b p = _ ∧ _ ∧ _
    refine ⟨?_, h40 _ hn, fun h => absurd h.1 (by show ¬ 0 < kindOf ((decls[n.toNat]?).getD []); omega)⟩
    have hf := fromEnd_nodup hsc.dd (n := decls.length - 1 - n.toNat) (by omega)
    rw [show decls.length - 1 - (decls.length - 1 - n.toNat) = n.toNat by omega] at hf
    unfold atom
    rw [if_neg (isName_U hn), if_neg (by omega), if_neg (by simp [hn]), fromEnd_not (fun hb => hsc.no _ hb hm), hf]
    dsimp only
    rw [show (decls.length : Int) - 1 - ((decls.length - 1 - n.toNat : Nat) : Int) = n by omega]
  · have hl1 : n = 0 := by
      have hh : lim k b.length decls.length = 1 := by
        unfold lim
        rw [if_neg (by omega), if_neg (by omega), if_neg (by omega)]
      omega
    subst hl1
    have e : leaf decls b k 0 = word k.toNat := by
      unfold leaf
      rw [if_neg (by omega), if_neg (by omega), if_neg (by omega)]
    rw [e]
    rcases h with rfl | rfl | rfl | rfl | rfl
    all_goals exact ⟨rfl, by decide, by decide⟩

theorem wordsT_head (hcn : ∀ n : Int, 0 ≤ n → n < 4 → cn (dig n) = some n) {b : List Str} (hsc : Scope decls b) {t : T} {f : Nat} (h : look decls.length t b.length f = 0) :
    ∃ x xs, wordsT decls t b = x :: xs ∧ ¬ (0 < kindOf x ∧ shape (kindOf x) ≠ some []) := by
  obtain ⟨k, n, al⟩ := t
  obtain ⟨g, l, rfl, hs, hl, h0, h1, hL⟩ := look_zero h
  rw [wordsT]
  cases al with
  | nil =>
    have hl0 : l = [] := List.eq_nil_of_length_eq_zero hl.symm
    subst hl0
    exact ⟨_, _, rfl, (atom_leaf hcn hsc hs h0 h1 ⟨[], 0⟩).2.2⟩
  | cons a r => exact ⟨_, _, rfl, by decide⟩

theorem kind_of_word {k : Int} {l : List Nat} (h : shape k = some l) (hl : l ≠ []) (h5 : k ≠ 5) : ((kindOf (word k.toNat) : Nat) : Int) = k ∧ 0 < kindOf (word k.toNat) ∧ shape (kindOf (word k.toNat)) ≠ some [] := by
  rcases node_kinds h hl with rfl | rfl | rfl | rfl | rfl | rfl | rfl | rfl | rfl | rfl
  all_goals first | exact absurd rfl h5 | decide

theorem hk_pos {p : PS} (h : 0 < kindOf (p.l.headD []) ∧ shape (kindOf (p.l.headD [])) ≠ some []) : headKind p = (((kindOf (p.l.headD []) : Nat) : Int), p.take.2) := if_pos h
theorem hk_neg {p : PS} (h : ¬ (0 < kindOf (p.l.headD []) ∧ shape (kindOf (p.l.headD [])) ≠ some [])) : headKind p = (5, p) := if_neg h
theorem pt_atom {f : Nat} {b : List Str} {p : PS} (h : p.e = 0) (hx : p.take.1 ≠ [40]) : pterm cn decls (f + 1) b p = atom cn decls p.take.1 b p.take.2 := by
  rw [pterm, if_neg (by simpa using h), if_pos hx]
theorem pt_list {f : Nat} {b : List Str} {p : PS} (h : p.e = 0) (hx : p.take.1 = [40]) : pterm cn decls (f + 1) b p =
    (.mk (headKind p.take.2).1 0 (pargs (pterm cn decls f) b ((shape (headKind p.take.2).1).getD []) (headKind p.take.2).2).1, closed (pargs (pterm cn decls f) b ((shape (headKind p.take.2).1).getD []) (headKind p.take.2).2).2) := by
  rw [pterm, if_neg (by simpa using h), if_neg (by simpa using hx)]

theorem parse_words (hcn : ∀ n : Int, 0 ≤ n → n < 4 → cn (dig n) = some n) :
    (∀ t : T, ∀ (b : List Str) f r, look decls.length t b.length f = 0 → boundT t b.length ≤ 8 → Scope decls b → pterm cn decls f b ⟨wordsT decls t b ++ r, 0⟩ = (t, ⟨r, 0⟩)) ∧
    (∀ (al : List T) (l : List Nat) (b : List Str) f r, (∀ x ∈ l, x ≤ 2) → al.length = l.length → lookL decls.length al l b.length f = 0 → boundL al l b.length ≤ 8 → Scope decls b → pargs (pterm cn decls f) b l ⟨wordsL decls al l b ++ r, 0⟩ = (al, ⟨r, 0⟩)) := by
  refine T.ind (P := fun t => ∀ (b : List Str) f r, look decls.length t b.length f = 0 → boundT t b.length ≤ 8 → Scope decls b → pterm cn decls f b ⟨wordsT decls t b ++ r, 0⟩ = (t, ⟨r, 0⟩))
    (Q := fun al => ∀ (l : List Nat) (b : List Str) f r, (∀ x ∈ l, x ≤ 2) → al.length = l.length → lookL decls.length al l b.length f = 0 → boundL al l b.length ≤ 8 → Scope decls b → pargs (pterm cn decls f) b l ⟨wordsL decls al l b ++ r, 0⟩ = (al, ⟨r, 0⟩)) ?_ ?_ ?_
  · intro k n al ih b f r h hb hsc
    have hwh := wordsT_head hcn hsc h
    obtain ⟨g, l, rfl, hs, hl, h0, h1, hL⟩ := look_zero h
    cases al with
    | nil =>
      have hl0 : l = [] := List.eq_nil_of_length_eq_zero hl.symm
      subst hl0
      obtain ⟨e1, e2, -⟩ := atom_leaf (cn := cn) hcn hsc hs h0 h1 ⟨r, 0⟩
      have ew : wordsT decls (.mk k n []) b = [leaf decls b k n] := by rw [wordsT]; rfl
      rw [ew]
      exact (pt_atom (p := ⟨leaf decls b k n :: r, 0⟩) rfl e2).trans e1
    | cons a ar =>
      have hne : l ≠ [] := by rintro rfl; simp at hl
      have hz : n = 0 := by
        have hh : lim k b.length decls.length = 1 := by
          have := node_kinds hs hne
          unfold lim
          rw [if_neg (by omega), if_neg (by omega), if_neg (by omega)]
        omega
      subst hz
      have ew : wordsT decls (.mk k 0 (a :: ar)) b = [40] :: (headW k ++ wordsL decls (a :: ar) l b ++ [[41]]) := by rw [wordsT, hs]; rfl
      rw [boundT, hs] at hb
      have hih := ih l b g ([41] :: r) (shape_le hs) hl hL hb hsc
      have hhk : headKind ⟨headW k ++ (wordsL decls (a :: ar) l b ++ [41] :: r), 0⟩ = (k, ⟨wordsL decls (a :: ar) l b ++ [41] :: r, 0⟩) := by
        by_cases h5 : k = 5
        · subst h5
          have hl2 : l = [0, 0] := by
            have : shape 5 = some [0, 0] := rfl
            rw [this] at hs
            injection hs with hs
            exact hs.symm
          subst hl2
          obtain ⟨h3, -⟩ := lookL_cons hL
          have h3' : look decls.length a b.length g = 0 := by simpa using h3
          obtain ⟨x, xs, ex, hx⟩ := wordsT_head hcn hsc h3'
          have e2 : wordsL decls (a :: ar) [0, 0] b = x :: (xs ++ wordsL decls ar [0] b) := by
            rw [wordsL]
            simp [fresh, ex]
          rw [e2]
          exact hk_neg (p := ⟨x :: (xs ++ wordsL decls ar [0] b ++ [41] :: r), 0⟩) hx
        · obtain ⟨k1, k2, k3⟩ := kind_of_word hs hne h5
          have e3 : headW k = [word k.toNat] := if_neg h5
          rw [e3]
          refine (hk_pos (p := ⟨word k.toNat :: (wordsL decls (a :: ar) l b ++ [41] :: r), 0⟩) ⟨k2, k3⟩).trans ?_
          exact Prod.ext k1 rfl
      have e4 : [40] :: (headW k ++ wordsL decls (a :: ar) l b ++ [[41]]) ++ r = [40] :: (headW k ++ (wordsL decls (a :: ar) l b ++ [41] :: r)) := by simp
      rw [ew, e4]
      refine (pt_list (p := ⟨[40] :: (headW k ++ (wordsL decls (a :: ar) l b ++ [41] :: r)), 0⟩) rfl rfl).trans ?_
      simp only [PS.take]
      rw [hhk]
      dsimp only
      rw [hs, Option.getD_some, hih]
      rfl
  · intro l b f r _ hl _ _ _
    cases l with
    | nil => rw [wordsL]; rfl
    | cons x l => simp at hl
  · intro t r h1 h2 l b f r' hl2 hl hL hb hsc
    cases l with
    | nil => simp at hl
    | cons y l =>
      obtain ⟨h3, h4⟩ := lookL_cons hL
      simp only [List.headD_cons, List.tail_cons] at h3 h4
      rw [boundL] at hb
      simp only [List.headD_cons, List.tail_cons] at hb
      have hy := hl2 y (List.mem_cons_self ..)
      have hbl := boundT_ge.1 t ((b.length : Int) + (y : Nat))
      have hln : (b ++ fresh y b.length).length = b.length + y := by rw [List.length_append, fresh_length]
      have hsc2 : Scope decls (b ++ fresh y b.length) := hsc.fresh (by omega)
      rw [wordsL, pargs]
      simp only [List.headD_cons, List.tail_cons, List.append_assoc]
      rw [binders_fresh]
      dsimp only
      rw [if_neg (by omega), h1 (b ++ fresh y b.length) f _ (by rw [hln]; simpa using h3) (by rw [hln]; have := hb; simp only [Int.natCast_add]; omega) hsc2]
      dsimp only
      rw [h2 l b f r' (fun x hx => hl2 x (List.mem_cons_of_mem _ hx)) (by simpa using hl) h4 (by omega) hsc]

/-- a right term's text is read as the term -/
theorem parse_print (hcn : ∀ n : Int, 0 ≤ n → n < 4 → cn (dig n) = some n) {t : T} {b : List Str} (hsc : Scope decls b) (h : look decls.length t b.length 24 = 0) (hb : boundT t b.length ≤ 8) (hl : (printT decls t b).length ≤ 1500) :
    parse cn decls (printT decls t b) b = (t, 0) := by
  have h8 := boundT_ge.1 t (b.length : Int)
  have hw : words (printT decls t b) = wordsT decls t b := by
    have := (print_words (fun x hx => isName_clean (hsc.dn x hx))).1 t b 24 h hsc.cleanb [] (fun c r' e => by cases e)
    simpa [words_nil] using this
  have hp := (parse_words (cn := cn) hcn).1 t b 24 [] h hb hsc
  rw [List.append_nil] at hp
  unfold parse
  rw [if_neg (by omega), if_neg (by omega), hw, hp]
  rfl

/-! what is read is right -/
theorem fail_ne {c : Int} (hc : c ≠ 0) (p : PS) : (p.fail c).e ≠ 0 := by
  unfold PS.fail
  split
  · exact hc
  · assumption
theorem take_right {p : PS} (h : p.take.2.e = 0) : p.e = 0 ∧ p.take.2.l.length + 1 = p.l.length := by
  obtain ⟨l, e⟩ := p
  cases l with
  | nil => exact absurd h (fail_ne (by decide) _)
  | cons a r => exact ⟨h, rfl⟩
theorem binders_right : ∀ (n : Nat) (b : List Str) (p : PS), (binders n b p).2.e = 0 → p.e = 0 ∧ (binders n b p).1.length = b.length + n ∧ (binders n b p).2.l.length + n = p.l.length := by
  intro n
  induction n with
  | zero => intro b p h; exact ⟨h, rfl, rfl⟩
  | succ n ih =>
    intro b p h
    rw [binders] at h ⊢
    obtain ⟨h1, h2, h3⟩ := ih _ _ h
    split at h1
    · rename_i hn
      rw [if_pos hn] at h3 ⊢
      obtain ⟨h4, h5⟩ := take_right h1
      rw [if_pos hn] at h2
      refine ⟨h4, by rw [h2]; simp; omega, by omega⟩
    · exact absurd h1 (fail_ne (by decide) _)
theorem kindOf_low (x : Str) (h : 0 < kindOf x) : 3 ≤ kindOf x ∧ kindOf x ≤ 17 := by
  have key : ∀ f k, 0 < kindFrom x k f → k ≤ kindFrom x k f ∧ kindFrom x k f < k + f := by
    intro f
    induction f with
    | zero => intro k h; simp [kindFrom] at h
    | succ f ih =>
      intro k h
      rw [kindFrom] at h ⊢
      split
      · omega
      · rename_i hh
        rw [if_neg hh] at h
        have := ih (k + 1) h
        omega
  have := key 15 3 h
  unfold kindOf
  omega
theorem atom_right {x : Str} {b : List Str} {p : PS} (f : Nat) (h : (atom cn decls x b p).2.e = 0) : p.e = 0 ∧ (atom cn decls x b p).2 = p ∧ look decls.length (atom cn decls x b p).1 b.length (f + 1) = 0 ∧ size (atom cn decls x b p).1 = 1 ∧ boundT (atom cn decls x b p).1 b.length = b.length := by
  have key : ∀ k n : Int, p.e = 0 → shape k = some [] → 0 ≤ n → n < lim k b.length decls.length → p.e = 0 ∧ p = p ∧ look decls.length (.mk k n []) b.length (f + 1) = 0 ∧ size (.mk k n []) = 1 ∧ boundT (.mk k n []) b.length = b.length := by
    intro k n h0 hs h1 h2
    refine ⟨h0, rfl, ?_, by simp [size, sizeL], by rw [boundT]; rfl⟩
    rw [look, hs]
    dsimp only
    rw [if_neg (by simp), if_neg (by omega), lookL]
  unfold atom height at h ⊢
  split at h
  · rename_i h85
    rw [if_pos h85]
    split at h
    · exact absurd h (fail_ne (by decide) _)
    · rename_i n hn
      split at h
      · exact absurd h (fail_ne (by decide) _)
      · rename_i hr
        rw [if_neg hr]
        exact key 2 n h rfl (by omega) (by show n < 4; omega)
  · rename_i h85
    rw [if_neg h85]
    split at h
    · rename_i hk
      rw [if_pos hk]
      split at h
      · rename_i hs
        rw [if_pos hs]
        have := kindOf_low x hk
        refine key _ 0 h hs (by omega) ?_
        unfold lim
        rw [if_neg (by omega), if_neg (by omega), if_neg (by omega)]
        omega
      · exact absurd h (fail_ne (by decide) _)
    · rename_i hk
      rw [if_neg hk]
      split at h
      · exact absurd h (fail_ne (by decide) _)
      · rename_i hn
        rw [if_neg hn]
        cases hf : fromEnd b x with
        | some i =>
          rw [hf] at h
          have hi : i < b.length := by
            unfold fromEnd at hf
            obtain ⟨h1, -⟩ := List.findIdx?_eq_some_iff_getElem.1 hf
            simpa using h1
          exact key 1 i h rfl (by omega) (by show (i : Int) < (b.length : Int); omega)
        | none =>
          rw [hf] at h
          dsimp only at h ⊢
          cases hg : fromEnd decls x with
          | some i =>
            rw [hg] at h
            have hi : i < decls.length := by
              unfold fromEnd at hg
              obtain ⟨h1, -⟩ := List.findIdx?_eq_some_iff_getElem.1 hg
              simpa using h1
            exact key 18 ((decls.length : Int) - 1 - i) h rfl (by omega) (by show _ < (decls.length : Int); omega)
          | none =>
            rw [hg] at h
            exact absurd h (fail_ne (by decide) _)

theorem headKind_right {p : PS} (h : (headKind p).2.e = 0) : p.e = 0 ∧ (headKind p).2.l.length ≤ p.l.length ∧ ∃ l, shape (headKind p).1 = some l ∧ l ≠ [] := by
  unfold headKind at h ⊢
  split at h
  · rename_i hk
    rw [if_pos hk]
    obtain ⟨h1, h2⟩ := take_right h
    have h3 := kindOf_low _ hk.1
    refine ⟨h1, by dsimp only; omega, ?_⟩
    cases hs : shape ((kindOf (p.l.headD []) : Nat) : Int) with
    | some l => exact ⟨l, rfl, fun e => hk.2 (by rw [hs, e])⟩
    | none =>
      exfalso
      unfold shape at hs
      repeat' split at hs
      all_goals first | omega | (simp at hs)
  · rename_i hk
    rw [if_neg hk]
    exact ⟨h, Nat.le_refl _, [0, 0], rfl, by simp⟩

theorem lookL_mk {d : Int} {t : T} {r : List T} {y : Nat} {l : List Nat} {b : Int} {f : Nat} (h1 : look d t (b + (y : Nat)) f = 0) (h2 : lookL d r l b f = 0) : lookL d (t :: r) (y :: l) b f = 0 := by
  rw [lookL]
  exact (if_neg (fun h => h h1)).trans h2

/-- where nothing is wrong behind it, nothing was wrong ahead; the term is right, and made of words -/
def Right (decls : List Str) (f : Nat) (b : List Str) (p : PS) (r : T × PS) : Prop := r.2.e = 0 → p.e = 0 ∧ (b.length ≤ 8 → look decls.length r.1 b.length f = 0 ∧ boundT r.1 b.length ≤ 8 ∧ size r.1 + r.2.l.length ≤ p.l.length)

theorem pargs_right {g : List Str → PS → T × PS} {f : Nat} (hg : ∀ b p, Right decls f b p (g b p)) (b : List Str) :
    ∀ (l : List Nat) (p : PS), (pargs g b l p).2.e = 0 → p.e = 0 ∧ (b.length ≤ 8 → (pargs g b l p).1.length = l.length ∧ lookL decls.length (pargs g b l p).1 l b.length f = 0 ∧ boundL (pargs g b l p).1 l b.length ≤ 8 ∧ sizeL (pargs g b l p).1 + (pargs g b l p).2.l.length ≤ p.l.length) := by
  intro l
  induction l with
  | nil => intro p h; exact ⟨h, fun hb => ⟨rfl, by simp [pargs, lookL], by simp [pargs, boundL]; omega, by simp [pargs, sizeL]⟩⟩
  | cons y l ih =>
    intro p h
    rw [pargs] at h ⊢
    dsimp only at h ⊢
    obtain ⟨h1, h2⟩ := ih _ h
    obtain ⟨g1, g2⟩ := hg _ _ h1
    have h8 : ¬ 8 < (binders y b p).1.length := by
      intro h8
      rw [if_pos h8] at g1
      exact fail_ne (by decide) _ g1
    rw [if_neg h8] at g1 g2 h1 h2 ⊢
    obtain ⟨b1, b2, b3⟩ := binders_right y b p g1
    obtain ⟨g2, g3, g4⟩ := g2 (by omega)
    refine ⟨b1, fun hb => ?_⟩
    obtain ⟨h3, h4, h5, h6⟩ := h2 hb
    refine ⟨by rw [List.length_cons, List.length_cons, h3], ?_, ?_, ?_⟩
    · rw [b2] at g2
      have g2 : look decls.length (g (binders y b p).1 (binders y b p).2).1 ((b.length : Int) + (y : Nat)) f = 0 := by simpa using g2
      exact lookL_mk g2 h4
    · rw [boundL]
      simp only [List.headD_cons, List.tail_cons]
      rw [b2] at g3
      have : boundT (g (binders y b p).1 (binders y b p).2).1 ((b.length : Int) + (y : Nat)) ≤ 8 := by simpa using g3
      omega
    · rw [sizeL]; omega

theorem closed_right {p : PS} (h : (closed p).e = 0) : p.e = 0 ∧ (closed p).l.length + 1 = p.l.length := by
  unfold closed at h ⊢
  split at h
  · rename_i hx
    rw [if_pos hx]
    exact take_right h
  · exact absurd h (fail_ne (by decide) _)

theorem pterm_right : ∀ (f : Nat) (b : List Str) (p : PS), Right decls f b p (pterm cn decls f b p) := by
  intro f
  induction f with
  | zero => intro b p h; exact absurd h (fail_ne (by decide) _)
  | succ f ih =>
    intro b p
    rw [pterm]
    unfold Right
    split
    · rename_i he
      intro h
      exact absurd h he
    · split
      · intro h
        obtain ⟨h1, h2, h3, h4, h5⟩ := atom_right f h
        obtain ⟨h6, h7⟩ := take_right h1
        refine ⟨h6, fun hb => ⟨h3, by omega, ?_⟩⟩
        rw [h2, h4]
        omega
      · intro h
        dsimp only at h ⊢
        obtain ⟨h1, h2⟩ := closed_right h
        obtain ⟨h3, h4⟩ := pargs_right ih b _ _ h1
        obtain ⟨h5, h6, l, h7, h8⟩ := headKind_right h3
        obtain ⟨h9, h10⟩ := take_right h5
        refine ⟨h9, fun hb => ?_⟩
        obtain ⟨k1, k2, k3, k4⟩ := h4 hb
        rw [h7] at k1 k2 k3 k4 h2 ⊢
        simp only [Option.getD_some] at k1 k2 k3 k4 h2 ⊢
        refine ⟨?_, ?_, ?_⟩
        · rw [look, h7]
          dsimp only
          rw [if_neg (by simpa using k1), if_neg ?_]
          · exact k2
          · have hh : lim (headKind p.take.2).1 b.length decls.length = 1 := by
              have := node_kinds h7 h8
              unfold lim
              rw [if_neg (by omega), if_neg (by omega), if_neg (by omega)]
            omega
        · rw [boundT, h7]; exact k3
        · rw [size]; omega

/-- what is read from a text is right -/
theorem parse_right {s : Str} {b : List Str} (h : (parse cn decls s b).2 = 0) : b.length ≤ 8 ∧ look decls.length (parse cn decls s b).1 b.length 24 = 0 ∧ boundT (parse cn decls s b).1 b.length ≤ 8 ∧ size (parse cn decls s b).1 ≤ (words s).length ∧ s.length ≤ 1500 := by
  unfold parse at h ⊢
  split at h
  · cases h
  · rename_i h1
    split at h
    · cases h
    · rename_i h2
      rw [if_neg h1, if_neg h2]
      dsimp only at h ⊢
      split at h
      · rename_i h3
        exact absurd h h3
      · rename_i h3
        rw [if_neg h3]
        have he : (pterm cn decls 24 b ⟨words s, 0⟩).2.e = 0 := by
          have h3 := Classical.not_not.1 h3
          unfold ended at h3
          split at h3
          · exact absurd h3 (fail_ne (by decide) _)
          · exact h3
        obtain ⟨-, h4⟩ := pterm_right (cn := cn) (decls := decls) 24 b ⟨words s, 0⟩ he
        obtain ⟨h5, h6, h7⟩ := h4 (by omega)
        exact ⟨by omega, h5, h6, Nat.le_trans (Nat.le_add_right _ _) h7, by omega⟩
theorem parse_wrong {s : Str} {b : List Str} (h : (parse cn decls s b).2 ≠ 0) : (parse cn decls s b).1 = T0 := by
  unfold parse at h ⊢
  split at h
  · rename_i h1; rw [if_pos h1]
  · rename_i h1
    rw [if_neg h1]
    split at h
    · rename_i h2; rw [if_pos h2]
    · rename_i h2
      rw [if_neg h2]
      dsimp only at h ⊢
      split at h
      · rename_i h3; rw [if_pos h3]
      · exact absurd rfl h
end

theorem words_count (s : Str) : (words s).length ≤ s.length := by
  have key : ∀ s : Str, (wst s).2.length + (if (wst s).1 = [] then 0 else 1) ≤ s.length := by
    intro s
    induction s with
    | nil => exact Nat.le_refl _
    | cons c r ih =>
      have hf : (flush (wst r).1 (wst r).2).length ≤ r.length := by
        unfold flush
        split
        · rename_i h; rw [if_pos h] at ih; omega
        · rename_i h; rw [if_neg h] at ih; rw [List.length_cons]; omega
      rw [wst]
      by_cases h : isStop c = true
      · rw [if_pos h]
        by_cases h2 : isBr c = true
        · simp only [h2, if_true, List.length_cons]; omega
        · simp only [h2, if_false, if_true, List.length_cons, Bool.false_eq_true]; omega
      · rw [if_neg h]
        simp only [List.cons_ne_nil, if_false, List.length_cons]
        split at ih <;> omega
  have := key s
  unfold words flush
  split
  · rename_i h; rw [if_pos h] at this; omega
  · rename_i h; rw [if_neg h] at this; rw [List.length_cons]; omega
end Go.Proofs.YtjboibbgigkhkaaDoor
