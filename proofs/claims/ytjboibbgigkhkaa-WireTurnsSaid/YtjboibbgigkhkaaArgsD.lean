/- Arguments as they lie in memory: a declaration, a slice of bytes. -/
import Derived.Test.YtjboibbgigkhkaaArgs
import Derived.Test.YtjboibbgigkhkaaGetL
import Derived.Test.YtjboibbgigkhkaaWDecl
namespace Go.Proofs.Ytjboibbgigkhkaa
open Go.RowKit Go.Joins Go.ChangeShapes Go.WideShapes Go.Deep

section
variable {H : Type} {enc : TypeId × Value → H} {w : World} {base : Nat} {spare : Nat → Bool} {held : Bool}

theorem Try.cellsDecl : Try.prog.cellsOf 26 = 7 := by kernel_rfl
theorem Try.cellsU8 : Try.prog.cellsOf 5 = 1 := by kernel_rfl
theorem Try.cellsStr : Try.prog.cellsOf 9 = 1 := by kernel_rfl

theorem decl_of_trod {fuel : Nat} {cs : List Value} {x : DataW H × List MemPlace} (h : DataW.trod enc Try.prog w base spare held fuel 26 cs = some x) :
    ∃ (d : D) (z z' : Value), cs = [.string ⟨d.name.toArray⟩, .int .i64 d.type.k, .int .i64 d.type.n, z, .int .i64 d.body.k, .int .i64 d.body.n, z'] ∧ argsIn w w.heap.size d.type z ∧ argsIn w w.heap.size d.body z' := by
  obtain ⟨xs, n, rfl, -, hcl, hlen, hg⟩ := DataW.trod_struct Try.underlying26 h
  rw [Try.cellsDecl] at hcl
  match cs, hcl with
  | [c0, c1, c2, c3, c4, c5, c6], _ =>
    match xs, hlen with
    | [y0, y1, y2], _ =>
      have g0 : DataW.trod enc Try.prog w base spare held n 9 (List.take (Try.prog.cellsOf 9) [c0, c1, c2, c3, c4, c5, c6]) = some y0 := hg 0 _ rfl
      have g1 : DataW.trod enc Try.prog w base spare held n 24 (List.take (Try.prog.cellsOf 24) [c1, c2, c3, c4, c5, c6]) = some y1 := hg 1 _ rfl
      have g2 : DataW.trod enc Try.prog w base spare held n 24 (List.take (Try.prog.cellsOf 24) [c4, c5, c6]) = some y2 := hg 2 _ rfl
      rw [Try.cellsStr] at g0
      rw [Try.cellsTm] at g1 g2
      simp only [List.take_succ_cons, List.take_zero] at g0 g1 g2
      obtain ⟨b, e0, -, -⟩ := DataW.trod_string Try.underlying9 g0
      obtain ⟨t, z, e1, ha⟩ := term_of_trod _ _ _ g1
      obtain ⟨u, z', e2, hb⟩ := term_of_trod _ _ _ g2
      simp only [List.cons.injEq, and_true] at e0 e1 e2
      obtain ⟨rfl, rfl, rfl⟩ := e1
      obtain ⟨rfl, rfl, rfl⟩ := e2
      exact ⟨⟨b.data.toList, t, u⟩, _, _, by rw [e0], ha, hb⟩

theorem decl_arg {r : Reach} {b0 : Nat} {v : Value} {dd : DataW H} {p : List MemPlace} (hv : Value.okWide Try.prog w r b0 26 v) (h : DataW.Trod enc Try.prog w base spare held 26 v dd p) :
    ∃ (d : D) (z z' : Value), v = .agg #[.string ⟨d.name.toArray⟩, .int .i64 d.type.k, .int .i64 d.type.n, z, .int .i64 d.body.k, .int .i64 d.body.n, z'] ∧ argsIn w w.heap.size d.type z ∧ argsIn w w.heap.size d.body z' := by
  obtain ⟨⟨l⟩, rfl, hsz⟩ := okWide_struct Try.underlying26 hv
  obtain ⟨fuel, hf⟩ := h
  obtain ⟨d, z, z', e, ha, hb⟩ := decl_of_trod hf
  have e' : l = [.string ⟨d.name.toArray⟩, .int .i64 d.type.k, .int .i64 d.type.n, z, .int .i64 d.body.k, .int .i64 d.body.n, z'] := by simpa [Value.cells] using e
  subst e'
  exact ⟨d, z, z', rfl, ha, hb⟩

theorem byte_of_wf {n : Int} (h : (Lit.int .u8 n).wf = true) : ∃ c : UInt8, n = (c.toNat : Nat) := by
  have h2 : 0 ≤ n ∧ n ≤ 255 := by
    simp [Lit.wf, IntKind.min, IntKind.max, IntKind.signed, IntKind.bits] at h
    omega
  exact ⟨UInt8.ofNat n.toNat, by rw [UInt8.toNat_ofNat']; omega⟩

theorem bytes_arg {r : Reach} {b0 : Nat} {v : Value} {dd : DataW H} {p : List MemPlace} (hv : Value.okWide Try.prog w r b0 27 v) (h : DataW.Trod enc Try.prog w base spare held 27 v dd p) :
    ∃ l : List UInt8, bytesIn w w.heap.size l v ∧ (l = [] ∨ ∃ elems rest, dd = .slice elems rest ∧ elems.length = l.length) := by
  obtain ⟨A, len, cap, rfl⟩ := okWide_slice Try.underlying27 hv
  obtain ⟨fuel, hf⟩ := h
  rcases DataW.trod_slice Try.underlying27 hf with ⟨e, -⟩ | ⟨a, len', cap', elems, rest, n', -, e, hx, hb, hl, hm, hel, hi, -, -⟩
  · simp [Value.cells] at e
    obtain ⟨rfl, rfl, rfl⟩ := e
    exact ⟨[], ⟨none, 0, rfl, Nat.le_refl _, by unfold maxLen; omega, Reads.none_⟩, .inl rfl⟩
  · simp [Value.cells] at e
    obtain ⟨rfl, rfl, rfl⟩ := e
    simp only [Prod.mk.injEq] at hx
    have hall : ∀ i, i < len → ∃ c : UInt8, w.cell? (a.add i) = some (.int .u8 (c.toNat : Nat)) := by
      intro i hlt
      obtain ⟨cs', x', hc, ht⟩ := elem_of (by omega) (hi i hlt)
      rw [Try.cellsU8, Nat.mul_one] at hc
      obtain ⟨m, rfl, -, hwf⟩ := DataW.trod_int Try.underlying5 ht
      obtain ⟨c, rfl⟩ := byte_of_wf hwf
      obtain ⟨_, _, hat⟩ := World.cells?_some hc
      exact ⟨c, by simpa [Addr.add] using hat 0 (by omega)⟩
    obtain ⟨l, rfl, hq⟩ := choose_list hall
    refine ⟨l, ⟨some a, cap, rfl, hl, hm, by simp [u8c], fun h0 => ?_⟩, .inr ⟨_, _, hx.1, by simp [hel]⟩⟩
    have z1 := hq 0 _ (List.getElem?_eq_getElem h0)
    have hblt := World.block_lt_of_cell? _ _ z1
    rw [block_of_add] at hblt
    refine ⟨a, rfl, hblt, fun j u hj => ?_⟩
    rw [u8c_get] at hj
    cases hlj : l[j]? with
    | none => rw [hlj] at hj; cases hj
    | some c =>
      rw [hlj] at hj
      simp only [Option.map_some, Option.some.injEq] at hj
      subst hj
      exact hq j c hlj
end
end Go.Proofs.Ytjboibbgigkhkaa
