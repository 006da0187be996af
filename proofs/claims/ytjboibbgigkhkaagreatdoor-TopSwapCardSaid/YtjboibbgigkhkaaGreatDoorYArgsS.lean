/- Strings as they come in: one, and a slice of them. -/
import Derived.Test.YtjboibbgigkhkaaGreatDoorYArgs
import Derived.Test.YtjboibbgigkhkaaGreatDoorYGB
import Derived.SliceStrings
namespace Go.Proofs.YtjboibbgigkhkaaGreatDoor
set_option maxRecDepth 100000
open Go.RowKit Go.ChangeShapes Go.WideShapes

theorem bulk_part {H : Type} {d : DataW H} {l : List (DataW H)} (h : d ∈ l) : Rows.uptoBulk d ≤ Rows.uptoBulkAll l := by
  induction l with
  | nil => cases h
  | cons x r ih =>
    simp only [Rows.uptoBulkAll]
    cases List.mem_cons.1 h with
    | inl e => subst e; omega
    | inr e => have := ih e; omega
theorem bulk_one {H : Type} (d : DataW H) : 1 ≤ Rows.uptoBulk d := by
  cases d with
  | lit l => cases l <;> simp [Rows.uptoBulk]
  | nil => simp [Rows.uptoBulk]
  | ptr d => simp [Rows.uptoBulk]
  | slice elems spare => simp [Rows.uptoBulk]
  | agg parts => simp [Rows.uptoBulk]
  | iface t d => simp [Rows.uptoBulk]
  | map entries => simp [Rows.uptoBulk]
  | held h => simp [Rows.uptoBulk]
theorem bulk_length {H : Type} (l : List (DataW H)) : l.length ≤ Rows.uptoBulkAll l := by
  induction l with
  | nil => simp [Rows.uptoBulkAll]
  | cons x r ih => have := bulk_one x; simp only [Rows.uptoBulkAll, List.length_cons]; omega
theorem bulk_string {H : Type} (s : ByteArray) : Rows.uptoBulk (DataW.lit (H := H) (.string s.data.toList)) = s.data.toList.length + 1 := by simp [Rows.uptoBulk]

theorem bytes_eta (s : ByteArray) : (⟨s.data.toList.toArray⟩ : ByteArray) = s := by cases s; simp

theorem Tryz.cellsStr : Tryz.prog.cellsOf 9 = 1 := by kernel_rfl

section
variable {H : Type} {enc : TypeId × Value → H} {w : World} {held : Bool}
/-- a slice of strings that came in -/
theorem strs_arg {r : Reach} {b0 : Nat} {v : Value} {d : DataW H} {p : List MemPlace} (hv : Value.okWide Tryz.prog w r b0 35 v) (h : DataW.Trod enc Tryz.prog w 0 (fun _ => true) held 35 v d p) :
    ∃ l : List Str, Strs w w.heap.size l v ∧ l.length ≤ Rows.uptoBulk d ∧ ∀ x ∈ l, x.length ≤ Rows.uptoBulk d := by
  obtain ⟨a0, len0, cap0, rfl⟩ := okWide_slice Tryz.underlying35 hv
  obtain ⟨fuel, hf⟩ := h
  rcases open_strings Tryz.underlying35 Tryz.underlying9 Tryz.cellsStr hf with ⟨hcs, hx⟩ | ⟨a, len, cap, ss, hcs, _, hl, hm, hz, hx, hcell, hsz⟩
  · simp [Value.cells] at hcs
    obtain ⟨rfl, rfl, rfl⟩ := hcs
    exact ⟨[], ⟨none, 0, rfl, Nat.le_refl _, by unfold maxLen; omega, fun h => absurd rfl h⟩, by simp, fun x hx => by cases hx⟩
  · simp [Value.cells] at hcs
    obtain ⟨rfl, rfl, rfl⟩ := hcs
    simp only [if_true] at hz
    simp only [Prod.mk.injEq] at hx
    obtain ⟨rfl, -⟩ := hx
    have hlen : ((ss.take len0).map fun s => s.data.toList).length = len0 := by simp; omega
    refine ⟨(ss.take len0).map fun s => s.data.toList, ⟨some a, cap0, by rw [hlen], by rw [hlen]; exact hl, hm, fun hne => ?_⟩, ?_, ?_⟩
    · have h0 : 0 < ((ss.take len0).map fun s => s.data.toList).length := List.length_pos_iff.2 hne
      rw [hlen] at h0
      have z1 := hcell 0 (by omega)
      obtain ⟨b, off, spot⟩ := a
      have hsp : spot = none := by simpa [Addr.add] using World.cell?_spot z1
      subst hsp
      have hblt := World.block_lt_of_cell? _ _ z1
      rw [add_plain] at hblt
      refine ⟨b, off, rfl, hblt, by simp at hblt; omega, fun j s hj => ?_⟩
      rw [List.getElem?_map, Option.map_eq_some_iff] at hj
      obtain ⟨s0, hj, rfl⟩ := hj
      obtain ⟨hj1, hj2⟩ := List.getElem?_eq_some_iff.1 hj
      rw [List.getElem_take] at hj2
      have hj3 : j < ss.length := by simp at hj1; omega
      have := hcell j hj3
      rw [add_plain] at this
      rw [this, bytes_eta, List.getD, List.getElem?_eq_getElem hj3, Option.getD_some, hj2]
    · rw [hlen]
      simp only [Rows.uptoBulk]
      have h1 := bulk_length (strs (H := H) (ss.take len0))
      have h2 : (strs (H := H) (ss.take len0)).length = len0 := by simp [strs]; omega
      omega
    · intro x hx
      obtain ⟨s, hs, rfl⟩ := List.mem_map.1 hx
      have h1 : DataW.lit (H := H) (.string s.data.toList) ∈ strs (H := H) (ss.take len0) := List.mem_map.2 ⟨s, hs, rfl⟩
      have h2 := bulk_part h1
      rw [bulk_string] at h2
      simp only [Rows.uptoBulk]
      omega
end
end Go.Proofs.YtjboibbgigkhkaaGreatDoor

