/-
  Keys, pairs of numbers and lists that came in.
-/
import Derived.Test.YtnpifkebdkjpjaaOpen2
namespace Go.Proofs.Ytnpifkebdkjpjaa
open Go.ChangeShapes Go.WideShapes Go.ChangeAt Go.RowKit Go.Deep Go.Joins
set_option linter.unusedVariables false
set_option linter.unusedSimpArgs false
section
variable {H : Type} {enc : TypeId × Value → H} {W : World} {base : Nat} {sp : Nat → Bool} {held : Bool} {r : Reach} {b0 : Nat} {d : DataW H} {p : List MemPlace} {v : Value}
theorem okWide_arr {P : Program} {t n e : Nat} (ht : P.underlying t = some (.array n e)) (h : Value.okWide P W r base t v) : ∃ cs, v = .agg cs ∧ cs.size = P.cellsOf t := by
  simp only [Value.okWide, ht] at h
  obtain ⟨cs, h1, h2, _⟩ := h
  exact ⟨cs, h1, h2⟩
set_option maxRecDepth 100000 in
theorem in_key (hv : Value.okWide Try.prog W r b0 35 v) (h : DataW.Trod enc Try.prog W base sp held 35 v d p) : ∃ x0 x1, v = kv x0 x1 ∧ i64R x0 ∧ i64R x1 := by
  obtain ⟨a0, c0, y0, y1, _, rfl, _, _, e0, e1⟩ := open_agg2 Try.underlying35 (by kernel_rfl) (by kernel_rfl) hv h
  obtain ⟨x0, g0, _, wx0⟩ := DataW.trod_int Try.underlying3 e0
  obtain ⟨x1, g1, _, wx1⟩ := DataW.trod_int Try.underlying3 e1
  simp at g0 g1
  subst g0 g1
  exact ⟨x0, x1, rfl, wf_i64 wx0, wf_i64 wx1⟩
set_option maxRecDepth 100000 in
theorem in_int (hv : Value.okWide Try.prog W r b0 3 v) (h : DataW.Trod enc Try.prog W base sp held 3 v d p) : ∃ x0, v = .int .i64 x0 ∧ i64R x0 := by
  obtain ⟨x, rfl, _, _, w⟩ := open_int Try.underlying3 hv h
  exact ⟨x, rfl, wf_i64 w⟩
set_option maxRecDepth 100000 in
theorem in_u8 (hv : Value.okWide Try.prog W r b0 5 v) (h : DataW.Trod enc Try.prog W base sp held 5 v d p) : ∃ x0, v = .int .u8 x0 ∧ 0 ≤ x0 ∧ x0 < 256 := by
  obtain ⟨x, rfl, _, _, w⟩ := open_int Try.underlying5 hv h
  exact ⟨x, rfl, wf_u8 w⟩
set_option maxRecDepth 100000 in
theorem in_bytes (hv : Value.okWide Try.prog W r b0 23 v) (h : DataW.Trod enc Try.prog W base sp held 23 v d p) : ∃ A n c l, v = .slice A n c ∧ RdB W A n c l := by
  obtain ⟨a2, len2, cap2, rfl⟩ := okWide_slice Try.underlying23 hv
  obtain ⟨l2, hr2⟩ := open_bytes Try.underlying23 Try.underlying5 (by kernel_rfl) h
  exact ⟨a2, len2, cap2, l2, rfl, hr2⟩
set_option maxRecDepth 100000 in
theorem in_mapped (hv : Value.okWide Try.prog W r b0 22 v) (h : DataW.Trod enc Try.prog W base sp held 22 v d p) : ∃ A n c, ∃ l : List Mp, v = .slice A n c ∧ (∀ m ∈ l, Mp.ok m) ∧ RdM W A n c l := by
  obtain ⟨a2, len2, cap2, rfl⟩ := okWide_slice Try.underlying22 hv
  obtain ⟨l2, _, ho, hr2⟩ := open_rd Mp.cells Mp.ok 5 Try.underlying22 (by kernel_rfl) (fun _ => rfl) (fun m u hu => by simp [Mp.cells] at hu; rcases hu with rfl | rfl | rfl | rfl | rfl <;> rfl) (fun _ _ _ => open_mapped) h
  exact ⟨a2, len2, cap2, l2, rfl, ho, hr2⟩
set_option maxRecDepth 100000 in
theorem in_keys (hv : Value.okWide Try.prog W r b0 42 v) (h : DataW.Trod enc Try.prog W base sp held 42 v d p) : ∃ A n c, ∃ l : List Ky, v = .slice A n c ∧ (∀ m ∈ l, Ky.ok m) ∧ Rd W 2 A n c (l.flatMap Ky.cells) := by
  obtain ⟨a2, len2, cap2, rfl⟩ := okWide_slice Try.underlying42 hv
  obtain ⟨l2, _, ho, hr2⟩ := open_rd Ky.cells Ky.ok 2 Try.underlying42 (by kernel_rfl) (fun _ => rfl) (fun m u hu => by simp [Ky.cells] at hu; rcases hu with rfl | rfl <;> rfl) (fun _ _ _ => open_key) h
  exact ⟨a2, len2, cap2, l2, rfl, ho, hr2⟩
set_option maxRecDepth 100000 in
theorem in_two (hv : Value.okWide Try.prog W r b0 39 v) (h : DataW.Trod enc Try.prog W base sp held 39 v d p) : ∃ x0 x1, v = .agg #[.int .i64 x0, .int .i64 x1] ∧ i64R x0 ∧ i64R x1 := by
  obtain ⟨cs, rfl, hsz⟩ := okWide_arr Try.underlying39 hv
  obtain ⟨fuel, hf⟩ := h
  obtain ⟨xs, n, _, _, _, hlen, hg⟩ := DataW.trod_array Try.underlying39 hf
  rw [show Try.prog.cellsOf 39 = 2 by kernel_rfl] at hsz
  rw [show Try.prog.cellsOf 3 = 1 by kernel_rfl] at hg
  obtain ⟨c0, c1, rfl⟩ := array2 hsz
  have h0 := hg 0 (by omega)
  have h1 := hg 1 (by omega)
  rw [List.getElem?_eq_getElem (by omega)] at h0 h1
  simp [Value.cells] at h0 h1
  obtain ⟨x0, g0, _, wx0⟩ := DataW.trod_int Try.underlying3 h0
  obtain ⟨x1, g1, _, wx1⟩ := DataW.trod_int Try.underlying3 h1
  simp at g0 g1
  subst g0 g1
  exact ⟨x0, x1, rfl, wf_i64 wx0, wf_i64 wx1⟩
end
end Go.Proofs.Ytnpifkebdkjpjaa
