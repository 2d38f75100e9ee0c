/-
  Arguments that came in: rows of two words.
-/
import Derived.Test.YtnpifkebdkjpjaaOpen3
namespace Go.Proofs.Ytnpifkebdkjpjaa
open Go.ChangeShapes Go.WideShapes Go.ChangeAt Go.RowKit Go.Deep Go.Joins
set_option linter.unusedVariables false
set_option linter.unusedSimpArgs false
/-- Two words. -/
structure Pr where
  a : Int
  b : Int
def Pr.cells (k : Pr) : List Value := [.int .u16 k.a, .int .u16 k.b]
structure Pr.ok (k : Pr) : Prop where
  a0 : 0 ≤ k.a
  a1 : k.a < 65536
  b0 : 0 ≤ k.b
  b1 : k.b < 65536
theorem wf_u16 {x : Int} (h : (Lit.int .u16 x).wf = true) : 0 ≤ x ∧ x < 65536 := by
  simp [Lit.wf, IntKind.min, IntKind.max, IntKind.signed, IntKind.bits] at h; omega
section
variable {H : Type} {enc : TypeId × Value → H} {W : World} {base : Nat} {sp : Nat → Bool} {held : Bool} {r : Reach} {b0 : Nat} {v : Value} {d : DataW H} {p : List MemPlace}
set_option maxRecDepth 100000 in
theorem open_pair {n : Nat} {cs : List Value} {x : DataW H × List MemPlace} (h : DataW.trod enc Try.prog W base sp held n 70 cs = some x) : ∃ k : Pr, cs = k.cells ∧ k.ok := by
  obtain ⟨xs, m, _, _, hl, hlen, hg⟩ := DataW.trod_array Try.underlying70 h
  rw [show Try.prog.cellsOf 70 = 2 by kernel_rfl] at hl
  rw [show Try.prog.cellsOf 69 = 1 by kernel_rfl] at hg
  match cs, hl with
  | [c0, c1], _ =>
    have h0 := hg 0 (by omega)
    have h1 := hg 1 (by omega)
    rw [List.getElem?_eq_getElem (by omega)] at h0 h1
    simp at h0 h1
    obtain ⟨x0, g0, _, w0⟩ := DataW.trod_int Try.underlying69 h0
    obtain ⟨x1, g1, _, w1⟩ := DataW.trod_int Try.underlying69 h1
    simp at g0 g1
    subst g0 g1
    obtain ⟨p0, p1⟩ := wf_u16 w0
    obtain ⟨p2, p3⟩ := wf_u16 w1
    exact ⟨⟨x0, x1⟩, rfl, p0, p1, p2, p3⟩
set_option maxRecDepth 100000 in
theorem in_pairs (hv : Value.okWide Try.prog W r b0 61 v) (h : DataW.Trod enc Try.prog W base sp held 61 v d p) : ∃ A n c, ∃ l : List Pr, v = .slice A n c ∧ (∀ m ∈ l, Pr.ok m) ∧ Rd W 2 A n c (l.flatMap Pr.cells) := by
  obtain ⟨a2, len2, cap2, rfl⟩ := okWide_slice Try.underlying61 hv
  obtain ⟨l2, _, ho, hr2⟩ := open_rd Pr.cells Pr.ok 2 Try.underlying61 (by kernel_rfl) (fun _ => rfl) (fun m u hu => by simp [Pr.cells] at hu; rcases hu with rfl | rfl <;> rfl) (fun _ _ _ => open_pair) h
  exact ⟨a2, len2, cap2, l2, rfl, ho, hr2⟩
end
/-- Two words of a row that is read. -/
theorem pairs_at {w : World} {A : Option Addr} {n c : Nat} {l : List Pr} (h : Rd w 2 A n c (l.flatMap Pr.cells)) {k : Nat} (hk : k < n) : ∃ b o, ∃ hl : k < l.length, A = some ⟨b, o, none⟩ ∧ w.cell? ⟨b, o + k * 2, none⟩ = some (.int .u16 l[k].a) ∧ w.cell? ⟨b, o + (k * 2 + 1), none⟩ = some (.int .u16 l[k].b) := by
  have hfl : ∀ l : List Pr, (l.flatMap Pr.cells).length = l.length * 2 := fun l => by
    induction l with
    | nil => rfl
    | cons a l ih => rw [List.flatMap_cons, List.length_append, ih, List.length_cons]; simp [Pr.cells]; omega
  have hn : l.length = n := by have := h.1; rw [hfl] at this; omega
  have hkl : k < l.length := by omega
  have hget : ∀ j, j < 2 → (l.flatMap Pr.cells)[k * 2 + j]? = (l[k].cells)[j]? := fun j hj => by
    have e : l.flatMap Pr.cells = (l.take k).flatMap Pr.cells ++ (l[k].cells ++ (l.drop (k + 1)).flatMap Pr.cells) := by
      conv => lhs; rw [← List.take_append_drop k l, List.drop_eq_getElem_cons hkl]
      rw [List.flatMap_append, List.flatMap_cons]
    have e2 : ((l.take k).flatMap Pr.cells).length = k * 2 := by rw [hfl, List.length_take, Nat.min_eq_left (by omega)]
    rw [e, List.getElem?_append_right (by omega), e2, show k * 2 + j - k * 2 = j by omega, List.getElem?_append_left (by simpa [Pr.cells] using hj)]
  obtain ⟨b, o, rfl, hb, hc⟩ := Rd.at_ h (k := k * 2) (by rw [hfl]; omega)
  refine ⟨b, o, hkl, rfl, hc (k * 2) _ ((hget 0 (by omega)).trans rfl), hc (k * 2 + 1) _ ((hget 1 (by omega)).trans rfl)⟩
end Go.Proofs.Ytnpifkebdkjpjaa
