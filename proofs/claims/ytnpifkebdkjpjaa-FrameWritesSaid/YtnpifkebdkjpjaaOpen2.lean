/-
  Slices of structs that came in.
-/
import Derived.Test.YtnpifkebdkjpjaaOpen
namespace Go.Proofs.Ytnpifkebdkjpjaa
open Go.ChangeShapes Go.WideShapes Go.ChangeAt Go.RowKit Go.Deep Go.Joins
set_option linter.unusedVariables false
set_option linter.unusedSimpArgs false
section
variable {H : Type} {enc : TypeId × Value → H} {W : World} {base : Nat} {sp : Nat → Bool} {held : Bool}
/-- A slice that came in: each element's cells are as 'f' lays them. -/
theorem open_rd {α : Type} (f : α → List Value) (ok : α → Prop) (size : Nat) {T E : Nat} {a : Option Addr} {len cap : Nat} {d : DataW H} {p : List MemPlace} (hT : Try.prog.underlying T = some (.slice E)) (hC : Try.prog.cellsOf E = size)
    (hf : ∀ m, (f m).length = size) (h1 : ∀ m, ∀ u ∈ f m, u.oneCell' = true)
    (he : ∀ n cs x, DataW.trod enc Try.prog W base sp held n E cs = some x → ∃ m, cs = f m ∧ ok m)
    (h : DataW.Trod enc Try.prog W base sp held T (.slice a len cap) d p) : ∃ l : List α, l.length = len ∧ (∀ m ∈ l, ok m) ∧ Rd W size a len cap (l.flatMap f) := by
  obtain ⟨fuel, hfu⟩ := h
  rcases open_slice hT hfu with ⟨hcs, _⟩ | ⟨x, l, c, m, n, D, Pl, hcs, _, hl, hm, hmm, _, hi⟩
  · simp [Value.cells] at hcs
    obtain ⟨rfl, rfl, rfl⟩ := hcs
    exact ⟨[], rfl, fun _ h => (by cases h), Rd.nilR _ _⟩
  · simp [Value.cells] at hcs
    obtain ⟨rfl, rfl, rfl⟩ := hcs
    have key : ∀ k, k ≤ len → ∃ l : List α, l.length = k ∧ (∀ m ∈ l, ok m) ∧ (l.flatMap f).length = k * size ∧ ∀ (j : Nat) u, (l.flatMap f)[j]? = some u → W.cell? (x.add j) = some u := by
      intro k
      induction k with
      | zero => intro _; exact ⟨[], rfl, fun _ h => (by cases h), by simp, fun j u hu => by simp at hu⟩
      | succ k ih =>
        intro hk
        obtain ⟨l, e1, e2, e3, e4⟩ := ih (by omega)
        obtain ⟨cs', c1, c2⟩ := hi k (by rw [hmm]; split <;> omega)
        obtain ⟨m, rfl, hok⟩ := he _ _ _ c2
        rw [hC] at c1
        obtain ⟨_, hcl, hat⟩ := World.cells?_some c1
        refine ⟨l ++ [m], by simp [e1], fun q hq => ?_, ?_, ?_⟩
        · rcases List.mem_append.1 hq with hq | hq
          · exact e2 _ hq
          · rw [List.mem_singleton.1 hq]; exact hok
        · rw [List.flatMap_append, List.length_append, e3]; simp [hf, Nat.add_mul]
        · intro j u hu
          rw [List.flatMap_append] at hu
          rcases Nat.lt_or_ge j (k * size) with hj | hj
          · rw [List.getElem?_append_left (by omega)] at hu
            exact e4 j u hu
          · rw [List.getElem?_append_right (by omega), e3] at hu
            simp only [List.flatMap_cons, List.flatMap_nil, List.append_nil] at hu
            have hlt := (List.getElem?_eq_some_iff.1 hu).1
            have := hat (j - k * size) (by have := hf m; omega)
            rw [hu, Go.Deep.add_add, show k * size + (j - k * size) = j by omega] at this
            exact this
    obtain ⟨l, e1, e2, e3, e4⟩ := key len (Nat.le_refl _)
    refine ⟨l, e1, e2, e3, hl, hm, fun h => (by cases h), fun a ha j u hu => ?_, fun u hu => ?_⟩
    · cases ha; exact e4 j u hu
    · obtain ⟨m, _, hm⟩ := List.mem_flatMap.1 hu
      exact h1 m u hm
/-- A key's two cells. -/
structure Ky where
  h : Int
  p : Int
def Ky.cells (k : Ky) : List Value := [.int .i64 k.h, .int .i64 k.p]
structure Ky.ok (k : Ky) : Prop where
  h : i64R k.h
  p : i64R k.p
set_option maxRecDepth 100000 in
theorem open_key {n : Nat} {cs : List Value} {x : DataW H × List MemPlace} (h : DataW.trod enc Try.prog W base sp held n 35 cs = some x) : ∃ k : Ky, cs = k.cells ∧ k.ok := by
  obtain ⟨y0, y1, m, _, hl, h0, h1⟩ := trod_struct2 Try.underlying35 h
  rw [show Try.prog.cellsOf 35 = 2 by kernel_rfl] at hl
  match cs, hl with
  | [c0, c1], _ =>
    obtain ⟨x0, g0, _, w0⟩ := DataW.trod_int Try.underlying3 h0
    obtain ⟨x1, g1, _, w1⟩ := DataW.trod_int Try.underlying3 h1
    rw [show Try.prog.cellsOf 3 = 1 by kernel_rfl] at g0 g1
    simp at g0 g1
    subst g0 g1
    exact ⟨⟨x0, x1⟩, rfl, wf_i64 w0, wf_i64 w1⟩
set_option maxRecDepth 100000 in
theorem open_mapped {n : Nat} {cs : List Value} {x : DataW H × List MemPlace} (h : DataW.trod enc Try.prog W base sp held n 85 cs = some x) : ∃ m : Mp, cs = m.cells ∧ m.ok := by
  obtain ⟨y0, y1, k, _, hl, h0, h1⟩ := trod_struct2 Try.underlying85 h
  rw [show Try.prog.cellsOf 85 = 5 by kernel_rfl] at hl
  match cs, hl with
  | [c0, c1, c2, c3, c4], _ =>
    obtain ⟨⟨u0, u1⟩, e0, k0⟩ := open_key h0
    rw [show Try.prog.cellsOf 35 = 2 by kernel_rfl] at e0
    rw [show Try.prog.cellsOf 83 = 3 by kernel_rfl] at h1
    obtain ⟨z0, z1, z2, j, _, hl1, h2, h3, h4⟩ := trod_struct3 Try.underlying83 h1
    obtain ⟨x2, g2, _, w2⟩ := DataW.trod_int Try.underlying3 h2
    obtain ⟨x3, g3, _, w3⟩ := DataW.trod_int Try.underlying3 h3
    obtain ⟨x4, g4, _, w4⟩ := DataW.trod_int Try.underlying36 h4
    rw [show Try.prog.cellsOf 3 = 1 by kernel_rfl] at g2 g3
    rw [show Try.prog.cellsOf 36 = 1 by kernel_rfl] at g4
    simp [Ky.cells] at e0 g2 g3 g4
    obtain ⟨rfl, rfl⟩ := e0
    subst g2 g3 g4
    exact ⟨⟨u0, u1, x2, x3, x4⟩, rfl, wf_u32 w4, k0.h, k0.p, wf_i64 w2, wf_i64 w3⟩
end
end Go.Proofs.Ytnpifkebdkjpjaa
