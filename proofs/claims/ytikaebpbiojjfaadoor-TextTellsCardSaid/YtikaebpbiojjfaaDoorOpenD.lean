/-
  Rows of deeds that came in.
-/
import Derived.Test.YtikaebpbiojjfaaDoorOpen
import Derived.Lib.SmallJoins
namespace Go.Proofs.YtikaebpbiojjfaaDoor
open Go.ChangeShapes Go.WideShapes Go.ChangeAt Go.RowKit Go.Deep Go.Joins
set_option linter.unusedVariables false
set_option linter.unusedSimpArgs false
section
variable {H : Type} {enc : TypeId × Value → H} {W : World} {base : Nat} {sp : Nat → Bool} {held : Bool}
/-- A slice that came in: each element's cells are as 'f' lays them. -/
theorem open_rd {α : Type} (f : α → List Value) (ok : α → Prop) (size : Nat) {T E : Nat} {a : Option Addr} {len cap : Nat} {d : DataW H} {p : List MemPlace} (hT : Tryd.prog.underlying T = some (.slice E)) (hC : Tryd.prog.cellsOf E = size)
    (hf : ∀ m, (f m).length = size) (h1 : ∀ m, ∀ u ∈ f m, u.oneCell' = true)
    (he : ∀ n cs x, DataW.trod enc Tryd.prog W base sp held n E cs = some x → ∃ m, cs = f m ∧ ok m)
    (h : DataW.Trod enc Tryd.prog W base sp held T (.slice a len cap) d p) : ∃ l : List α, l.length = len ∧ (∀ m ∈ l, ok m) ∧ Rd W size a len cap (l.flatMap f) := by
  obtain ⟨fuel, hfu⟩ := h
  rcases open_slice hT hfu with ⟨hcs, _⟩ | ⟨x, l, c, m, n, D, Pl, hcs, _, hl, hm, hmm, _, hi⟩
  · simp [Value.cells] at hcs
    obtain ⟨rfl, rfl, rfl⟩ := hcs
    exact ⟨[], rfl, fun _ h => (by cases h), Rd.nilR _ _⟩
  · simp [Value.cells] at hcs
    obtain ⟨rfl, rfl, rfl⟩ := hcs
    have key : ∀ k, k ≤ len → ∃ l : List α, l.length = k ∧ (∀ m ∈ l, ok m) ∧ (l.flatMap f).length = k * size ∧ ∀ (j : Nat) u, (l.flatMap f)[j]? = some u → W.cell? (x.add j) = some u := by
      intro k
      induction k with
      | zero => intro _; exact ⟨[], rfl, fun _ h => (by cases h), by simp, fun j u hu => by simp at hu⟩
      | succ k ih =>
        intro hk
        obtain ⟨l, e1, e2, e3, e4⟩ := ih (by omega)
        obtain ⟨cs', c1, c2⟩ := hi k (by rw [hmm]; split <;> omega)
        obtain ⟨m, rfl, hok⟩ := he _ _ _ c2
        rw [hC] at c1
        obtain ⟨_, hcl, hat⟩ := World.cells?_some c1
        refine ⟨l ++ [m], by simp [e1], fun q hq => ?_, ?_, ?_⟩
        · rcases List.mem_append.1 hq with hq | hq
          · exact e2 _ hq
          · rw [List.mem_singleton.1 hq]; exact hok
        · rw [List.flatMap_append, List.length_append, e3]; simp [hf, Nat.add_mul]
        · intro j u hu
          rw [List.flatMap_append] at hu
          rcases Nat.lt_or_ge j (k * size) with hj | hj
          · rw [List.getElem?_append_left (by omega)] at hu
            exact e4 j u hu
          · rw [List.getElem?_append_right (by omega), e3] at hu
            simp only [List.flatMap_cons, List.flatMap_nil, List.append_nil] at hu
            have hlt := (List.getElem?_eq_some_iff.1 hu).1
            have := hat (j - k * size) (by have := hf m; omega)
            rw [hu, Go.Deep.add_add, show k * size + (j - k * size) = j by omega] at this
            exact this
    obtain ⟨l, e1, e2, e3, e4⟩ := key len (Nat.le_refl _)
    refine ⟨l, e1, e2, e3, hl, hm, fun h => (by cases h), fun a ha j u hu => ?_, fun u hu => ?_⟩
    · cases ha; exact e4 j u hu
    · obtain ⟨m, _, hm⟩ := List.mem_flatMap.1 hu
      exact h1 m u hm
theorem slice_cell {T E n : Nat} {u : Value} {x : DataW H × List MemPlace} (hT : Tryd.prog.underlying T = some (.slice E)) (h : DataW.trod enc Tryd.prog W base sp held n T [u] = some x) : ∃ A m cp, u = .slice A m cp := by
  rcases DataW.trod_slice hT h with ⟨e, _⟩ | ⟨a, len, cap, elems, rest, k, _, e, _⟩
  · exact ⟨none, 0, 0, by simpa using e⟩
  · exact ⟨some a, len, cap, by simpa using e⟩
/-- A row of numbers that came in. -/
theorem open_nums {n : Nat} {u : Value} {x : DataW H × List MemPlace} (h : DataW.trod enc Tryd.prog W base sp held n 30 [u] = some x) : ∃ A m cp l, u = .slice A m cp ∧ RdI W A m cp l ∧ ∀ x ∈ l, i64R x := by
  rcases open_ints Tryd.underlying30 Tryd.underlying3 (by kernel_rfl) h with ⟨e, _⟩ | ⟨a, len, cap, zs, e, _, hl, hm, hz, _, hcell, hwz⟩
  · simp at e
    exact ⟨none, 0, 0, [], e, Rd.nilR _ _, fun x hx => by cases hx⟩
  · simp at e
    have hlz : len ≤ zs.length := by rw [hz]; split <;> omega
    have hone : ∀ (l : List Int), ∀ u ∈ ivs l, u.oneCell' = true := fun l u hu => by
      obtain ⟨z, _, rfl⟩ := List.mem_map.1 hu
      rfl
    refine ⟨some a, len, cap, zs.take len, e, ⟨?_, hl, hm, fun h => (by cases h), ?_, hone _⟩, ?_⟩
    · rw [ivs_length, List.length_take]; omega
    · intro a' ha j u hu
      cases ha
      obtain ⟨z, hz1, rfl⟩ : ∃ z, (zs.take len)[j]? = some z ∧ Value.int .i64 z = u := by
        simp only [ivs, List.getElem?_map] at hu
        cases hq : (zs.take len)[j]? with
        | none => rw [hq] at hu; cases hu
        | some z => rw [hq] at hu; exact ⟨z, rfl, by simpa using hu⟩
      rw [List.getElem?_take] at hz1
      split at hz1
      · obtain ⟨hj, hq⟩ := List.getElem?_eq_some_iff.1 hz1
        have h1 := hcell j hj
        rw [List.getD_eq_getElem?_getD, hz1] at h1
        rw [h1]; rfl
      · cases hz1
    · intro y hy
      exact wf_i64 (hwz y (List.mem_of_mem_take hy))
theorem trod_struct7 {t : TypeId} {f0 f1 f2 f3 f4 f5 f6 : Field} {fuel : Nat} {cs : List Value} {x : DataW H × List MemPlace} (ht : Tryd.prog.underlying t = some (.struct #[f0, f1, f2, f3, f4, f5, f6])) (h : DataW.trod enc Tryd.prog W base sp held fuel t cs = some x) :
    ∃ y0 y1 y2 y3 y4 y5 y6 n, cs.length = Tryd.prog.cellsOf t ∧ DataW.trod enc Tryd.prog W base sp held n f0.type ((cs.drop f0.offset).take (Tryd.prog.cellsOf f0.type)) = some y0 ∧ DataW.trod enc Tryd.prog W base sp held n f1.type ((cs.drop f1.offset).take (Tryd.prog.cellsOf f1.type)) = some y1 ∧ DataW.trod enc Tryd.prog W base sp held n f2.type ((cs.drop f2.offset).take (Tryd.prog.cellsOf f2.type)) = some y2 ∧ DataW.trod enc Tryd.prog W base sp held n f3.type ((cs.drop f3.offset).take (Tryd.prog.cellsOf f3.type)) = some y3 ∧ DataW.trod enc Tryd.prog W base sp held n f4.type ((cs.drop f4.offset).take (Tryd.prog.cellsOf f4.type)) = some y4 ∧ DataW.trod enc Tryd.prog W base sp held n f5.type ((cs.drop f5.offset).take (Tryd.prog.cellsOf f5.type)) = some y5 ∧ DataW.trod enc Tryd.prog W base sp held n f6.type ((cs.drop f6.offset).take (Tryd.prog.cellsOf f6.type)) = some y6 := by
  obtain ⟨xs, n, _, rfl, hl, hlen, hf⟩ := DataW.trod_struct ht h
  match xs, hlen with
  | [y0, y1, y2, y3, y4, y5, y6], _ => exact ⟨y0, y1, y2, y3, y4, y5, y6, n, hl, by simpa using hf 0 f0 rfl, by simpa using hf 1 f1 rfl, by simpa using hf 2 f2 rfl, by simpa using hf 3 f3 rfl, by simpa using hf 4 f4 rfl, by simpa using hf 5 f5 rfl, by simpa using hf 6 f6 rfl⟩
set_option maxRecDepth 100000 in
theorem open_deed {n : Nat} {cs : List Value} {x : DataW H × List MemPlace} (h : DataW.trod enc Tryd.prog W base sp held n 34 cs = some x) : ∃ m : Dm, cs = m.cells ∧ (m.d.wf ∧ RdB W m.A m.m m.c m.d.bs ∧ RdI W m.A2 m.m2 m.c2 m.d.ks) := by
  obtain ⟨y0, y1, y2, y3, y4, y5, y6, k, hl, h0, h1, h2, h3, h4, h5, h6⟩ := trod_struct7 Tryd.underlying34 h
  rw [show Tryd.prog.cellsOf 34 = 9 by kernel_rfl] at hl
  match cs, hl with
  | [c0, c1, c2, c3, c4, c5, c6, c7, c8], _ =>
    obtain ⟨x0, g0, _, w0⟩ := DataW.trod_int Tryd.underlying3 h0
    obtain ⟨x1, g1, _, w1⟩ := DataW.trod_int Tryd.underlying3 h1
    obtain ⟨x2, g2, _, w2⟩ := DataW.trod_int Tryd.underlying3 h2
    obtain ⟨x3, g3, _, w3⟩ := DataW.trod_int Tryd.underlying3 h3
    obtain ⟨s4, g4, _, _⟩ := DataW.trod_string Tryd.underlying9 h4
    rw [show Tryd.prog.cellsOf 3 = 1 by kernel_rfl] at g0 g1 g2 g3
    rw [show Tryd.prog.cellsOf 9 = 1 by kernel_rfl] at g4
    rw [show Tryd.prog.cellsOf 29 = 1 by kernel_rfl] at h5
    rw [show Tryd.prog.cellsOf 32 = 3 by kernel_rfl] at h6
    simp at g0 g1 g2 g3 g4 h5 h6
    obtain ⟨A5, m5, d5, rfl⟩ := slice_cell Tryd.underlying29 h5
    obtain ⟨bs, hb⟩ := open_bytes Tryd.underlying29 Tryd.underlying5 (by kernel_rfl) ⟨k, h5⟩
    obtain ⟨z0, z1, z2, j, _, hl1, k0, k1, k2⟩ := trod_struct3 Tryd.underlying32 h6
    obtain ⟨x7, g7, _, w7⟩ := DataW.trod_int Tryd.underlying3 k1
    obtain ⟨x8, g8, _, w8⟩ := DataW.trod_int Tryd.underlying3 k2
    rw [show Tryd.prog.cellsOf 30 = 1 by kernel_rfl] at k0
    rw [show Tryd.prog.cellsOf 3 = 1 by kernel_rfl] at g7 g8
    simp at g7 g8 k0
    obtain ⟨A6, m6, d6, ks, rfl, hr, hw⟩ := open_nums k0
    subst g0 g1 g2 g3 g4 g7 g8
    exact ⟨⟨⟨x0, x1, x2, x3, s4.data.toList, bs, ks, x7, x8⟩, A5, m5, d5, A6, m6, d6⟩, rfl, ⟨wf_i64 w0, wf_i64 w1, wf_i64 w2, wf_i64 w3, hw, wf_i64 w7, wf_i64 w8⟩, hb, hr⟩
variable {r : Reach} {b0 : Nat} {d : DataW H} {p : List MemPlace} {v : Value}
set_option maxRecDepth 100000 in
theorem in_deeds (hv : Value.okWide Tryd.prog W r b0 22 v) (h : DataW.Trod enc Tryd.prog W base sp held 22 v d p) : ∃ A n c, ∃ l : List Dm, v = .slice A n c ∧ (∀ m ∈ l, m.d.wf) ∧ RdD W A n c l := by
  obtain ⟨a2, len2, cap2, rfl⟩ := okWide_slice Tryd.underlying22 hv
  obtain ⟨l2, _, ho, hr2⟩ := open_rd Dm.cells (fun m => m.d.wf ∧ RdB W m.A m.m m.c m.d.bs ∧ RdI W m.A2 m.m2 m.c2 m.d.ks) 9 Tryd.underlying22 (by kernel_rfl) (fun _ => rfl) (fun m u hu => by simp [Dm.cells] at hu; rcases hu with rfl | rfl | rfl | rfl | rfl | rfl | rfl | rfl | rfl <;> rfl) (fun _ _ _ => open_deed) h
  exact ⟨a2, len2, cap2, l2, rfl, fun m hm => (ho m hm).1, ⟨hr2, fun m hm => (ho m hm).2.1, fun m hm => (ho m hm).2.2⟩⟩
end
end Go.Proofs.YtikaebpbiojjfaaDoor
