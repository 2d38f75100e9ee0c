/-
  Entries as the code holds them, and what their octets are.
-/
import Derived.Test.YtnpifkebdkjpjaaPackB
import Derived.Test.YtnpifkebdkjpjaaKeyB
namespace Go.Proofs.Ytnpifkebdkjpjaa
open Go.RowKit
/-- A page's entry: heap, page, slot, generation, sum. -/
structure Mp where
  h : Int
  p : Int
  s : Int
  g : Int
  u : Int
def Mp.cells (m : Mp) : List Value := [.int .i64 m.h, .int .i64 m.p, .int .i64 m.s, .int .i64 m.g, .int .u32 m.u]
def Mp.num (m : Mp) : Int := keyNum m.h m.p
def i64R (x : Int) : Prop := -9223372036854775808 ≤ x ∧ x ≤ 9223372036854775807
structure Mp.ok (m : Mp) : Prop where
  u : 0 ≤ m.u ∧ m.u < 4294967296
  h : i64R m.h
  p : i64R m.p
  s : i64R m.s
  g : i64R m.g
def mcs (l : List Mp) : List Value := l.flatMap Mp.cells
theorem mcs_length (l : List Mp) : (mcs l).length = l.length * 5 := by
  induction l with
  | nil => rfl
  | cons a l ih => simp only [mcs, List.flatMap_cons, List.length_append, List.length_cons] at *; rw [ih]; simp [Mp.cells]; omega
theorem mcs_append (a b : List Mp) : mcs (a ++ b) = mcs a ++ mcs b := by simp [mcs, List.flatMap_append]
theorem mcs_one (l : List Mp) : ∀ u ∈ mcs l, u.oneCell' = true := by
  intro u hu
  obtain ⟨m, _, hm⟩ := List.mem_flatMap.1 hu
  simp [Mp.cells] at hm
  rcases hm with rfl | rfl | rfl | rfl | rfl <;> rfl
theorem mcs_get (l : List Mp) : ∀ (k j : Nat) (hk : k < l.length), j < 5 → (mcs l)[k * 5 + j]? = l[k].cells[j]? := by
  induction l with
  | nil => intro k j hk; cases hk
  | cons a l ih =>
    intro k j hk hj
    have e : mcs (a :: l) = a.cells ++ mcs l := rfl
    rw [e]
    cases k with
    | zero => rw [List.getElem?_append_left (by simp [Mp.cells]; omega)]; simp
    | succ k =>
      rw [List.getElem?_append_right (by simp [Mp.cells]; omega), show (k + 1) * 5 + j - a.cells.length = k * 5 + j by simp [Mp.cells]; omega]
      exact ih k j (by simpa using hk) hj
abbrev RdM (w : World) (A : Option Addr) (n c : Nat) (l : List Mp) : Prop := Rd w 5 A n c (mcs l)
theorem RdM.length {w : World} {A : Option Addr} {n c : Nat} {l : List Mp} (h : RdM w A n c l) : l.length = n := by
  have := h.len; rw [mcs_length] at this; omega
theorem RdM.at_ {w : World} {A : Option Addr} {n c : Nat} {l : List Mp} (h : RdM w A n c l) {k : Nat} (hk : k < n) :
    ∃ b o, A = some ⟨b, o, none⟩ ∧ b < w.heap.size ∧ ∀ i (hi : i < l.length), w.cell? ⟨b, o + i * 5, none⟩ = some (.int .i64 l[i].h) ∧ w.cell? ⟨b, o + i * 5 + 1, none⟩ = some (.int .i64 l[i].p) ∧
      w.cell? ⟨b, o + i * 5 + 2, none⟩ = some (.int .i64 l[i].s) ∧ w.cell? ⟨b, o + i * 5 + 3, none⟩ = some (.int .i64 l[i].g) ∧ w.cell? ⟨b, o + i * 5 + 4, none⟩ = some (.int .u32 l[i].u) := by
  have hl := RdM.length h
  obtain ⟨b, o, hA, hb, hc⟩ := Rd.at_ h (k := k) (by rw [mcs_length]; omega)
  refine ⟨b, o, hA, hb, fun i hi => ?_⟩
  have q := fun j (hj : j < 5) => hc (i * 5 + j)
  refine ⟨hc (i * 5 + 0) _ ?_, ?_, ?_, ?_, ?_⟩
  · rw [mcs_get l i 0 hi (by decide)]; rfl
  · rw [Nat.add_assoc]; exact hc _ _ (by rw [mcs_get l i 1 hi (by decide)]; rfl)
  · rw [Nat.add_assoc]; exact hc _ _ (by rw [mcs_get l i 2 hi (by decide)]; rfl)
  · rw [Nat.add_assoc]; exact hc _ _ (by rw [mcs_get l i 3 hi (by decide)]; rfl)
  · rw [Nat.add_assoc]; exact hc _ _ (by rw [mcs_get l i 4 hi (by decide)]; rfl)
theorem slMp : SlTy Try.prog 22 85 5 40 (.agg #[.int .i64 0, .int .i64 0, .int .i64 0, .int .i64 0, .int .u32 0]) := ⟨by kernel_rfl, by kernel_rfl, rfl, by decide⟩
/-- An entry's octets. -/
def Mp.octets (m : Mp) : List UInt8 := layB m.num 4 ++ layB m.s 4 ++ layB m.g 6 ++ layB m.u 4
theorem Mp.octets_length (m : Mp) : m.octets.length = 18 := by simp [Mp.octets, layB_length]
/-- A list's octets. -/
def putM (l : List Mp) : List UInt8 := layB l.length 4 ++ l.flatMap Mp.octets
theorem fm_octets_length (l : List Mp) : (l.flatMap Mp.octets).length = l.length * 18 := by
  induction l with
  | nil => rfl
  | cons a l ih => simp only [List.flatMap_cons, List.length_append, Mp.octets_length, ih, List.length_cons]; omega
theorem putM_length (l : List Mp) : (putM l).length = 4 + l.length * 18 := by
  unfold putM; rw [List.length_append, layB_length, fm_octets_length]
theorem fm_take_succ (l : List Mp) (j : Nat) (hj : j < l.length) : (l.take (j + 1)).flatMap Mp.octets = (l.take j).flatMap Mp.octets ++ l[j].octets := by
  rw [List.take_succ_eq_append_getElem hj, List.flatMap_append]; simp only [List.flatMap_cons, List.flatMap_nil, List.append_nil]
end Go.Proofs.Ytnpifkebdkjpjaa
