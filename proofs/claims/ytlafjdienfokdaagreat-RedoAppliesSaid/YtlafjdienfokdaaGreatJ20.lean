/-
  The walk of state.Get.
-/
import Derived.Test.YtlafjdienfokdaaGreatJ19
/- StQ: The walk of state.Get. -/
namespace Go.Proofs.YtlafjdienfokdaaGreat
open Go.RowKit
set_option linter.unusedVariables false
set_option linter.unusedSimpArgs false
theorem gK_le (b : List UInt8) : gK b ≤ b.length := by
  unfold gK gNo
  split
  · exact Nat.zero_le _
  · split
    · exact Nat.zero_le _
    · split
      · simp
      · exact Nat.zero_le _
theorem gD_ok (b : List UInt8) : ∀ d ∈ gD b, d.s.length ≤ 32 ∧ i64R d.h := by
  have hr : ∀ ds, rightN ds = true → ∀ d ∈ ds, d.s.length ≤ 32 ∧ i64R d.h := fun ds h d hd => by
    obtain ⟨i, hi, rfl⟩ := List.getElem_of_mem hd
    have h1 := (rightN_iff.1 h) i hi
    have h2 := h1.len
    have h3 := h1.heap
    exact ⟨h2.2, by unfold i64R; omega⟩
  have hn : ∀ d ∈ ([] : List Nd), d.s.length ≤ 32 ∧ i64R d.h := fun d hd => by cases hd
  unfold gD gNo
  split
  · exact hn
  · split
    · exact hn
    · split
      · rename_i h; exact hr _ h
      · exact hn
theorem getML_ok (k : Int) (l : List UInt8) : ∀ m ∈ getML k l, m.ok := by
  unfold getML
  split
  · exact parseN_ok _ _
  · intro m hm; cases hm
theorem getML_le (k : Int) (l : List UInt8) : (getML k l).length ≤ l.length := by
  unfold getML
  split
  · rename_i h
    unfold getMok at h
    simp only [Bool.and_eq_true, decide_eq_true_iff] at h
    rw [parseN_length]
    omega
  · exact Nat.zero_le _
theorem getMN_le (k : Int) (l : List UInt8) : getMN k l ≤ l.length := by
  unfold getMN
  split
  · rename_i h
    unfold getMok at h
    simp only [Bool.and_eq_true, decide_eq_true_iff] at h
    omega
  · exact Nat.zero_le _
theorem gD_len (b : List UInt8) : (gD b).length ≤ 255 := by
  unfold gD gNo
  split
  · exact Nat.zero_le _
  · split
    · exact Nat.zero_le _
    · split
      · rename_i ds r h _
        have h1 := (getN_left _ _ _ _ h).2
        have h2 := take1_lt b
        show ds.length ≤ 255
        omega
      · exact Nat.zero_le _
end Go.Proofs.YtlafjdienfokdaaGreat
