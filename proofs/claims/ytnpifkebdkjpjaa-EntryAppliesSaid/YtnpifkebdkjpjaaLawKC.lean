/-
  Plain: rows of pages that follow each other do not touch.
-/
import Derived.Test.YtnpifkebdkjpjaaRunA
namespace Go.Proofs.Ytnpifkebdkjpjaa
open Go.RowKit
set_option linter.unusedVariables false
theorem sorted_inj {s : List Ky} (hs : s.Pairwise (fun a b => kLt a b = true)) {i j : Nat} (hi : i < s.length) (hj : j < s.length) (h : s[i] = s[j]) : i = j := by
  have hp := List.pairwise_iff_getElem.1 hs
  rcases Nat.lt_trichotomy i j with e | e | e
  · have := hp i j hi hj e; rw [h] at this; exact absurd this (kLt_irrefl _)
  · exact e
  · have := hp j i hj hi e; rw [h] at this; exact absurd this (kLt_irrefl _)
/-- The page behind key i is there just where the next key is that page. -/
theorem succ_mem {s : List Ky} (hs : s.Pairwise (fun a b => kLt a b = true)) {i : Nat} (hi : i < s.length) (h : (⟨s[i].h, s[i].p + 1⟩ : Ky) ∈ s) : adj s (i + 1) := by
  obtain ⟨q, hq, e⟩ := List.getElem_of_mem h
  have h1 : adj s q := (adj_iff hs hq).2 (by
    have : (⟨s[q].h, s[q].p - 1⟩ : Ky) = s[i] := by rw [e]; exact Ky.ext2 rfl (by simp)
    rw [this]; exact List.getElem_mem hi)
  obtain ⟨h0, _, a1, a2⟩ := id h1
  have h2 : s[q - 1] = s[i] := by
    refine Ky.ext2 ?_ ?_
    · rw [a1, e]
    · have : s[q].p = s[i].p + 1 := by rw [e]
      omega
  have h3 := sorted_inj hs (by omega) hi h2
  rw [show i + 1 = q by omega]
  exact h1
structure RB (s : List Ky) (out : List Rn) : Prop where
  cov : ∀ r ∈ out, ∀ x : Int, 0 ≤ x → x < r.n → (⟨r.h, r.p + x⟩ : Ky) ∈ s
  fro : ∀ r ∈ out, (⟨r.h, r.p - 1⟩ : Ky) ∉ s
  beh : ∀ pre r, out = pre ++ [r] → ∀ q ∈ pre, (⟨q.h, q.p + q.n⟩ : Ky) ∉ s
theorem RB.yes {s : List Ky} {j : Nat} {out : List Rn} (h : RB s out) (hI : RInv s j out) (hj : j < s.length) (ha : adj s j) : RB s (bump out) := by
  obtain ⟨h0, _, a1, a2⟩ := ha
  obtain ⟨pre, r, rfl, e1, e2, e3, e4⟩ := hI.pos h0 (by omega)
  rw [bump_cat]
  refine ⟨fun x hx => ?_, fun x hx => ?_, fun pre' r' e q hq => ?_⟩
  · rcases List.mem_append.1 hx with hx | hx
    · exact h.cov x (List.mem_append_left _ hx)
    · obtain rfl := List.mem_singleton.1 hx
      intro y y0 y1
      by_cases hy : y < r.n
      · exact h.cov r (by simp) y y0 hy
      · have hy2 : y = r.n := by simp at y1; omega
        have : (⟨r.h, r.p + y⟩ : Ky) = s[j] := Ky.ext2 (by show r.h = _; rw [e1, a1]) (by show r.p + y = _; omega)
        show (⟨r.h, r.p + y⟩ : Ky) ∈ s
        rw [this]; exact List.getElem_mem hj
  · rcases List.mem_append.1 hx with hx | hx
    · exact h.fro x (List.mem_append_left _ hx)
    · obtain rfl := List.mem_singleton.1 hx
      exact h.fro r (by simp)
  · obtain ⟨rfl, _⟩ := List.append_inj' e rfl
    exact h.beh pre r rfl q hq
theorem RB.no {s : List Ky} (hs : s.Pairwise (fun a b => kLt a b = true)) {j : Nat} {out : List Rn} (h : RB s out) (hI : RInv s j out) (hj : j < s.length) (ha : ¬ adj s j) : RB s (out ++ [⟨s[j].h, s[j].p, 1⟩]) := by
  refine ⟨fun x hx => ?_, fun x hx => ?_, fun pre' r' e q hq => ?_⟩
  · rcases List.mem_append.1 hx with hx | hx
    · exact h.cov x hx
    · obtain rfl := List.mem_singleton.1 hx
      intro y y0 y1
      have : (⟨s[j].h, s[j].p + y⟩ : Ky) = s[j] := Ky.ext2 rfl (by show s[j].p + y = _; simp at y1; omega)
      show (⟨s[j].h, s[j].p + y⟩ : Ky) ∈ s
      rw [this]; exact List.getElem_mem hj
  · rcases List.mem_append.1 hx with hx | hx
    · exact h.fro x hx
    · obtain rfl := List.mem_singleton.1 hx
      exact fun hm => ha ((adj_iff hs hj).2 hm)
  · obtain ⟨rfl, _⟩ := List.append_inj' e rfl
    rcases Nat.eq_zero_or_pos j with h0 | h0
    · rw [hI.zero h0] at hq; cases hq
    · obtain ⟨pre, r, rfl, e1, e2, e3, e4⟩ := hI.pos h0 (by omega)
      rcases List.mem_append.1 hq with hq | hq
      · exact h.beh pre r rfl q hq
      · obtain rfl := List.mem_singleton.1 hq
        intro hm
        rw [e1, e2] at hm
        have := succ_mem hs (i := j - 1) (by omega) hm
        rw [show j - 1 + 1 = j by omega] at this
        exact ha this
theorem rb_all {s : List Ky} (hs : s.Pairwise (fun a b => kLt a b = true)) : ∀ j, j ≤ s.length → ∃ out, RInv s j out ∧ RB s out
  | 0, _ => ⟨[], RInv.start s, ⟨fun r hr => (by cases hr), fun r hr => (by cases hr), fun pre r e => by simp at e⟩⟩
  | j + 1, hj => by
    obtain ⟨out, hI, hB⟩ := rb_all hs j (by omega)
    by_cases ha : adj s j
    · exact ⟨_, hI.yes hj ha, hB.yes hI hj ha⟩
    · exact ⟨_, hI.no hj ha, hB.no hs hI hj ha⟩
theorem runs_apart {s : List Ky} (hs : s.Pairwise (fun a b => kLt a b = true)) {r : Rn} (hr : r ∈ runsK s) :
    (∀ x : Int, 0 ≤ x → x < r.n → (⟨r.h, r.p + x⟩ : Ky) ∈ s) ∧ (⟨r.h, r.p - 1⟩ : Ky) ∉ s ∧ (⟨r.h, r.p + r.n⟩ : Ky) ∉ s := by
  obtain ⟨out, hI, hB⟩ := rb_all hs s.length (Nat.le_refl _)
  have e := hI.is
  rw [List.take_length] at e
  rw [← e] at hr
  refine ⟨hB.cov r hr, hB.fro r hr, ?_⟩
  rcases Nat.eq_zero_or_pos s.length with h0 | h0
  · rw [hI.zero h0] at hr; cases hr
  · obtain ⟨pre, q, rfl, e1, e2, e3, e4⟩ := hI.pos h0 (Nat.le_refl _)
    rcases List.mem_append.1 hr with hr | hr
    · exact hB.beh pre q rfl r hr
    · obtain rfl := List.mem_singleton.1 hr
      intro hm
      rw [e1, e2] at hm
      obtain ⟨_, h2, _⟩ := succ_mem hs (i := s.length - 1) (by omega) hm
      omega
end Go.Proofs.Ytnpifkebdkjpjaa
