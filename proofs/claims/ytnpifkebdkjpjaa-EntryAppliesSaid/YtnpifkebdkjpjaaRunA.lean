/-
  Plain: rows of pages that follow each other.
-/
import Derived.Test.YtnpifkebdkjpjaaKey10C
namespace Go.Proofs.Ytnpifkebdkjpjaa
open Go.RowKit
set_option linter.unusedVariables false
structure Rn where
  h : Int
  p : Int
  n : Int
def Rn.cells (r : Rn) : List Value := [.int .i64 r.h, .int .i64 r.p, .int .i64 r.n]
def rcs (l : List Rn) : List Value := l.flatMap Rn.cells
theorem rcs_length (l : List Rn) : (rcs l).length = l.length * 3 := by
  induction l with
  | nil => rfl
  | cons a l ih => simp only [rcs, List.flatMap_cons, List.length_append, List.length_cons] at *; rw [ih]; simp [Rn.cells]; omega
theorem rcs_append (a b : List Rn) : rcs (a ++ b) = rcs a ++ rcs b := by simp [rcs, List.flatMap_append]
theorem rcs_one (l : List Rn) : ∀ u ∈ rcs l, u.oneCell' = true := by
  intro u hu
  obtain ⟨m, _, hm⟩ := List.mem_flatMap.1 hu
  simp [Rn.cells] at hm
  rcases hm with rfl | rfl | rfl <;> rfl
theorem rcs_get (l : List Rn) : ∀ (k j : Nat) (hk : k < l.length), j < 3 → (rcs l)[k * 3 + j]? = l[k].cells[j]? := by
  induction l with
  | nil => intro k j hk; cases hk
  | cons a l ih =>
    intro k j hk hj
    have e : rcs (a :: l) = a.cells ++ rcs l := rfl
    rw [e]
    cases k with
    | zero => rw [List.getElem?_append_left (by simp [Rn.cells]; omega)]; simp
    | succ k =>
      rw [List.getElem?_append_right (by simp [Rn.cells]; omega), show (k + 1) * 3 + j - a.cells.length = k * 3 + j by simp [Rn.cells]; omega]
      exact ih k j (by simpa using hk) hj
abbrev RdR (w : World) (A : Option Addr) (n c : Nat) (l : List Rn) : Prop := Rd w 3 A n c (rcs l)
theorem RdR.length {w : World} {A : Option Addr} {n c : Nat} {l : List Rn} (h : RdR w A n c l) : l.length = n := by
  have := h.len; rw [rcs_length] at this; omega
theorem RdR.at_ {w : World} {A : Option Addr} {n c : Nat} {l : List Rn} (h : RdR w A n c l) {k : Nat} (hk : k < n) :
    ∃ b o, A = some ⟨b, o, none⟩ ∧ b < w.heap.size ∧ ∀ i (hi : i < l.length), w.cell? ⟨b, o + i * 3, none⟩ = some (.int .i64 l[i].h) ∧ w.cell? ⟨b, o + i * 3 + 1, none⟩ = some (.int .i64 l[i].p) ∧ w.cell? ⟨b, o + i * 3 + 2, none⟩ = some (.int .i64 l[i].n) := by
  have hl := RdR.length h
  obtain ⟨b, o, hA, hb, hc⟩ := Rd.at_ h (k := k) (by rw [rcs_length]; omega)
  refine ⟨b, o, hA, hb, fun i hi => ⟨hc (i * 3 + 0) _ ?_, ?_, ?_⟩⟩
  · rw [rcs_get l i 0 hi (by decide)]; rfl
  · rw [Nat.add_assoc]; exact hc _ _ (by rw [rcs_get l i 1 hi (by decide)]; rfl)
  · rw [Nat.add_assoc]; exact hc _ _ (by rw [rcs_get l i 2 hi (by decide)]; rfl)
theorem Rn.ext3 {a b : Rn} (h : a.h = b.h) (p : a.p = b.p) (n : a.n = b.n) : a = b := by cases a; cases b; simp_all
/-- Does a key follow the last row? -/
def joins (out : List Rn) (k : Ky) : Bool := match out.getLast? with
  | some r => r.h == k.h && r.p + r.n == k.p
  | none => false
/-- The last row with a page more. -/
def bump (out : List Rn) : List Rn := match out.getLast? with
  | some r => out.dropLast ++ [⟨r.h, r.p, r.n + 1⟩]
  | none => out
def runStep (out : List Rn) (k : Ky) : List Rn := if joins out k = true then bump out else out ++ [⟨k.h, k.p, 1⟩]
def runsK (s : List Ky) : List Rn := s.foldl runStep []
theorem joins_cat (pre : List Rn) (r : Rn) (k : Ky) : joins (pre ++ [r]) k = (r.h == k.h && r.p + r.n == k.p) := by simp [joins]
theorem bump_cat (pre : List Rn) (r : Rn) : bump (pre ++ [r]) = pre ++ [⟨r.h, r.p, r.n + 1⟩] := by simp [bump]
theorem rcs_bump (pre : List Rn) (r : Rn) (x : Int) : (rcs (pre ++ [r])).set (pre.length * 3 + 2) (.int .i64 x) = rcs (pre ++ [⟨r.h, r.p, x⟩]) := by
  rw [rcs_append, rcs_append, List.set_append_right _ _ (by rw [rcs_length]; omega), rcs_length, show pre.length * 3 + 2 - pre.length * 3 = 2 by omega]
  rfl
theorem runsK_snoc (s : List Ky) (k : Ky) : runsK (s ++ [k]) = runStep (runsK s) k := by unfold runsK; rw [List.foldl_append]; rfl
/-- What holds when j keys of a sorted list are done. -/
structure RInv (s : List Ky) (j : Nat) (out : List Rn) : Prop where
  is : out = runsK (s.take j)
  zero : j = 0 → out = []
  pos : ∀ (h : 0 < j) (h2 : j ≤ s.length), ∃ pre r, out = pre ++ [r] ∧ r.h = s[j - 1].h ∧ r.p + r.n = s[j - 1].p + 1 ∧ 1 ≤ r.n ∧ r.n ≤ (j : Int)
  len : out.length ≤ j
theorem RInv.start (s : List Ky) : RInv s 0 [] := ⟨rfl, fun _ => rfl, fun h => absurd h (Nat.lt_irrefl _), by simp⟩
/-- Key j follows the one ahead of it. -/
def adj (s : List Ky) (j : Nat) : Prop := ∃ (h : 0 < j) (h2 : j < s.length), s[j - 1].h = s[j].h ∧ s[j - 1].p + 1 = s[j].p
theorem RInv.joins_iff {s : List Ky} {j : Nat} {out : List Rn} (h : RInv s j out) (hj : j < s.length) : joins out s[j] = true ↔ adj s j := by
  rcases Nat.eq_zero_or_pos j with h0 | h0
  · have := h.zero h0
    subst this
    constructor
    · intro e; cases e
    · rintro ⟨e, _⟩; omega
  · obtain ⟨pre, r, rfl, e1, e2, _⟩ := h.pos h0 (by omega)
    rw [joins_cat, Bool.and_eq_true, beq_iff_eq, beq_iff_eq, e1, e2]
    exact ⟨fun e => ⟨h0, hj, e⟩, fun ⟨_, _, e⟩ => e⟩
theorem RInv.yes {s : List Ky} {j : Nat} {out : List Rn} (h : RInv s j out) (hj : j < s.length) (ha : adj s j) : RInv s (j + 1) (bump out) := by
  have hjo := (h.joins_iff hj).2 ha
  obtain ⟨h0, _, a1, a2⟩ := ha
  obtain ⟨pre, r, e, e1, e2, e3, e4⟩ := h.pos h0 (by omega)
  have hl := h.len
  refine ⟨?_, fun h => (by omega), fun _ _ => ?_, ?_⟩
  · rw [List.take_succ_eq_append_getElem hj, runsK_snoc, ← h.is, runStep, if_pos hjo]
  · subst e
    rw [bump_cat]
    exact ⟨pre, _, rfl, by simp; omega, by simp; omega, by simp; omega, by simp; omega⟩
  · subst e
    rw [bump_cat]
    simp at *; omega
theorem RInv.no {s : List Ky} {j : Nat} {out : List Rn} (h : RInv s j out) (hj : j < s.length) (ha : ¬ adj s j) : RInv s (j + 1) (out ++ [⟨s[j].h, s[j].p, 1⟩]) := by
  have hjo : joins out s[j] = false := by
    cases e : joins out s[j] with
    | false => rfl
    | true => exact absurd ((h.joins_iff hj).1 e) ha
  have hl := h.len
  refine ⟨?_, fun h => (by omega), fun _ _ => ⟨out, _, rfl, rfl, rfl, by simp, by simp; omega⟩, by simp; omega⟩
  rw [List.take_succ_eq_append_getElem hj, runsK_snoc, ← h.is, runStep, hjo]
  rfl
/-- In a sorted list a key follows the one ahead of it just where that page is there. -/
theorem adj_iff {s : List Ky} (hs : s.Pairwise (fun a b => kLt a b = true)) {j : Nat} (hj : j < s.length) : adj s j ↔ (⟨s[j].h, s[j].p - 1⟩ : Ky) ∈ s := by
  have hp := List.pairwise_iff_getElem.1 hs
  constructor
  · rintro ⟨h0, _, a1, a2⟩
    have : s[j - 1] = ⟨s[j].h, s[j].p - 1⟩ := Ky.ext2 a1 (by simp; omega)
    rw [← this]
    exact List.getElem_mem _
  · intro hm
    obtain ⟨i, hi, e⟩ := List.getElem_of_mem hm
    have hij : i < j := by
      rcases Nat.lt_trichotomy i j with h | h | h
      · exact h
      · subst h
        have := congrArg Ky.p e
        simp at this
        omega
      · have := kLt_iff.1 (hp j i hj hi h)
        rw [e] at this
        simp at this
        omega
    rcases Nat.lt_or_ge i (j - 1) with h | h
    · have h1 := kLt_iff.1 (hp i (j - 1) hi (by omega) h)
      have h2 := kLt_iff.1 (hp (j - 1) j (by omega) hj (by omega))
      rw [e] at h1
      simp at h1
      omega
    · obtain rfl : i = j - 1 := by omega
      exact ⟨by omega, hj, by rw [e], by rw [e]; simp⟩
theorem adj_no_wrap {s : List Ky} (hs : s.Pairwise (fun a b => kLt a b = true)) {j : Nat} (h0 : 0 < j) (hj : j < s.length) (h : s[j - 1].h = s[j].h) : s[j - 1].p < s[j].p := by
  have := kLt_iff.1 (List.pairwise_iff_getElem.1 hs (j - 1) j (by omega) hj (by omega))
  omega
end Go.Proofs.Ytnpifkebdkjpjaa
