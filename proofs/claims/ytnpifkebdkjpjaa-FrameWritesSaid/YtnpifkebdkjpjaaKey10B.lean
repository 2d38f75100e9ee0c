/-
  Plain: keys put where they belong.
-/
import Derived.Test.YtnpifkebdkjpjaaKeyMapD
import Derived.Test.YtnpifkebdkjpjaaKey10A
namespace Go.Proofs.Ytnpifkebdkjpjaa
open Go.RowKit
set_option linter.unusedVariables false
set_option linter.unusedSimpArgs false
def kLt (a b : Ky) : Bool := keyLt a.h a.p b.h b.p
/-- How many of a list's first keys stand ahead of a key. -/
def aheadK (k : Ky) : List Ky → Nat
  | [] => 0
  | x :: l => if kLt x k = true then aheadK k l + 1 else 0
def putK (out : List Ky) (k : Ky) : List Ky := if k ∈ out then out else out.take (aheadK k out) ++ k :: out.drop (aheadK k out)
def sortK (l : List Ky) : List Ky := l.foldl putK []
theorem aheadK_le (k : Ky) : ∀ l, aheadK k l ≤ l.length
  | [] => Nat.le_refl _
  | x :: l => by
    unfold aheadK
    split
    · have := aheadK_le k l; simp; omega
    · simp
theorem mem_putK {out : List Ky} {k x : Ky} : x ∈ putK out k ↔ x ∈ out ∨ x = k := by
  unfold putK
  split
  · constructor
    · exact .inl
    · rintro (h | rfl)
      · exact h
      · assumption
  · rw [List.mem_append, List.mem_cons]
    constructor
    · rintro (h | rfl | h)
      · exact .inl (List.mem_of_mem_take h)
      · exact .inr rfl
      · exact .inl (List.mem_of_mem_drop h)
    · rintro (h | rfl)
      · rw [← List.take_append_drop (aheadK k out) out, List.mem_append] at h
        rcases h with h | h
        · exact .inl h
        · exact .inr (.inr h)
      · exact .inr (.inl rfl)
theorem mem_foldK (l : List Ky) : ∀ out x, x ∈ l.foldl putK out ↔ x ∈ out ∨ x ∈ l := by
  induction l with
  | nil => intro out x; simp
  | cons k l ih => intro out x; rw [List.foldl_cons, ih, mem_putK, List.mem_cons]; exact or_assoc
theorem mem_sortK {l : List Ky} {x : Ky} : x ∈ sortK l ↔ x ∈ l := by unfold sortK; rw [mem_foldK]; simp
theorem kLt_iff {a b : Ky} : kLt a b = true ↔ a.h < b.h ∨ (a.h = b.h ∧ a.p < b.p) := by unfold kLt keyLt; simp
theorem kLt_trans {a b c : Ky} (h1 : kLt a b = true) (h2 : kLt b c = true) : kLt a c = true := by rw [kLt_iff] at *; omega
theorem kLt_tri {a b : Ky} (h : kLt a b = false) (hne : a ≠ b) : kLt b a = true := by
  have h1 : ¬ (a.h < b.h ∨ (a.h = b.h ∧ a.p < b.p)) := fun e => by rw [kLt_iff.2 e] at h; cases h
  rw [kLt_iff]
  have : ¬ (a.h = b.h ∧ a.p = b.p) := fun e => hne (Ky.ext2 e.1 e.2)
  omega
theorem insertK_sorted (k : Ky) : ∀ (out : List Ky), out.Pairwise (fun a b => kLt a b = true) → k ∉ out → (out.take (aheadK k out) ++ k :: out.drop (aheadK k out)).Pairwise (fun a b => kLt a b = true)
  | [], _, _ => by simp [aheadK]
  | x :: l, hs, hn => by
    have hxk : x ≠ k := fun e => hn (by rw [e]; exact List.mem_cons_self)
    have hnl : k ∉ l := fun e => hn (List.mem_cons_of_mem _ e)
    obtain ⟨h1, h2⟩ := List.pairwise_cons.1 hs
    unfold aheadK
    by_cases hx : kLt x k = true
    · rw [if_pos hx]
      simp only [List.take_succ_cons, List.drop_succ_cons, List.cons_append]
      refine List.pairwise_cons.2 ⟨fun y hy => ?_, insertK_sorted k l h2 hnl⟩
      rw [List.mem_append, List.mem_cons] at hy
      rcases hy with hy | rfl | hy
      · exact h1 y (List.mem_of_mem_take hy)
      · exact hx
      · exact h1 y (List.mem_of_mem_drop hy)
    · rw [if_neg hx]
      simp only [List.take_zero, List.drop_zero, List.nil_append]
      have hkx : kLt k x = true := kLt_tri (by simpa using hx) hxk
      refine List.pairwise_cons.2 ⟨fun y hy => ?_, hs⟩
      rcases List.mem_cons.1 hy with rfl | hy
      · exact hkx
      · exact kLt_trans hkx (h1 y hy)
theorem putK_sorted {out : List Ky} (k : Ky) (h : out.Pairwise (fun a b => kLt a b = true)) : (putK out k).Pairwise (fun a b => kLt a b = true) := by
  unfold putK
  split
  · exact h
  · exact insertK_sorted k out h (by assumption)
theorem foldK_sorted (l : List Ky) : ∀ out : List Ky, out.Pairwise (fun a b => kLt a b = true) → (l.foldl putK out).Pairwise (fun a b => kLt a b = true) := by
  induction l with
  | nil => intro out h; exact h
  | cons k l ih => intro out h; exact ih _ (putK_sorted k h)
theorem sortK_sorted (l : List Ky) : (sortK l).Pairwise (fun a b => kLt a b = true) := foldK_sorted l [] List.Pairwise.nil
theorem kLt_irrefl (a : Ky) : ¬ kLt a a = true := by rw [kLt_iff]; omega
/-- Two lists in order with the same members are one. -/
theorem sorted_one : ∀ (a b : List Ky), a.Pairwise (fun a b => kLt a b = true) → b.Pairwise (fun a b => kLt a b = true) → (∀ x, x ∈ a ↔ x ∈ b) → a = b
  | [], [], _, _, _ => rfl
  | [], y :: b, _, _, h => absurd ((h y).2 List.mem_cons_self) (by simp)
  | x :: a, [], _, _, h => absurd ((h x).1 List.mem_cons_self) (by simp)
  | x :: a, y :: b, ha, hb, h => by
    obtain ⟨a1, a2⟩ := List.pairwise_cons.1 ha
    obtain ⟨b1, b2⟩ := List.pairwise_cons.1 hb
    have exy : x = y := by
      rcases List.mem_cons.1 ((h x).1 List.mem_cons_self) with e | e
      · exact e
      · rcases List.mem_cons.1 ((h y).2 List.mem_cons_self) with e2 | e2
        · exact e2.symm
        · exact absurd (kLt_trans (b1 x e) (a1 y e2)) (kLt_irrefl y)
    subst exy
    congr 1
    refine sorted_one a b a2 b2 fun z => ⟨fun hz => ?_, fun hz => ?_⟩
    · rcases List.mem_cons.1 ((h z).1 (List.mem_cons_of_mem _ hz)) with e | e
      · subst e; exact absurd (a1 z hz) (kLt_irrefl z)
      · exact e
    · rcases List.mem_cons.1 ((h z).2 (List.mem_cons_of_mem _ hz)) with e | e
      · subst e; exact absurd (b1 z hz) (kLt_irrefl z)
      · exact e
end Go.Proofs.Ytnpifkebdkjpjaa
