/-
  Plain: how often the keys of a list are there, together; how many keys a map of counts has.
-/
import Derived.Test.YtnpifkebdkjpjaaSortD
namespace Go.Proofs.Ytnpifkebdkjpjaa
open Go.RowKit
set_option linter.unusedVariables false
/-- How often the keys of s are in l, together. -/
def sumC (l s : List Ky) : Int := (s.map fun k => ((l.count k : Nat) : Int)).sum
theorem sumC_cat (l a b : List Ky) : sumC l (a ++ b) = sumC l a + sumC l b := by simp [sumC]
theorem sumC_nil (s : List Ky) : sumC [] s = 0 := by
  induction s with
  | nil => rfl
  | cons a s ih =>
    have : sumC [] (a :: s) = ((([] : List Ky).count a : Nat) : Int) + sumC [] s := rfl
    rw [this, ih]; simp
theorem sumC_cons (k : Ky) (l s : List Ky) : sumC (k :: l) s = sumC l s + ((s.count k : Nat) : Int) := by
  induction s with
  | nil => rfl
  | cons a s ih =>
    have e1 : sumC (k :: l) (a :: s) = (((k :: l).count a : Nat) : Int) + sumC (k :: l) s := rfl
    have e2 : sumC l (a :: s) = ((l.count a : Nat) : Int) + sumC l s := rfl
    rw [e1, e2, ih, List.count_cons, List.count_cons]
    by_cases h : k = a
    · subst h; simp; omega
    · have h' : ¬ a = k := fun e => h e.symm
      simp [h, h']; omega
theorem count_one {k : Ky} : ∀ {s : List Ky}, s.Nodup → k ∈ s → s.count k = 1
  | [], _, h => by cases h
  | a :: s, hn, h => by
    obtain ⟨h1, h2⟩ := List.nodup_cons.1 hn
    rw [List.count_cons]
    by_cases e : a = k
    · subst e
      have : s.count a = 0 := List.count_eq_zero.2 h1
      simp [this]
    · have hm : k ∈ s := by
        rcases List.mem_cons.1 h with h | h
        · exact absurd h.symm e
        · exact h
      rw [count_one h2 hm]
      simp [e]
theorem sumC_all {s : List Ky} (hn : s.Nodup) : ∀ {l : List Ky}, (∀ x ∈ l, x ∈ s) → sumC l s = (l.length : Int)
  | [], _ => by rw [sumC_nil]; rfl
  | k :: l, h => by
    rw [sumC_cons, sumC_all hn (fun x hx => h x (List.mem_cons_of_mem _ hx)), count_one hn (h k List.mem_cons_self), List.length_cons]
    omega
theorem sumC_nonneg (l s : List Ky) : 0 ≤ sumC l s := by
  induction s with
  | nil => exact Int.le_refl _
  | cons a s ih =>
    have e1 : sumC l (a :: s) = ((l.count a : Nat) : Int) + sumC l s := rfl
    omega
theorem sumC_take (l s : List Ky) (j : Nat) : 0 ≤ sumC l (s.take j) ∧ sumC l (s.take j) ≤ sumC l s := by
  have e : sumC l s = sumC l (s.take j) + sumC l (s.drop j) := by rw [← sumC_cat, List.take_append_drop]
  have h1 := sumC_nonneg l (s.take j)
  have h2 := sumC_nonneg l (s.drop j)
  omega
theorem sortK_nodup (l : List Ky) : (sortK l).Nodup := (sortK_sorted l).imp fun {a b} h e => by subst e; exact kLt_irrefl a h
/-- A map of counts has as many keys as the list has, each once. -/
theorem size_cnt {w : World} {b m : Nat} {D : DataW Unit} {l : List Ky} (h : KMap w b m D) (hc : Cnt l D) (ho : ∀ k ∈ l, Ky.ok k) : Maps.size D = (sortK l).length := by
  obtain ⟨es, rfl, hp, hk⟩ := h.entries keyedK
  have hn1 : (es.map (·.1)).Nodup := by
    rw [List.Nodup, List.pairwise_map]; exact hp
  have hn2 : ((sortK l).map klit).Nodup := by
    rw [List.Nodup, List.pairwise_map]
    exact (sortK_nodup l).imp_of_mem fun {a b} ha hb hab e => hab (klit_inj (ho a (mem_sortK.1 ha)) (ho b (mem_sortK.1 hb)) e)
  have hhas : ∀ z, z ∈ es.map (·.1) ↔ z ∈ (sortK l).map klit := by
    intro z
    have h1 : Maps.has (.map es) z = true ↔ z ∈ es.map (·.1) := by
      rw [Maps.has_eq, List.any_eq_true]
      constructor
      · rintro ⟨p, hp1, hp2⟩
        exact List.mem_map.2 ⟨p, hp1, WideAt.sameKey_eq hp2⟩
      · intro hz
        obtain ⟨p, hp1, rfl⟩ := List.mem_map.1 hz
        exact ⟨p, hp1, WideAt.sameKey_self (hk p hp1)⟩
    rw [← h1]
    constructor
    · intro hz
      obtain ⟨k, hk1, rfl⟩ := hc.has z hz
      exact List.mem_map.2 ⟨k, mem_sortK.2 hk1, rfl⟩
    · intro hz
      obtain ⟨k, hk1, rfl⟩ := List.mem_map.1 hz
      have hkl := mem_sortK.1 hk1
      cases hh : Maps.has (DataW.map es) (klit k) with
      | true => rfl
      | false =>
        have e1 := Maps.atKey_of_not_has hh (.lit (.int .i64 0))
        rw [hc.at_ k (ho k hkl)] at e1
        have e2 := lit_inj e1
        have := List.count_pos_iff.2 hkl
        omega
  have hperm : (es.map (·.1)).Perm ((sortK l).map klit) := (List.perm_ext_iff_of_nodup hn1 hn2).2 hhas
  have := hperm.length_eq
  rw [List.length_map, List.length_map] at this
  exact this
/-- Those of a list that are not in another. -/
theorem without_snoc (l gone : List Ky) (k : Ky) : withoutK (l ++ [k]) gone = withoutK l gone ++ (if k ∈ gone then [] else [k]) := by
  unfold withoutK
  rw [List.filter_append]
  by_cases h : k ∈ gone
  · have : gone.count k ≠ 0 := by have := List.count_pos_iff.2 h; omega
    simp [h, this]
  · have : gone.count k = 0 := List.count_eq_zero.2 h
    simp [h, this]
end Go.Proofs.Ytnpifkebdkjpjaa
