/-
  Plain: the list that is made is the document's, where no key is twice in the first.
-/
import Derived.Test.YtnpifkebdkjpjaaApE
import Derived.Test.YtnpifkebdkjpjaaApB
import Derived.Test.YtnpifkebdkjpjaaApD
namespace Go.Proofs.Ytnpifkebdkjpjaa
open Go.RowKit
set_option linter.unusedVariables false
set_option linter.unusedSimpArgs false
theorem foldE_skip (k : Ky) : ∀ (l : List Mp) (o : Option Ent), k ∉ l.map Mp.k → l.foldl (stepE k) o = o
  | [], _, _ => rfl
  | m :: l, o, h => by
    rw [List.map_cons, List.mem_cons] at h
    have h1 : ¬ m.k = k := fun e => h (.inl e.symm)
    rw [List.foldl_cons, stepE, if_neg h1]
    exact foldE_skip k l o (fun e => h (.inr e))
theorem first_last (k : Ky) : ∀ (l : List Mp), (l.map Mp.k).Nodup → firstE l k = lastE l k
  | [], _ => rfl
  | m :: l, h => by
    rw [List.map_cons, List.nodup_cons] at h
    unfold firstE lastE
    rw [List.foldl_cons, stepE]
    by_cases e : m.k = k
    · rw [if_pos e, List.find?_cons_of_pos (by simpa using e), foldE_skip k l _ (fun e2 => h.1 (by rw [e]; exact e2))]
      rfl
    · rw [if_neg e, List.find?_cons_of_neg (by simpa using e)]
      exact first_last k l h.2
theorem apply_same {l puts : List Mp} {gone : List Ky} (h : (l.map Mp.k).Nodup) : applyE l puts gone = applyR l puts gone := by
  unfold applyE applyR
  refine List.map_congr_left fun k hk => ?_
  have hm := mem_keysE.1 (mem_sortK.1 hk)
  unfold allE
  by_cases hp : k ∈ puts.map Mp.k
  · rw [if_pos hp]
    have := lastE_some.2 hp
    obtain ⟨e, he⟩ := Option.isSome_iff_exists.1 this
    rw [he]; rfl
  · rw [if_neg hp, lastE_none hp, first_last k l h]
    rcases hm with hm | ⟨_, hg⟩
    · exact absurd hm hp
    · unfold goneE; rw [if_neg hg]; rfl
theorem mk_k (k : Ky) (e : Ent) : (mkMp k e).k = k := rfl
theorem apply_keys (l puts : List Mp) (gone : List Ky) : (applyE l puts gone).map Mp.k = sortK (keysE l puts gone) := by
  unfold applyE
  rw [List.map_map]
  have : (Mp.k ∘ fun k => mkMp k ((allE l puts gone k).getD Ent.zero)) = id := rfl
  rw [this, List.map_id]
theorem firstE_some {l : List Mp} {k : Ky} : (firstE l k).isSome = true ↔ k ∈ l.map Mp.k := by
  unfold firstE
  rw [Option.isSome_map, List.find?_isSome]
  simp [List.mem_map]
theorem apply_found {l puts : List Mp} {gone : List Ky} {g : Ky} (h : g ∈ gone) : (firstE (applyE l puts gone) g).isSome = decide (g ∈ puts.map Mp.k) := by
  rw [Bool.eq_iff_iff, firstE_some, apply_keys, mem_sortK, mem_keysE, decide_eq_true_iff]
  constructor
  · rintro (h1 | ⟨_, h2⟩)
    · exact h1
    · exact absurd h h2
  · exact .inl
theorem apply_rising {l puts : List Mp} {gone : List Ky} {i : Nat} (h : i + 1 < (applyE l puts gone).length) : keyLt (applyE l puts gone)[i].h (applyE l puts gone)[i].p (applyE l puts gone)[i + 1].h (applyE l puts gone)[i + 1].p = true := by
  have hs := sortK_sorted (keysE l puts gone)
  rw [← apply_keys] at hs
  have := List.pairwise_iff_getElem.1 hs i (i + 1) (by rw [List.length_map]; omega) (by rw [List.length_map]; exact h) (by omega)
  rw [List.getElem_map, List.getElem_map] at this
  exact this
theorem apply_len (l puts : List Mp) (gone : List Ky) : (applyE l puts gone).length ≤ l.length + puts.length := by
  unfold applyE
  rw [List.length_map]
  refine Nat.le_trans (sortK_length_le _) ?_
  unfold keysE
  rw [List.length_append, List.length_map]
  have := List.length_filter_le (fun k => decide (k ∉ gone)) (l.map Mp.k)
  rw [List.length_map] at this
  omega
end Go.Proofs.Ytnpifkebdkjpjaa
