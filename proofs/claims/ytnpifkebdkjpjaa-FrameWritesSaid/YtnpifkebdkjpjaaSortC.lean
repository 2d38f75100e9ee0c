/-
  A row of keys, sorted by the library's sort: what the row then is.
-/
import Derived.Test.YtnpifkebdkjpjaaSortB
import Derived.Shelf.GgSortFunc.InsertionK
import Derived.Shelf.SlSortCmp.Insertion
namespace Go.Proofs.Ytnpifkebdkjpjaa
open Go.RowKit
open Go.Sort (flatK HoldsK putRowK grow SWO PermIn SortedIn get_flatK size_flatK putCells)
set_option linter.unusedVariables false
set_option linter.unusedSimpArgs false
instance : Inhabited Ky := ⟨⟨0, 0⟩⟩
theorem flat_kcs (l : List Ky) : (flatK Ky.cells 2 l.toArray).toList = kcs l := by
  apply List.ext_getElem?
  intro t
  by_cases ht : t < l.length * 2
  · have h1 : t / 2 < l.length := by omega
    have h2 : t % 2 < 2 := by omega
    have hs : t < (flatK Ky.cells 2 l.toArray).size := by simpa using ht
    have e := get_flatK Ky.cells 2 l.toArray t (by simpa using ht)
    rw [getElem!_pos _ t hs] at e
    have e2 := kcs_get l (t / 2) (t % 2) h1 h2
    rw [show t / 2 * 2 + t % 2 = t by omega] at e2
    rw [e2, Array.getElem?_toList, Array.getElem?_eq_getElem hs, e]
    have e3 : l.toArray[t / 2]! = l[t / 2] := by rw [getElem!_pos _ _ (by simpa using h1)]; simp
    rw [e3]
    have h3 : t % 2 < (l[t / 2]).cells.length := h2
    rw [getElem!_pos (l[t / 2]).cells (t % 2) h3, List.getElem?_eq_getElem h3]
  · rw [List.getElem?_eq_none (by simp; omega), List.getElem?_eq_none (by rw [kcs_length]; omega)]
theorem take_putCells (F cur : Array Value) (h : F.size ≤ cur.size) : (putCells id 0 F cur).toList.take F.size = F.toList := by
  apply List.ext_getElem?
  intro t
  rw [List.getElem?_take]
  by_cases ht : t < F.size
  · rw [if_pos ht]
    unfold putCells
    rw [Array.getElem?_toList, Array.getElem?_mapIdx, Array.getElem?_eq_getElem (show t < cur.size by omega), Array.getElem?_toList, Array.getElem?_eq_getElem ht]
    simp [ht]
  · rw [if_neg ht, List.getElem?_eq_none (by simp; omega)]
theorem size_putCells (F cur : Array Value) : (putCells id 0 F cur).size = cur.size := by simp [putCells]
theorem sort_own {w : World} {B E n : Nat} {v : Value} {l : List Ky} (h : w.ownsRow B E 2 v n (kcs l)) (hpos : 0 < n) :
    ∃ g cap, v = .slice (some ⟨g, 0, none⟩) n cap ∧ B ≤ g ∧ g < w.heap.size ∧ HoldsK Ky.cells 2 w g 0 l.toArray ∧
      ∀ (l' : List Ky) (q : Nat) (os : Array Obj), l'.length = n → (sortWorldK Ky.cells 2 w g 0 q l'.toArray os).ownsRow B E 2 v n (kcs l') ∧ w.grownBy (sortWorldK Ky.cells 2 w g 0 q l'.toArray os) (some g) := by
  have hl := h.1
  rw [kcs_length] at hl
  rcases h.2 with ⟨rfl, e⟩ | ⟨g, cap, cur, rfl, hb, hg, hn, hc, hs, ht⟩
  · omega
  · have hlt : g < w.heap.size := (Array.getElem?_eq_some_iff.1 hg).1
    refine ⟨g, cap, rfl, hb, hlt, fun j hj => ⟨?_, ?_⟩, fun l' q os hl' => ?_⟩
    · rw [Nat.zero_add, cell_of_row w g j cur E (0, 0) hg, getElem!_pos (flatK Ky.cells 2 l.toArray) j hj]
      have e : (flatK Ky.cells 2 l.toArray).toList[j]? = some (flatK Ky.cells 2 l.toArray)[j] := by rw [Array.getElem?_toList, Array.getElem?_eq_getElem hj]
      rw [flat_kcs, ← ht, List.getElem?_take] at e
      split at e
      · rw [Array.getElem?_toList] at e; exact e
      · cases e
    · exact frozen_of_row w g _ cur E hg
    · have hF : (flatK Ky.cells 2 l'.toArray).size = n * 2 := by simp [hl']
      have hle : (flatK Ky.cells 2 l'.toArray).size ≤ cur.size := by rw [hF, hs]; exact Nat.mul_le_mul_right _ hn
      have hnew : (sortWorldK Ky.cells 2 w g 0 q l'.toArray os).heap[g]? = some (.cells (putCells id 0 (flatK Ky.cells 2 l'.toArray) cur) E (0, 0)) := by
        show ((w.heap.modify g _) ++ os)[g]? = _
        rw [Array.getElem?_append_left (by simpa using hlt), Array.getElem?_modify, if_pos rfl, hg]
        rfl
      refine ⟨⟨by rw [kcs_length]; omega, .inr ⟨g, cap, _, rfl, hb, hnew, hn, hc, by rw [size_putCells]; exact hs, ?_⟩⟩, rfl, rfl, rfl, ?_, fun k hk hne => ?_⟩
      · rw [← hF, take_putCells _ _ hle, flat_kcs]
      · show w.heap.size ≤ ((w.heap.modify g _) ++ os).size
        rw [Array.size_append, Array.size_modify]; omega
      · show ((w.heap.modify g _) ++ os)[k]? = _
        rw [Array.getElem?_append_left (by simpa using hk), Array.getElem?_modify, if_neg (fun e => hne (by rw [e]))]
theorem ordK_lt (a b : Ky) : ltOf ordK a b = kLt a b := by
  unfold ltOf kLt keyLt ordK cmpI
  rw [Bool.eq_iff_iff, decide_eq_true_iff, decide_eq_true_iff]
  by_cases h1 : a.h < b.h
  · simp [h1]
  · by_cases h2 : b.h < a.h
    · have : ¬ a.h = b.h := by omega
      simp [h1, h2, this]
    · have : a.h = b.h := by omega
      by_cases h3 : a.p < b.p
      · simp [this, h3]
      · by_cases h4 : b.p < a.p
        · simp [this, h3, h4]
        · simp [this, h3, h4]
theorem swoK : SWO (ltOf ordK) where
  irrefl x := by rw [ordK_lt]; cases h : kLt x x; rfl; exact absurd h (kLt_irrefl x)
  trans x y z h1 h2 := by rw [ordK_lt] at *; exact kLt_trans h1 h2
  ntrans x y z h1 h2 := by
    rw [ordK_lt] at *
    unfold kLt keyLt at *
    simp only [decide_eq_false_iff_not] at *
    omega
/-- What the sort leaves is the document's sorted list. -/
theorem sorted_is {done l : List Ky} {d' : Array Ky} (hn : done.Nodup) (hm : ∀ x, x ∈ done ↔ x ∈ l) (hp : PermIn 0 done.toArray.size done.toArray d') (hs : SortedIn (ltOf ordK) 0 done.toArray.size d') : d'.toList = sortK l := by
  obtain ⟨h1, _, h3⟩ := hp
  have hperm : d'.toList.Perm done := by
    have e1 : d'.extract 0 done.toArray.size = d' := by rw [← h1]; simp
    have e2 : done.toArray.extract 0 done.toArray.size = done.toArray := by simp
    rw [e1, e2] at h3
    simpa using h3
  refine sorted_one _ _ ?_ (sortK_sorted l) (fun x => by rw [hperm.mem_iff, hm, mem_sortK])
  rw [List.pairwise_iff_getElem]
  intro i j hi hj hij
  have hsz : d'.size = done.toArray.size := h1
  have hnd : d'.toList.Nodup := hperm.nodup_iff.2 hn
  have e := hs i j (Nat.zero_le _) hij (by rw [← hsz]; simpa using hj)
  rw [ordK_lt, getElem!_pos d' j (by simpa using hj), getElem!_pos d' i (by simpa using hi)] at e
  refine kLt_tri (by simpa using e) ?_
  exact fun e2 => List.pairwise_iff_getElem.1 hnd i j hi hj hij (by simpa using e2.symm)
end Go.Proofs.Ytnpifkebdkjpjaa
