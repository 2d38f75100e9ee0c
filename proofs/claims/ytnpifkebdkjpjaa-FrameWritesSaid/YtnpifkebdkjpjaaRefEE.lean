/-
  Plain: entries read without a look at the key; octets of a string.
-/
import Derived.Test.YtnpifkebdkjpjaaRefED
import Derived.Laws.IdiomStrings
import Derived.Laws.Strings2
namespace Go.Proofs.Ytnpifkebdkjpjaa
open Go.RowKit
set_option linter.unusedVariables false
set_option linter.unusedSimpArgs false
/-- The entry of 18 octets, its key by division. -/
def raw1 (x : List UInt8) : Mp := { h := (leN (x.take 4) : Int) / 4096, p := (leN (x.take 4) : Int) % 4096, s := leN ((x.drop 4).take 4), g := leN ((x.drop 8).take 6), u := leN ((x.drop 14).take 4) }
def rawN : Nat → List UInt8 → List Mp
  | 0, _ => []
  | k + 1, x => raw1 x :: rawN k (x.drop 18)
theorem rawN_length (k : Nat) : ∀ x, (rawN k x).length = k := by
  induction k with
  | zero => intro x; rfl
  | succ k ih => intro x; simp [rawN, ih]
theorem rawN_succ (k : Nat) : ∀ x, rawN (k + 1) x = rawN k x ++ [raw1 (x.drop (18 * k))] := by
  induction k with
  | zero => intro x; simp [rawN]
  | succ k ih =>
    intro x
    rw [show rawN (k + 1 + 1) x = raw1 x :: rawN (k + 1) (x.drop 18) from rfl, ih, show rawN (k + 1) x = raw1 x :: rawN k (x.drop 18) from rfl, List.drop_drop]
    simp [Nat.mul_succ, Nat.add_comm]
theorem raw1_eq (x : List UInt8) (h : keyOk (raw1 x).h (raw1 x).p = true) : raw1 x = parse1 x := by
  have h' : keyOk ((leN (x.take 4) : Int) / 4096) ((leN (x.take 4) : Int) % 4096) = true := h
  unfold raw1 parse1 keyOfH keyOfP
  rw [if_pos h', if_pos h']
theorem parse1_bad (x : List UInt8) (h : keyOk (raw1 x).h (raw1 x).p = false) : (parse1 x).num = 0 ∧ (raw1 x).num = 0 := by
  refine ⟨?_, num_zero h⟩
  have h' : ¬ keyOk ((leN (x.take 4) : Int) / 4096) ((leN (x.take 4) : Int) % 4096) = true := by
    have : keyOk ((leN (x.take 4) : Int) / 4096) ((leN (x.take 4) : Int) % 4096) = false := h
    rw [this]; simp
  apply num_zero
  unfold parse1 keyOfH keyOfP
  rw [if_neg h', if_neg h']
  rfl
theorem raw_go (N : Int) (k : Nat) : ∀ x last seen, 0 ≤ last → rightGo N (rawN k x) last seen = rightGo N (parseN k x) last seen ∧ (rightGo N (rawN k x) last seen = true → rawN k x = parseN k x) := by
  induction k with
  | zero => intro x last seen _; exact ⟨rfl, fun _ => rfl⟩
  | succ k ih =>
    intro x last seen hl
    cases hk : keyOk (raw1 x).h (raw1 x).p
    · have := parse1_bad x hk
      simp only [rawN, parseN]
      rw [rightGo_no (.inl (by omega)), rightGo_no (.inl (by omega))]
      exact ⟨rfl, fun h => (by cases h)⟩
    · simp only [rawN, parseN, ← raw1_eq x hk]
      by_cases hb : (raw1 x).num ≤ last ∨ (raw1 x).s < 0 ∨ N ≤ (raw1 x).s ∨ (raw1 x).g < 1 ∨ 281474976710655 < (raw1 x).g ∨ (raw1 x).s ∈ seen
      · rw [rightGo_no hb, rightGo_no hb]
        exact ⟨rfl, fun h => (by cases h)⟩
      · rw [rightGo_yes hb, rightGo_yes hb]
        have := ih (x.drop 18) (raw1 x).num ((raw1 x).s :: seen) (Int.le_of_lt (num_pos hk))
        exact ⟨this.1, fun h => by rw [this.2 h]⟩
theorem raw_right (N : Int) (k : Nat) (x : List UInt8) : rightM N (rawN k x) = rightM N (parseN k x) := (raw_go N k x 0 [] (Int.le_refl _)).1
theorem raw_same (N : Int) (k : Nat) (x : List UInt8) (h : rightM N (parseN k x) = true) : rawN k x = parseN k x := (raw_go N k x 0 [] (Int.le_refl _)).2 (by rw [(raw_go N k x 0 [] (Int.le_refl _)).1]; exact h)
theorem extract_bytes (s : List UInt8) (i j : Nat) : (bytesOf s).extract i j = bytesOf ((s.drop i).take (j - i)) := by
  unfold bytesOf
  apply ByteArray.ext
  rw [ByteArray.data_extract]
  simp
theorem bytes_run (l : List UInt8) (w : World) (hm : l.length ≤ maxLen) : ∃ cap w', (convert 9 23 (.string (bytesOf l))).run Try.prog w = .ok (.slice (some ⟨w.heap.size, 0, none⟩) l.length cap) w' ∧ RdB w' (some ⟨w.heap.size, 0, none⟩) l.length cap l ∧ Ext w w' := by
  have hrun := run_bytes_of_string (P := Try.prog) w 9 23 5 (bytesOf l) Try.underlying9 Try.underlying23 Try.underlying5
  rw [bytesOf_size] at hrun
  refine ⟨_, _, hrun, ⟨by rw [bvs_length]; omega, grownCap_ge _ _ _ _, grownCap_le_maxLen _ _ _ _ hm, fun h => (by cases h), ?_, bvs_one _⟩, ?_⟩
  · intro a ha j u hu
    cases ha
    rw [Addr.add_lit, Nat.zero_add]
    have hj : j < l.length := by
      have := (List.getElem?_eq_some_iff.1 hu).1
      rwa [bvs_length] at this
    have hcell : ∀ (W : World) (C : Array Value) (t : TypeId) (fz : Nat × Nat), (W.alloc (.cells C t fz)).cell? ⟨W.heap.size, j, none⟩ = C[j]? := fun W C t fz => by
      unfold World.cell? World.alloc
      simp
    refine (hcell w.drew _ _ _).trans ?_
    have : (bvs l)[j]? = some u := hu
    simp [bvs, hj] at this
    rw [← this]
    simp [bytesRow, bytesOf, Array.getElem?_append, hj, bv]
  · exact Ext.trans (Ext.drewN w 1) (Ext.alloc w.drew _)
end Go.Proofs.Ytnpifkebdkjpjaa
