/-
  Keys as a map's keys.
-/
import Derived.Test.YtnpifkebdkjpjaaOpen3
import Derived.Test.YtnpifkebdkjpjaaEntryC
import Derived.Maps.OwnOps
import Derived.Maps.OwnSet
import Derived.DeepKeys4
namespace Go.Proofs.Ytnpifkebdkjpjaa
open Go.RowKit
set_option linter.unusedVariables false
set_option linter.unusedSimpArgs false
set_option maxRecDepth 100000 in
theorem keyedK : Maps.Keyed Try.prog 35 :=
  Maps.Keyed.of_law (deep_law_laid laidOut (m := 2) (by omega) (of_decide_eq_true (by kernel_rfl)) (by kernel_rfl) (by rw [Try.underlying35]))
set_option maxRecDepth 100000 in
/-- A key, as data tell it. -/
theorem key_lit (h p : Int) (hh : i64R h) (hp : i64R p) : keyOf Try.prog 35 (kv h p) = some (.string (keyBytes [.int .i64 h, .int .i64 p])) := by
  have w1 := wf64 hh
  have w2 := wf64 hp
  have hz : ∃ m, Try.prog.types.size = m + 1 := by
    have : 0 < Try.prog.types.size := of_decide_eq_true (by kernel_rfl)
    exact ⟨_, (Nat.succ_pred_eq_of_pos this).symm⟩
  obtain ⟨m, hm⟩ := hz
  have hk : Try.prog.keyType 35 = true := by kernel_rfl
  have hc : Try.prog.cellsOf 35 = 2 := by kernel_rfl
  have h3 : Try.prog.cellsOf 3 = 1 := by kernel_rfl
  unfold keyOf
  rw [Try.underlying35]
  simp only [hk, hm]
  simp [kv, Value.formed, Try.underlying35, hc, Program.keyLits, Value.cells, h3, Try.underlying3, w1, w2]
end Go.Proofs.Ytnpifkebdkjpjaa
