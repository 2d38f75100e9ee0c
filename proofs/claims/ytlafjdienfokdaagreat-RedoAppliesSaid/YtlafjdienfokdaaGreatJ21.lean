/-
  The walk of mothballref18.Get.
-/
import Derived.Test.YtlafjdienfokdaaGreatJ20
/- StR: The walk of mothballref18.Get. -/
namespace Go.Proofs.YtlafjdienfokdaaGreat
open Go.RowKit
set_option linter.unusedVariables false
set_option linter.unusedSimpArgs false
/-- The rest of a string of octets. -/
theorem str_from {b : List UInt8} {n : Nat} (hb : b.length = n) {t : Nat} (ht : t ≤ n) (i : Int) (hi : i = t) (w : World) :
    (Instr.slice 9 (.string (bytesOf b)) (some (.int .i64 i)) none none).run Tryz.prog w = .ok (.string (bytesOf (b.drop t))) w := by
  have hsz : (bytesOf b).size = n := by rw [bytesOf_size, hb]
  subst hi
  have e : (bytesOf b).extract t n = bytesOf (b.drop t) := by rw [extract_bytes, List.take_of_length_le (by rw [List.length_drop]; omega)]
  rw [← e]
  simp [Instr.slice, run_underlying Tryz.underlying9, Instr.sliceBounds, hsz, run_sliceBound_if, ht]
end Go.Proofs.YtlafjdienfokdaaGreat
