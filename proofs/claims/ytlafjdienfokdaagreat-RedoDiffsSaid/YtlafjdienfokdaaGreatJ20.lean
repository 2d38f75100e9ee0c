/-
  The walk of mothballref18.Get.
-/
import Derived.Test.YtlafjdienfokdaaGreatJ19
/- StR: The walk of mothballref18.Get. -/
namespace Go.Proofs.YtlafjdienfokdaaGreat
open Go.RowKit
set_option linter.unusedVariables false
set_option linter.unusedSimpArgs false
end Go.Proofs.YtlafjdienfokdaaGreat
