/-
  The walk of mothballref15.Get.
-/
import Derived.Test.YtlafjdienfokdaaGreatJ09
/- SpnP: The walk of mothballref15.Get. -/
namespace Go.Proofs.YtlafjdienfokdaaGreat
open Go.RowKit
set_option linter.unusedVariables false
set_option linter.unusedSimpArgs false
end Go.Proofs.YtlafjdienfokdaaGreat
