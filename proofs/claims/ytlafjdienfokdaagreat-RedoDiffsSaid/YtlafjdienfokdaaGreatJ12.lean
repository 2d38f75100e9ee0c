/-
  The walk of mothballref15.Get, where a span of a class may come.
-/
import Derived.Test.YtlafjdienfokdaaGreatJ11
/- SpnQ: The walk of mothballref15.Get, where a span of a class may come. -/
namespace Go.Proofs.YtlafjdienfokdaaGreat
open Go.RowKit
set_option linter.unusedVariables false
set_option linter.unusedSimpArgs false
end Go.Proofs.YtlafjdienfokdaaGreat
