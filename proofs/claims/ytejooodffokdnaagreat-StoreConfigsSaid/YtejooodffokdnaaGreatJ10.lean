/-
  The walk of mothballref11.Right.
-/
import Derived.Test.YtejooodffokdnaaGreatJ09
/- RefEC: The walk of mothballref11.Right. -/
namespace Go.Proofs.YtejooodffokdnaaGreat
open Go.RowKit
set_option linter.unusedVariables false
set_option linter.unusedSimpArgs false
end Go.Proofs.YtejooodffokdnaaGreat
