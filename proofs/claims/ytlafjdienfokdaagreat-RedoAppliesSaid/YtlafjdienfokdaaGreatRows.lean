/-
  No cell of these rows narrows 'for every input' (looked for: loops, veiled, ifaces, maps, wideKeys, modest, calm, conditions, laid).
  DERIVED. THE GIVEN ROWS OF THIS SEAT. 4 by the template 'for every input the law returns true; each argument reads behind the call as it read before'; 0 by the template 'total and deterministic' (their statements: YtlafjdienfokdaaGreatTotals.lean).
  GIVEN WITH THE SEED: the statements are not yours to turn. If you find one false, say at which input.
  Laid BY PROGRAM, IN A SANDBOX (cutbox-rows.mjs): the forced cells as the released guide's own fill.sh prints them over the translation b49063a35d521e24… (all of the seat's roots in one cut). By AI agents, Wed Nov 11 2026. No macro, syntax, notation, axiom, sorry.
-/
import Derived.Test.YtlafjdienfokdaaGreatChecked
import GoSem.Claim
import GoSem.ClaimJoined
import GoSem.ClaimMapViews
import Derived.JoinedTies
import Derived.KernelRfl
namespace Go.Proofs.YtlafjdienfokdaaGreat
/- THE CELL 'sum', in the pinned program and in every row, IS THE sha256 OF THE DUMP (.gsa) THAT YtlafjdienfokdaaGreatProg.lean LOADS. Nothing in Lean hashes anything: it is a label: what it is worth is what the hold of that sum in a sandbox is worth. -/
noncomputable def Tryz.pinned : Pinned := { name := "ytlafjdienfokdaagreat", sum := "b49063a35d521e24e64b7756b99a9a84d066d3e02b9091dadb9bdf1f3fb7d066", checked := Tryz.checked }
namespace Rows
def none {H : Type} : Left H := { results := [], args := [] }

/-- 'mothballlaw19.RedoDiffs': WHATEVER THE INPUT: true; the input reads as it did. -/
def redoDiffsSpec : ChangeSpec := { name := "redoDiffs", fn := fun _ => fun
  | [d1, d2, d3] => { results := [.lit (.bool true)], args := [d1, d2, d3] }
  | _ => none }
def redoDiffsRow : OpenClaim := { program := "ytlafjdienfokdaagreat", sum := "b49063a35d521e24e64b7756b99a9a84d066d3e02b9091dadb9bdf1f3fb7d066", func := "mothball/mothballlaw19.RedoDiffs", spec := "redoDiffs", unfollowed := true, recurses := true, plainKeys := false, apart := false }
def RedoDiffsSaid : Prop := redoDiffsRow.holds Tryz.pinned (OpenSpec.ofChange redoDiffsSpec)

/-- ITS FALSE NEIGHBOUR: 'it returns false'. Refute it at one input. -/
def redoDiffsWrong : ChangeSpec := { name := "redoDiffs", fn := fun _ => fun
  | [d1, d2, d3] => { results := [.lit (.bool false)], args := [d1, d2, d3] }
  | _ => none }
def RedoDiffsWrongFalsely : Prop := redoDiffsRow.holds Tryz.pinned (OpenSpec.ofChange redoDiffsWrong)

/-- 'mothballlaw19.RedoApplies': WHATEVER THE INPUT: true; the input reads as it did. -/
def redoAppliesSpec : ChangeSpec := { name := "redoApplies", fn := fun _ => fun
  | [d1, d2, d3] => { results := [.lit (.bool true)], args := [d1, d2, d3] }
  | _ => none }
def redoAppliesRow : OpenClaim := { program := "ytlafjdienfokdaagreat", sum := "b49063a35d521e24e64b7756b99a9a84d066d3e02b9091dadb9bdf1f3fb7d066", func := "mothball/mothballlaw19.RedoApplies", spec := "redoApplies", unfollowed := true, recurses := true, plainKeys := false, apart := false }
def RedoAppliesSaid : Prop := redoAppliesRow.holds Tryz.pinned (OpenSpec.ofChange redoAppliesSpec)

/-- ITS FALSE NEIGHBOUR: 'it returns false'. Refute it at one input. -/
def redoAppliesWrong : ChangeSpec := { name := "redoApplies", fn := fun _ => fun
  | [d1, d2, d3] => { results := [.lit (.bool false)], args := [d1, d2, d3] }
  | _ => none }
def RedoAppliesWrongFalsely : Prop := redoAppliesRow.holds Tryz.pinned (OpenSpec.ofChange redoAppliesWrong)

/-- 'mothballlaw19.RedoRows': WHATEVER THE INPUT: true; the input reads as it did. -/
def redoRowsSpec : ChangeSpec := { name := "redoRows", fn := fun _ => fun
  | [d1, d2] => { results := [.lit (.bool true)], args := [d1, d2] }
  | _ => none }
def redoRowsRow : OpenClaim := { program := "ytlafjdienfokdaagreat", sum := "b49063a35d521e24e64b7756b99a9a84d066d3e02b9091dadb9bdf1f3fb7d066", func := "mothball/mothballlaw19.RedoRows", spec := "redoRows", unfollowed := true, recurses := true, plainKeys := false, apart := false }
def RedoRowsSaid : Prop := redoRowsRow.holds Tryz.pinned (OpenSpec.ofChange redoRowsSpec)

/-- ITS FALSE NEIGHBOUR: 'it returns false'. Refute it at one input. -/
def redoRowsWrong : ChangeSpec := { name := "redoRows", fn := fun _ => fun
  | [d1, d2] => { results := [.lit (.bool false)], args := [d1, d2] }
  | _ => none }
def RedoRowsWrongFalsely : Prop := redoRowsRow.holds Tryz.pinned (OpenSpec.ofChange redoRowsWrong)

/-- 'mothballlaw19.RedoBack': WHATEVER THE INPUT: true; the input reads as it did. -/
def redoBackSpec : ChangeSpec := { name := "redoBack", fn := fun _ => fun
  | [d1, d2, d3] => { results := [.lit (.bool true)], args := [d1, d2, d3] }
  | _ => none }
def redoBackRow : OpenClaim := { program := "ytlafjdienfokdaagreat", sum := "b49063a35d521e24e64b7756b99a9a84d066d3e02b9091dadb9bdf1f3fb7d066", func := "mothball/mothballlaw19.RedoBack", spec := "redoBack", unfollowed := true, recurses := true, plainKeys := false, apart := false }
def RedoBackSaid : Prop := redoBackRow.holds Tryz.pinned (OpenSpec.ofChange redoBackSpec)

/-- ITS FALSE NEIGHBOUR: 'it returns false'. Refute it at one input. -/
def redoBackWrong : ChangeSpec := { name := "redoBack", fn := fun _ => fun
  | [d1, d2, d3] => { results := [.lit (.bool false)], args := [d1, d2, d3] }
  | _ => none }
def RedoBackWrongFalsely : Prop := redoBackRow.holds Tryz.pinned (OpenSpec.ofChange redoBackWrong)

/- THE SECOND FORM. 'bulk': how many values and letters a reading holds, each counted each time it is reached (what is shared counts as often as it is met; a slice's spare places count too). A statement '..UptoSaid' is the law's where the arguments, and the package variables that the reading takes, are together of bulk at most 1048576: NARROWER than '..Said'. Prove '..Said' where nothing that the law and all that it calls make is longer than what came in: it says more and counts as full. Else prove '..UptoSaid'. A law counts once. -/
mutual
def uptoBulk {H : Type} : DataW H → Nat
  | .lit (.string bytes) => bytes.length + 1
  | .lit _ => 1
  | .nil => 1
  | .ptr d => uptoBulk d + 1
  | .slice elems spare => uptoBulkAll elems + uptoBulkAll spare + 1
  | .agg parts => uptoBulkAll parts + 1
  | .iface _ d => uptoBulk d + 1
  | .map entries => uptoBulkEntries entries + 1
  | .held _ => 1
def uptoBulkAll {H : Type} : List (DataW H) → Nat
  | [] => 0
  | d :: r => uptoBulk d + uptoBulkAll r
def uptoBulkEntries {H : Type} : List (Lit × DataW H) → Nat
  | [] => 0
  | x :: r => uptoBulkEntry x + uptoBulkEntries r
def uptoBulkEntry {H : Type} : Lit × DataW H → Nat
  | (.string bytes, d) => bytes.length + uptoBulk d + 1
  | (_, d) => uptoBulk d + 1
 end
def uptoSmall : (H : Type) → List (DataW H) → Bool := fun _ ds => decide (uptoBulkAll ds ≤ 1048576)
def OpenSpec.upto (s : _root_.Go.ChangeSpec) : _root_.Go.OpenSpec := { _root_.Go.OpenSpec.ofChange s with cond := some uptoSmall }

/-- 'mothballlaw19.RedoDiffs', WHERE WHAT IT READS IS OF BULK AT MOST 1048576: true; the input reads as it did. -/
def redoDiffsUptoRow : OpenClaim := { program := "ytlafjdienfokdaagreat", sum := "b49063a35d521e24e64b7756b99a9a84d066d3e02b9091dadb9bdf1f3fb7d066", func := "mothball/mothballlaw19.RedoDiffs", spec := "redoDiffs", unfollowed := true, recurses := true, plainKeys := false, apart := false, narrowed := true }
def RedoDiffsUptoSaid : Prop := redoDiffsUptoRow.holds Tryz.pinned (OpenSpec.upto redoDiffsSpec)

/-- 'mothballlaw19.RedoApplies', WHERE WHAT IT READS IS OF BULK AT MOST 1048576: true; the input reads as it did. -/
def redoAppliesUptoRow : OpenClaim := { program := "ytlafjdienfokdaagreat", sum := "b49063a35d521e24e64b7756b99a9a84d066d3e02b9091dadb9bdf1f3fb7d066", func := "mothball/mothballlaw19.RedoApplies", spec := "redoApplies", unfollowed := true, recurses := true, plainKeys := false, apart := false, narrowed := true }
def RedoAppliesUptoSaid : Prop := redoAppliesUptoRow.holds Tryz.pinned (OpenSpec.upto redoAppliesSpec)

/-- 'mothballlaw19.RedoRows', WHERE WHAT IT READS IS OF BULK AT MOST 1048576: true; the input reads as it did. -/
def redoRowsUptoRow : OpenClaim := { program := "ytlafjdienfokdaagreat", sum := "b49063a35d521e24e64b7756b99a9a84d066d3e02b9091dadb9bdf1f3fb7d066", func := "mothball/mothballlaw19.RedoRows", spec := "redoRows", unfollowed := true, recurses := true, plainKeys := false, apart := false, narrowed := true }
def RedoRowsUptoSaid : Prop := redoRowsUptoRow.holds Tryz.pinned (OpenSpec.upto redoRowsSpec)

/-- 'mothballlaw19.RedoBack', WHERE WHAT IT READS IS OF BULK AT MOST 1048576: true; the input reads as it did. -/
def redoBackUptoRow : OpenClaim := { program := "ytlafjdienfokdaagreat", sum := "b49063a35d521e24e64b7756b99a9a84d066d3e02b9091dadb9bdf1f3fb7d066", func := "mothball/mothballlaw19.RedoBack", spec := "redoBack", unfollowed := true, recurses := true, plainKeys := false, apart := false, narrowed := true }
def RedoBackUptoSaid : Prop := redoBackUptoRow.holds Tryz.pinned (OpenSpec.upto redoBackSpec)

end Rows
end Go.Proofs.YtlafjdienfokdaaGreat
