/-
  No cell of these rows narrows 'for every input' (looked for: loops, veiled, ifaces, maps, wideKeys, modest, calm, conditions, laid).
  DERIVED. THE GIVEN ROWS OF THIS SEAT. 3 by the template 'for every input the law returns true; each argument reads behind the call as it read before'; 0 by the template 'total and deterministic' (their statements: YtfckfjofgbpojaaTotals.lean).
  GIVEN WITH THE SEED: the statements are not yours to turn. If you find one false, say at which input.
  Laid BY PROGRAM, IN A SANDBOX (cutbox-rows.mjs): the forced cells as the released guide's own fill.sh prints them over the translation 42cfe4042d04aefe… (all of the seat's roots in one cut). By AI agents, Wed Nov 11 2026. No macro, syntax, notation, axiom, sorry.
-/
import Derived.Test.YtfckfjofgbpojaaChecked
import GoSem.Claim
import GoSem.ClaimJoined
import GoSem.ClaimMapViews
import Derived.JoinedTies
import Derived.KernelRfl
namespace Go.Proofs.Ytfckfjofgbpojaa
/- THE CELL 'sum', in the pinned program and in every row, IS THE sha256 OF THE DUMP (.gsa) THAT YtfckfjofgbpojaaProg.lean LOADS. Nothing in Lean hashes anything: it is a label: what it is worth is what the hold of that sum in a sandbox is worth. -/
noncomputable def Try.pinned : Pinned := { name := "ytfckfjofgbpojaa", sum := "42cfe4042d04aefe0584c925dc341b4c2c841f042945f3947aec7e7a45154c5d", checked := Try.checked }
namespace Rows
def none {H : Type} : Left H := { results := [], args := [] }

/-- 'mothballlaw12.OverlayParts': WHATEVER THE INPUT: true; the input reads as it did. -/
def overlayPartsSpec : ChangeSpec := { name := "overlayParts", fn := fun _ => fun
  | [d1, d2] => { results := [.lit (.bool true)], args := [d1, d2] }
  | _ => none }
def overlayPartsRow : OpenClaim := { program := "ytfckfjofgbpojaa", sum := "42cfe4042d04aefe0584c925dc341b4c2c841f042945f3947aec7e7a45154c5d", func := "mothball/mothballlaw12.OverlayParts", spec := "overlayParts", recurses := true, plainKeys := false, apart := false }
def OverlayPartsSaid : Prop := overlayPartsRow.holds Try.pinned (OpenSpec.ofChange overlayPartsSpec)

/-- ITS FALSE NEIGHBOUR: 'it returns false'. Refute it at one input. -/
def overlayPartsWrong : ChangeSpec := { name := "overlayParts", fn := fun _ => fun
  | [d1, d2] => { results := [.lit (.bool false)], args := [d1, d2] }
  | _ => none }
def OverlayPartsWrongFalsely : Prop := overlayPartsRow.holds Try.pinned (OpenSpec.ofChange overlayPartsWrong)

/-- 'mothballlaw12.OverlayNever': WHATEVER THE INPUT: true; the input reads as it did. -/
def overlayNeverSpec : ChangeSpec := { name := "overlayNever", fn := fun _ => fun
  | [d1, d2, d3] => { results := [.lit (.bool true)], args := [d1, d2, d3] }
  | _ => none }
def overlayNeverRow : OpenClaim := { program := "ytfckfjofgbpojaa", sum := "42cfe4042d04aefe0584c925dc341b4c2c841f042945f3947aec7e7a45154c5d", func := "mothball/mothballlaw12.OverlayNever", spec := "overlayNever", unfollowed := true, recurses := true, plainKeys := false, apart := false }
def OverlayNeverSaid : Prop := overlayNeverRow.holds Try.pinned (OpenSpec.ofChange overlayNeverSpec)

/-- ITS FALSE NEIGHBOUR: 'it returns false'. Refute it at one input. -/
def overlayNeverWrong : ChangeSpec := { name := "overlayNever", fn := fun _ => fun
  | [d1, d2, d3] => { results := [.lit (.bool false)], args := [d1, d2, d3] }
  | _ => none }
def OverlayNeverWrongFalsely : Prop := overlayNeverRow.holds Try.pinned (OpenSpec.ofChange overlayNeverWrong)

/-- 'mothballlaw12.OverlayDiff': WHATEVER THE INPUT: true; the input reads as it did. -/
def overlayDiffSpec : ChangeSpec := { name := "overlayDiff", fn := fun _ => fun
  | [d1, d2, d3] => { results := [.lit (.bool true)], args := [d1, d2, d3] }
  | _ => none }
def overlayDiffRow : OpenClaim := { program := "ytfckfjofgbpojaa", sum := "42cfe4042d04aefe0584c925dc341b4c2c841f042945f3947aec7e7a45154c5d", func := "mothball/mothballlaw12.OverlayDiff", spec := "overlayDiff", unfollowed := true, recurses := true, plainKeys := false, apart := false }
def OverlayDiffSaid : Prop := overlayDiffRow.holds Try.pinned (OpenSpec.ofChange overlayDiffSpec)

/-- ITS FALSE NEIGHBOUR: 'it returns false'. Refute it at one input. -/
def overlayDiffWrong : ChangeSpec := { name := "overlayDiff", fn := fun _ => fun
  | [d1, d2, d3] => { results := [.lit (.bool false)], args := [d1, d2, d3] }
  | _ => none }
def OverlayDiffWrongFalsely : Prop := overlayDiffRow.holds Try.pinned (OpenSpec.ofChange overlayDiffWrong)

/- THE SECOND FORM. 'bulk': how many values and letters a reading holds, each counted each time it is reached (what is shared counts as often as it is met; a slice's spare places count too). A statement '..UptoSaid' is the law's where the arguments, and the package variables that the reading takes, are together of bulk at most 1048576: NARROWER than '..Said'. Prove '..Said' where nothing that the law and all that it calls make is longer than what came in: it says more and counts as full. Else prove '..UptoSaid'. A law counts once. -/
mutual
def uptoBulk {H : Type} : DataW H → Nat
  | .lit (.string bytes) => bytes.length + 1
  | .lit _ => 1
  | .nil => 1
  | .ptr d => uptoBulk d + 1
  | .slice elems spare => uptoBulkAll elems + uptoBulkAll spare + 1
  | .agg parts => uptoBulkAll parts + 1
  | .iface _ d => uptoBulk d + 1
  | .map entries => uptoBulkEntries entries + 1
  | .held _ => 1
def uptoBulkAll {H : Type} : List (DataW H) → Nat
  | [] => 0
  | d :: r => uptoBulk d + uptoBulkAll r
def uptoBulkEntries {H : Type} : List (Lit × DataW H) → Nat
  | [] => 0
  | x :: r => uptoBulkEntry x + uptoBulkEntries r
def uptoBulkEntry {H : Type} : Lit × DataW H → Nat
  | (.string bytes, d) => bytes.length + uptoBulk d + 1
  | (_, d) => uptoBulk d + 1
 end
def uptoSmall : (H : Type) → List (DataW H) → Bool := fun _ ds => decide (uptoBulkAll ds ≤ 1048576)
def OpenSpec.upto (s : _root_.Go.ChangeSpec) : _root_.Go.OpenSpec := { _root_.Go.OpenSpec.ofChange s with cond := some uptoSmall }

/-- 'mothballlaw12.OverlayParts', WHERE WHAT IT READS IS OF BULK AT MOST 1048576: true; the input reads as it did. -/
def overlayPartsUptoRow : OpenClaim := { program := "ytfckfjofgbpojaa", sum := "42cfe4042d04aefe0584c925dc341b4c2c841f042945f3947aec7e7a45154c5d", func := "mothball/mothballlaw12.OverlayParts", spec := "overlayParts", recurses := true, plainKeys := false, apart := false, narrowed := true }
def OverlayPartsUptoSaid : Prop := overlayPartsUptoRow.holds Try.pinned (OpenSpec.upto overlayPartsSpec)

/-- 'mothballlaw12.OverlayNever', WHERE WHAT IT READS IS OF BULK AT MOST 1048576: true; the input reads as it did. -/
def overlayNeverUptoRow : OpenClaim := { program := "ytfckfjofgbpojaa", sum := "42cfe4042d04aefe0584c925dc341b4c2c841f042945f3947aec7e7a45154c5d", func := "mothball/mothballlaw12.OverlayNever", spec := "overlayNever", unfollowed := true, recurses := true, plainKeys := false, apart := false, narrowed := true }
def OverlayNeverUptoSaid : Prop := overlayNeverUptoRow.holds Try.pinned (OpenSpec.upto overlayNeverSpec)

/-- 'mothballlaw12.OverlayDiff', WHERE WHAT IT READS IS OF BULK AT MOST 1048576: true; the input reads as it did. -/
def overlayDiffUptoRow : OpenClaim := { program := "ytfckfjofgbpojaa", sum := "42cfe4042d04aefe0584c925dc341b4c2c841f042945f3947aec7e7a45154c5d", func := "mothball/mothballlaw12.OverlayDiff", spec := "overlayDiff", unfollowed := true, recurses := true, plainKeys := false, apart := false, narrowed := true }
def OverlayDiffUptoSaid : Prop := overlayDiffUptoRow.holds Try.pinned (OpenSpec.upto overlayDiffSpec)

end Rows
end Go.Proofs.Ytfckfjofgbpojaa
