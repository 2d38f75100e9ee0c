/-
  No cell of these rows narrows 'for every input' (looked for: loops, veiled, ifaces, maps, wideKeys, modest, calm, conditions, laid).
  DERIVED. THE GIVEN ROWS OF THIS SEAT. 5 by the template 'for every input the law returns true; each argument reads behind the call as it read before'; 0 by the template 'total and deterministic' (their statements: YtohkjhckgbgmeaaTotals.lean).
  GIVEN WITH THE SEED: the statements are not yours to turn. If you find one false, say at which input.
  Laid BY PROGRAM, IN A SANDBOX (cutbox-rows.mjs): the forced cells as the released guide's own fill.sh prints them over the translation 053809b5b542eb01… (all of the seat's roots in one cut). By AI agents, Wed Nov 11 2026. No macro, syntax, notation, axiom, sorry.
-/
import Derived.Test.YtohkjhckgbgmeaaChecked
import GoSem.Claim
import GoSem.ClaimJoined
import GoSem.ClaimMapViews
import Derived.JoinedTies
import Derived.KernelRfl
namespace Go.Proofs.Ytohkjhckgbgmeaa
/- THE CELL 'sum', in the pinned program and in every row, IS THE sha256 OF THE DUMP (.gsa) THAT YtohkjhckgbgmeaaProg.lean LOADS. Nothing in Lean hashes anything: it is a label: what it is worth is what the hold of that sum in a sandbox is worth. -/
noncomputable def Try.pinned : Pinned := { name := "ytohkjhckgbgmeaa", sum := "053809b5b542eb018117b996ea2be879fa5fd4ae3ebc43f98b9a7fb0a7dec187", checked := Try.checked }
namespace Rows
def none {H : Type} : Left H := { results := [], args := [] }

/-- 'mothballlaw18.StatePuts': WHATEVER THE INPUT: true; the input reads as it did. -/
def statePutsSpec : ChangeSpec := { name := "statePuts", fn := fun _ => fun
  | [d1, d2] => { results := [.lit (.bool true)], args := [d1, d2] }
  | _ => none }
def statePutsRow : OpenClaim := { program := "ytohkjhckgbgmeaa", sum := "053809b5b542eb018117b996ea2be879fa5fd4ae3ebc43f98b9a7fb0a7dec187", func := "mothball/mothballlaw18.StatePuts", spec := "statePuts", unfollowed := true, recurses := true, plainKeys := false, apart := false }
def StatePutsSaid : Prop := statePutsRow.holds Try.pinned (OpenSpec.ofChange statePutsSpec)

/-- ITS FALSE NEIGHBOUR: 'it returns false'. Refute it at one input. -/
def statePutsWrong : ChangeSpec := { name := "statePuts", fn := fun _ => fun
  | [d1, d2] => { results := [.lit (.bool false)], args := [d1, d2] }
  | _ => none }
def StatePutsWrongFalsely : Prop := statePutsRow.holds Try.pinned (OpenSpec.ofChange statePutsWrong)

/-- 'mothballlaw18.StateGets': WHATEVER THE INPUT: true; the input reads as it did. -/
def stateGetsSpec : ChangeSpec := { name := "stateGets", fn := fun _ => fun
  | [d1, d2] => { results := [.lit (.bool true)], args := [d1, d2] }
  | _ => none }
def stateGetsRow : OpenClaim := { program := "ytohkjhckgbgmeaa", sum := "053809b5b542eb018117b996ea2be879fa5fd4ae3ebc43f98b9a7fb0a7dec187", func := "mothball/mothballlaw18.StateGets", spec := "stateGets", unfollowed := true, recurses := true, plainKeys := false, apart := false }
def StateGetsSaid : Prop := stateGetsRow.holds Try.pinned (OpenSpec.ofChange stateGetsSpec)

/-- ITS FALSE NEIGHBOUR: 'it returns false'. Refute it at one input. -/
def stateGetsWrong : ChangeSpec := { name := "stateGets", fn := fun _ => fun
  | [d1, d2] => { results := [.lit (.bool false)], args := [d1, d2] }
  | _ => none }
def StateGetsWrongFalsely : Prop := stateGetsRow.holds Try.pinned (OpenSpec.ofChange stateGetsWrong)

/-- 'mothballlaw18.StateCovers': WHATEVER THE INPUT: true; the input reads as it did. -/
def stateCoversSpec : ChangeSpec := { name := "stateCovers", fn := fun _ => fun
  | [d1, d2, d3] => { results := [.lit (.bool true)], args := [d1, d2, d3] }
  | _ => none }
def stateCoversRow : OpenClaim := { program := "ytohkjhckgbgmeaa", sum := "053809b5b542eb018117b996ea2be879fa5fd4ae3ebc43f98b9a7fb0a7dec187", func := "mothball/mothballlaw18.StateCovers", spec := "stateCovers", unfollowed := true, recurses := true, plainKeys := false, apart := false }
def StateCoversSaid : Prop := stateCoversRow.holds Try.pinned (OpenSpec.ofChange stateCoversSpec)

/-- ITS FALSE NEIGHBOUR: 'it returns false'. Refute it at one input. -/
def stateCoversWrong : ChangeSpec := { name := "stateCovers", fn := fun _ => fun
  | [d1, d2, d3] => { results := [.lit (.bool false)], args := [d1, d2, d3] }
  | _ => none }
def StateCoversWrongFalsely : Prop := stateCoversRow.holds Try.pinned (OpenSpec.ofChange stateCoversWrong)

/-- 'mothballlaw18.StateRights': WHATEVER THE INPUT: true; the input reads as it did. -/
def stateRightsSpec : ChangeSpec := { name := "stateRights", fn := fun _ => fun
  | [d1, d2, d3] => { results := [.lit (.bool true)], args := [d1, d2, d3] }
  | _ => none }
def stateRightsRow : OpenClaim := { program := "ytohkjhckgbgmeaa", sum := "053809b5b542eb018117b996ea2be879fa5fd4ae3ebc43f98b9a7fb0a7dec187", func := "mothball/mothballlaw18.StateRights", spec := "stateRights", unfollowed := true, recurses := true, plainKeys := false, apart := false }
def StateRightsSaid : Prop := stateRightsRow.holds Try.pinned (OpenSpec.ofChange stateRightsSpec)

/-- ITS FALSE NEIGHBOUR: 'it returns false'. Refute it at one input. -/
def stateRightsWrong : ChangeSpec := { name := "stateRights", fn := fun _ => fun
  | [d1, d2, d3] => { results := [.lit (.bool false)], args := [d1, d2, d3] }
  | _ => none }
def StateRightsWrongFalsely : Prop := stateRightsRow.holds Try.pinned (OpenSpec.ofChange stateRightsWrong)

/-- 'mothballlaw18.StateShorter': WHATEVER THE INPUT: true; the input reads as it did. -/
def stateShorterSpec : ChangeSpec := { name := "stateShorter", fn := fun _ => fun
  | [d1, d2, d3] => { results := [.lit (.bool true)], args := [d1, d2, d3] }
  | _ => none }
def stateShorterRow : OpenClaim := { program := "ytohkjhckgbgmeaa", sum := "053809b5b542eb018117b996ea2be879fa5fd4ae3ebc43f98b9a7fb0a7dec187", func := "mothball/mothballlaw18.StateShorter", spec := "stateShorter", unfollowed := true, recurses := true, plainKeys := false, apart := false }
def StateShorterSaid : Prop := stateShorterRow.holds Try.pinned (OpenSpec.ofChange stateShorterSpec)

/-- ITS FALSE NEIGHBOUR: 'it returns false'. Refute it at one input. -/
def stateShorterWrong : ChangeSpec := { name := "stateShorter", fn := fun _ => fun
  | [d1, d2, d3] => { results := [.lit (.bool false)], args := [d1, d2, d3] }
  | _ => none }
def StateShorterWrongFalsely : Prop := stateShorterRow.holds Try.pinned (OpenSpec.ofChange stateShorterWrong)

/- THE SECOND FORM. 'bulk': how many values and letters a reading holds, each counted each time it is reached (what is shared counts as often as it is met; a slice's spare places count too). A statement '..UptoSaid' is the law's where the arguments, and the package variables that the reading takes, are together of bulk at most 1048576: NARROWER than '..Said'. Prove '..Said' where nothing that the law and all that it calls make is longer than what came in: it says more and counts as full. Else prove '..UptoSaid'. A law counts once. -/
mutual
def uptoBulk {H : Type} : DataW H → Nat
  | .lit (.string bytes) => bytes.length + 1
  | .lit _ => 1
  | .nil => 1
  | .ptr d => uptoBulk d + 1
  | .slice elems spare => uptoBulkAll elems + uptoBulkAll spare + 1
  | .agg parts => uptoBulkAll parts + 1
  | .iface _ d => uptoBulk d + 1
  | .map entries => uptoBulkEntries entries + 1
  | .held _ => 1
def uptoBulkAll {H : Type} : List (DataW H) → Nat
  | [] => 0
  | d :: r => uptoBulk d + uptoBulkAll r
def uptoBulkEntries {H : Type} : List (Lit × DataW H) → Nat
  | [] => 0
  | x :: r => uptoBulkEntry x + uptoBulkEntries r
def uptoBulkEntry {H : Type} : Lit × DataW H → Nat
  | (.string bytes, d) => bytes.length + uptoBulk d + 1
  | (_, d) => uptoBulk d + 1
 end
def uptoSmall : (H : Type) → List (DataW H) → Bool := fun _ ds => decide (uptoBulkAll ds ≤ 1048576)
def OpenSpec.upto (s : _root_.Go.ChangeSpec) : _root_.Go.OpenSpec := { _root_.Go.OpenSpec.ofChange s with cond := some uptoSmall }

/-- 'mothballlaw18.StatePuts', WHERE WHAT IT READS IS OF BULK AT MOST 1048576: true; the input reads as it did. -/
def statePutsUptoRow : OpenClaim := { program := "ytohkjhckgbgmeaa", sum := "053809b5b542eb018117b996ea2be879fa5fd4ae3ebc43f98b9a7fb0a7dec187", func := "mothball/mothballlaw18.StatePuts", spec := "statePuts", unfollowed := true, recurses := true, plainKeys := false, apart := false, narrowed := true }
def StatePutsUptoSaid : Prop := statePutsUptoRow.holds Try.pinned (OpenSpec.upto statePutsSpec)

/-- 'mothballlaw18.StateGets', WHERE WHAT IT READS IS OF BULK AT MOST 1048576: true; the input reads as it did. -/
def stateGetsUptoRow : OpenClaim := { program := "ytohkjhckgbgmeaa", sum := "053809b5b542eb018117b996ea2be879fa5fd4ae3ebc43f98b9a7fb0a7dec187", func := "mothball/mothballlaw18.StateGets", spec := "stateGets", unfollowed := true, recurses := true, plainKeys := false, apart := false, narrowed := true }
def StateGetsUptoSaid : Prop := stateGetsUptoRow.holds Try.pinned (OpenSpec.upto stateGetsSpec)

/-- 'mothballlaw18.StateCovers', WHERE WHAT IT READS IS OF BULK AT MOST 1048576: true; the input reads as it did. -/
def stateCoversUptoRow : OpenClaim := { program := "ytohkjhckgbgmeaa", sum := "053809b5b542eb018117b996ea2be879fa5fd4ae3ebc43f98b9a7fb0a7dec187", func := "mothball/mothballlaw18.StateCovers", spec := "stateCovers", unfollowed := true, recurses := true, plainKeys := false, apart := false, narrowed := true }
def StateCoversUptoSaid : Prop := stateCoversUptoRow.holds Try.pinned (OpenSpec.upto stateCoversSpec)

/-- 'mothballlaw18.StateRights', WHERE WHAT IT READS IS OF BULK AT MOST 1048576: true; the input reads as it did. -/
def stateRightsUptoRow : OpenClaim := { program := "ytohkjhckgbgmeaa", sum := "053809b5b542eb018117b996ea2be879fa5fd4ae3ebc43f98b9a7fb0a7dec187", func := "mothball/mothballlaw18.StateRights", spec := "stateRights", unfollowed := true, recurses := true, plainKeys := false, apart := false, narrowed := true }
def StateRightsUptoSaid : Prop := stateRightsUptoRow.holds Try.pinned (OpenSpec.upto stateRightsSpec)

/-- 'mothballlaw18.StateShorter', WHERE WHAT IT READS IS OF BULK AT MOST 1048576: true; the input reads as it did. -/
def stateShorterUptoRow : OpenClaim := { program := "ytohkjhckgbgmeaa", sum := "053809b5b542eb018117b996ea2be879fa5fd4ae3ebc43f98b9a7fb0a7dec187", func := "mothball/mothballlaw18.StateShorter", spec := "stateShorter", unfollowed := true, recurses := true, plainKeys := false, apart := false, narrowed := true }
def StateShorterUptoSaid : Prop := stateShorterUptoRow.holds Try.pinned (OpenSpec.upto stateShorterSpec)

end Rows
end Go.Proofs.Ytohkjhckgbgmeaa
