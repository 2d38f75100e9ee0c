/-
  No cell of these rows narrows 'for every input' (looked for: loops, veiled, ifaces, maps, wideKeys, modest, calm, conditions, laid).
  DERIVED. THE GIVEN ROWS OF THIS SEAT. 4 by the template 'for every input the law returns true; each argument reads behind the call as it read before'; 0 by the template 'total and deterministic' (their statements: YtokgceomndckfaaTotals.lean).
  GIVEN WITH THE SEED: the statements are not yours to turn. If you find one false, say at which input.
  Laid BY PROGRAM, IN A SANDBOX (cutbox-rows.mjs): the forced cells as the released guide's own fill.sh prints them over the translation 7a2882b46ef2c887… (all of the seat's roots in one cut). By AI agents, Wed Nov 11 2026. No macro, syntax, notation, axiom, sorry.
-/
import Derived.Test.YtokgceomndckfaaChecked
import GoSem.Claim
import GoSem.ClaimJoined
import GoSem.ClaimMapViews
import Derived.JoinedTies
import Derived.KernelRfl
namespace Go.Proofs.Ytokgceomndckfaa
/- THE CELL 'sum', in the pinned program and in every row, IS THE sha256 OF THE DUMP (.gsa) THAT YtokgceomndckfaaProg.lean LOADS. Nothing in Lean hashes anything: it is a label: what it is worth is what the hold of that sum in a sandbox is worth. -/
noncomputable def Try.pinned : Pinned := { name := "ytokgceomndckfaa", sum := "7a2882b46ef2c887d0990058c5a268db0a934d826451e77d84d78942d24dbec8", checked := Try.checked }
namespace Rows
def none {H : Type} : Left H := { results := [], args := [] }

/-- 'mothballlaw24.PagerSame': WHATEVER THE INPUT: true; the input reads as it did. -/
def pagerSameSpec : ChangeSpec := { name := "pagerSame", fn := fun _ => fun
  | [d1, d2] => { results := [.lit (.bool true)], args := [d1, d2] }
  | _ => none }
def pagerSameRow : OpenClaim := { program := "ytokgceomndckfaa", sum := "7a2882b46ef2c887d0990058c5a268db0a934d826451e77d84d78942d24dbec8", func := "mothball/mothballlaw24.PagerSame", spec := "pagerSame", unfollowed := true, recurses := true, plainKeys := false, apart := false }
def PagerSameSaid : Prop := pagerSameRow.holds Try.pinned (OpenSpec.ofChange pagerSameSpec)

/-- ITS FALSE NEIGHBOUR: 'it returns false'. Refute it at one input. -/
def pagerSameWrong : ChangeSpec := { name := "pagerSame", fn := fun _ => fun
  | [d1, d2] => { results := [.lit (.bool false)], args := [d1, d2] }
  | _ => none }
def PagerSameWrongFalsely : Prop := pagerSameRow.holds Try.pinned (OpenSpec.ofChange pagerSameWrong)

/-- 'mothballlaw24.PagerAhead': WHATEVER THE INPUT: true; the input reads as it did. -/
def pagerAheadSpec : ChangeSpec := { name := "pagerAhead", fn := fun _ => fun
  | [d1, d2, d3] => { results := [.lit (.bool true)], args := [d1, d2, d3] }
  | _ => none }
def pagerAheadRow : OpenClaim := { program := "ytokgceomndckfaa", sum := "7a2882b46ef2c887d0990058c5a268db0a934d826451e77d84d78942d24dbec8", func := "mothball/mothballlaw24.PagerAhead", spec := "pagerAhead", unfollowed := true, recurses := true, plainKeys := false, apart := false }
def PagerAheadSaid : Prop := pagerAheadRow.holds Try.pinned (OpenSpec.ofChange pagerAheadSpec)

/-- ITS FALSE NEIGHBOUR: 'it returns false'. Refute it at one input. -/
def pagerAheadWrong : ChangeSpec := { name := "pagerAhead", fn := fun _ => fun
  | [d1, d2, d3] => { results := [.lit (.bool false)], args := [d1, d2, d3] }
  | _ => none }
def PagerAheadWrongFalsely : Prop := pagerAheadRow.holds Try.pinned (OpenSpec.ofChange pagerAheadWrong)

/-- 'mothballlaw24.PagerFlush': WHATEVER THE INPUT: true; the input reads as it did. -/
def pagerFlushSpec : ChangeSpec := { name := "pagerFlush", fn := fun _ => fun
  | [d1, d2] => { results := [.lit (.bool true)], args := [d1, d2] }
  | _ => none }
def pagerFlushRow : OpenClaim := { program := "ytokgceomndckfaa", sum := "7a2882b46ef2c887d0990058c5a268db0a934d826451e77d84d78942d24dbec8", func := "mothball/mothballlaw24.PagerFlush", spec := "pagerFlush", unfollowed := true, recurses := true, plainKeys := false, apart := false }
def PagerFlushSaid : Prop := pagerFlushRow.holds Try.pinned (OpenSpec.ofChange pagerFlushSpec)

/-- ITS FALSE NEIGHBOUR: 'it returns false'. Refute it at one input. -/
def pagerFlushWrong : ChangeSpec := { name := "pagerFlush", fn := fun _ => fun
  | [d1, d2] => { results := [.lit (.bool false)], args := [d1, d2] }
  | _ => none }
def PagerFlushWrongFalsely : Prop := pagerFlushRow.holds Try.pinned (OpenSpec.ofChange pagerFlushWrong)

/-- 'mothballlaw24.PagerPinned': WHATEVER THE INPUT: true; the input reads as it did. -/
def pagerPinnedSpec : ChangeSpec := { name := "pagerPinned", fn := fun _ => fun
  | [d1, d2] => { results := [.lit (.bool true)], args := [d1, d2] }
  | _ => none }
def pagerPinnedRow : OpenClaim := { program := "ytokgceomndckfaa", sum := "7a2882b46ef2c887d0990058c5a268db0a934d826451e77d84d78942d24dbec8", func := "mothball/mothballlaw24.PagerPinned", spec := "pagerPinned", unfollowed := true, recurses := true, plainKeys := false, apart := false }
def PagerPinnedSaid : Prop := pagerPinnedRow.holds Try.pinned (OpenSpec.ofChange pagerPinnedSpec)

/-- ITS FALSE NEIGHBOUR: 'it returns false'. Refute it at one input. -/
def pagerPinnedWrong : ChangeSpec := { name := "pagerPinned", fn := fun _ => fun
  | [d1, d2] => { results := [.lit (.bool false)], args := [d1, d2] }
  | _ => none }
def PagerPinnedWrongFalsely : Prop := pagerPinnedRow.holds Try.pinned (OpenSpec.ofChange pagerPinnedWrong)

/- THE SECOND FORM. 'bulk': how many values and letters a reading holds, each counted each time it is reached (what is shared counts as often as it is met; a slice's spare places count too). A statement '..UptoSaid' is the law's where the arguments, and the package variables that the reading takes, are together of bulk at most 1048576: NARROWER than '..Said'. Prove '..Said' where nothing that the law and all that it calls make is longer than what came in: it says more and counts as full. Else prove '..UptoSaid'. A law counts once. -/
mutual
def uptoBulk {H : Type} : DataW H → Nat
  | .lit (.string bytes) => bytes.length + 1
  | .lit _ => 1
  | .nil => 1
  | .ptr d => uptoBulk d + 1
  | .slice elems spare => uptoBulkAll elems + uptoBulkAll spare + 1
  | .agg parts => uptoBulkAll parts + 1
  | .iface _ d => uptoBulk d + 1
  | .map entries => uptoBulkEntries entries + 1
  | .held _ => 1
def uptoBulkAll {H : Type} : List (DataW H) → Nat
  | [] => 0
  | d :: r => uptoBulk d + uptoBulkAll r
def uptoBulkEntries {H : Type} : List (Lit × DataW H) → Nat
  | [] => 0
  | x :: r => uptoBulkEntry x + uptoBulkEntries r
def uptoBulkEntry {H : Type} : Lit × DataW H → Nat
  | (.string bytes, d) => bytes.length + uptoBulk d + 1
  | (_, d) => uptoBulk d + 1
 end
def uptoSmall : (H : Type) → List (DataW H) → Bool := fun _ ds => decide (uptoBulkAll ds ≤ 1048576)
def OpenSpec.upto (s : _root_.Go.ChangeSpec) : _root_.Go.OpenSpec := { _root_.Go.OpenSpec.ofChange s with cond := some uptoSmall }

/-- 'mothballlaw24.PagerSame', WHERE WHAT IT READS IS OF BULK AT MOST 1048576: true; the input reads as it did. -/
def pagerSameUptoRow : OpenClaim := { program := "ytokgceomndckfaa", sum := "7a2882b46ef2c887d0990058c5a268db0a934d826451e77d84d78942d24dbec8", func := "mothball/mothballlaw24.PagerSame", spec := "pagerSame", unfollowed := true, recurses := true, plainKeys := false, apart := false, narrowed := true }
def PagerSameUptoSaid : Prop := pagerSameUptoRow.holds Try.pinned (OpenSpec.upto pagerSameSpec)

/-- 'mothballlaw24.PagerAhead', WHERE WHAT IT READS IS OF BULK AT MOST 1048576: true; the input reads as it did. -/
def pagerAheadUptoRow : OpenClaim := { program := "ytokgceomndckfaa", sum := "7a2882b46ef2c887d0990058c5a268db0a934d826451e77d84d78942d24dbec8", func := "mothball/mothballlaw24.PagerAhead", spec := "pagerAhead", unfollowed := true, recurses := true, plainKeys := false, apart := false, narrowed := true }
def PagerAheadUptoSaid : Prop := pagerAheadUptoRow.holds Try.pinned (OpenSpec.upto pagerAheadSpec)

/-- 'mothballlaw24.PagerFlush', WHERE WHAT IT READS IS OF BULK AT MOST 1048576: true; the input reads as it did. -/
def pagerFlushUptoRow : OpenClaim := { program := "ytokgceomndckfaa", sum := "7a2882b46ef2c887d0990058c5a268db0a934d826451e77d84d78942d24dbec8", func := "mothball/mothballlaw24.PagerFlush", spec := "pagerFlush", unfollowed := true, recurses := true, plainKeys := false, apart := false, narrowed := true }
def PagerFlushUptoSaid : Prop := pagerFlushUptoRow.holds Try.pinned (OpenSpec.upto pagerFlushSpec)

/-- 'mothballlaw24.PagerPinned', WHERE WHAT IT READS IS OF BULK AT MOST 1048576: true; the input reads as it did. -/
def pagerPinnedUptoRow : OpenClaim := { program := "ytokgceomndckfaa", sum := "7a2882b46ef2c887d0990058c5a268db0a934d826451e77d84d78942d24dbec8", func := "mothball/mothballlaw24.PagerPinned", spec := "pagerPinned", unfollowed := true, recurses := true, plainKeys := false, apart := false, narrowed := true }
def PagerPinnedUptoSaid : Prop := pagerPinnedUptoRow.holds Try.pinned (OpenSpec.upto pagerPinnedSpec)

end Rows
end Go.Proofs.Ytokgceomndckfaa
