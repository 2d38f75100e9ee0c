/-
  No cell of these rows narrows 'for every input' (looked for: loops, veiled, ifaces, maps, wideKeys, modest, calm, conditions, laid).
  DERIVED. THE GIVEN ROWS OF THIS SEAT. 11 by the template 'for every input the law returns true; each argument reads behind the call as it read before'; 0 by the template 'total and deterministic' (their statements: YtnpifkebdkjpjaaTotals.lean).
  GIVEN WITH THE SEED: the statements are not yours to turn. If you find one false, say at which input.
  Laid BY PROGRAM, IN A SANDBOX (cutbox-rows.mjs): the forced cells as the released guide's own fill.sh prints them over the translation 50baf280e82cf7ee… (all of the seat's roots in one cut). By AI agents, Wed Nov 11 2026. No macro, syntax, notation, axiom, sorry.
-/
import Derived.Test.YtnpifkebdkjpjaaChecked
import GoSem.Claim
import GoSem.ClaimJoined
import GoSem.ClaimMapViews
import Derived.JoinedTies
import Derived.KernelRfl
namespace Go.Proofs.Ytnpifkebdkjpjaa
/- THE CELL 'sum', in the pinned program and in every row, IS THE sha256 OF THE DUMP (.gsa) THAT YtnpifkebdkjpjaaProg.lean LOADS. Nothing in Lean hashes anything: it is a label: what it is worth is what the hold of that sum in a sandbox is worth. -/
noncomputable def Try.pinned : Pinned := { name := "ytnpifkebdkjpjaa", sum := "50baf280e82cf7eed92566c024ca6f42195485333970213bbc77f4ddefb52dc6", checked := Try.checked }
namespace Rows
def none {H : Type} : Left H := { results := [], args := [] }

/-- 'mothballlaw11.EntryLists': WHATEVER THE INPUT: true; the input reads as it did. -/
def entryListsSpec : ChangeSpec := { name := "entryLists", fn := fun _ => fun
  | [d1, d2, d3] => { results := [.lit (.bool true)], args := [d1, d2, d3] }
  | _ => none }
def entryListsRow : OpenClaim := { program := "ytnpifkebdkjpjaa", sum := "50baf280e82cf7eed92566c024ca6f42195485333970213bbc77f4ddefb52dc6", func := "mothball/mothballlaw11.EntryLists", spec := "entryLists", plainKeys := false, apart := false }
def EntryListsSaid : Prop := entryListsRow.holds Try.pinned (OpenSpec.ofChange entryListsSpec)

/-- ITS FALSE NEIGHBOUR: 'it returns false'. Refute it at one input. -/
def entryListsWrong : ChangeSpec := { name := "entryLists", fn := fun _ => fun
  | [d1, d2, d3] => { results := [.lit (.bool false)], args := [d1, d2, d3] }
  | _ => none }
def EntryListsWrongFalsely : Prop := entryListsRow.holds Try.pinned (OpenSpec.ofChange entryListsWrong)

/-- 'mothballlaw11.EntrySums': WHATEVER THE INPUT: true; the input reads as it did. -/
def entrySumsSpec : ChangeSpec := { name := "entrySums", fn := fun _ => fun
  | [d1, d2, d3] => { results := [.lit (.bool true)], args := [d1, d2, d3] }
  | _ => none }
def entrySumsRow : OpenClaim := { program := "ytnpifkebdkjpjaa", sum := "50baf280e82cf7eed92566c024ca6f42195485333970213bbc77f4ddefb52dc6", func := "mothball/mothballlaw11.EntrySums", spec := "entrySums", plainKeys := false, apart := false }
def EntrySumsSaid : Prop := entrySumsRow.holds Try.pinned (OpenSpec.ofChange entrySumsSpec)

/-- ITS FALSE NEIGHBOUR: 'it returns false'. Refute it at one input. -/
def entrySumsWrong : ChangeSpec := { name := "entrySums", fn := fun _ => fun
  | [d1, d2, d3] => { results := [.lit (.bool false)], args := [d1, d2, d3] }
  | _ => none }
def EntrySumsWrongFalsely : Prop := entrySumsRow.holds Try.pinned (OpenSpec.ofChange entrySumsWrong)

/-- 'mothballlaw11.EntryMoved': WHATEVER THE INPUT: true; the input reads as it did. -/
def entryMovedSpec : ChangeSpec := { name := "entryMoved", fn := fun _ => fun
  | [d1, d2, d3] => { results := [.lit (.bool true)], args := [d1, d2, d3] }
  | _ => none }
def entryMovedRow : OpenClaim := { program := "ytnpifkebdkjpjaa", sum := "50baf280e82cf7eed92566c024ca6f42195485333970213bbc77f4ddefb52dc6", func := "mothball/mothballlaw11.EntryMoved", spec := "entryMoved", plainKeys := false, apart := false }
def EntryMovedSaid : Prop := entryMovedRow.holds Try.pinned (OpenSpec.ofChange entryMovedSpec)

/-- ITS FALSE NEIGHBOUR: 'it returns false'. Refute it at one input. -/
def entryMovedWrong : ChangeSpec := { name := "entryMoved", fn := fun _ => fun
  | [d1, d2, d3] => { results := [.lit (.bool false)], args := [d1, d2, d3] }
  | _ => none }
def EntryMovedWrongFalsely : Prop := entryMovedRow.holds Try.pinned (OpenSpec.ofChange entryMovedWrong)

/-- 'mothballlaw10.KeyRuns': WHATEVER THE INPUT: true; the input reads as it did. -/
def keyRunsSpec : ChangeSpec := { name := "keyRuns", fn := fun _ => fun
  | [d] => { results := [.lit (.bool true)], args := [d] }
  | _ => none }
def keyRunsRow : OpenClaim := { program := "ytnpifkebdkjpjaa", sum := "50baf280e82cf7eed92566c024ca6f42195485333970213bbc77f4ddefb52dc6", func := "mothball/mothballlaw10.KeyRuns", spec := "keyRuns", unfollowed := true, recurses := true, plainKeys := false, apart := false }
def KeyRunsSaid : Prop := keyRunsRow.holds Try.pinned (OpenSpec.ofChange keyRunsSpec)

/-- ITS FALSE NEIGHBOUR: 'it returns false'. Refute it at one input. -/
def keyRunsWrong : ChangeSpec := { name := "keyRuns", fn := fun _ => fun
  | [d] => { results := [.lit (.bool false)], args := [d] }
  | _ => none }
def KeyRunsWrongFalsely : Prop := keyRunsRow.holds Try.pinned (OpenSpec.ofChange keyRunsWrong)

/-- 'mothballlaw10.KeyApart': WHATEVER THE INPUT: true; the input reads as it did. -/
def keyApartSpec : ChangeSpec := { name := "keyApart", fn := fun _ => fun
  | [d] => { results := [.lit (.bool true)], args := [d] }
  | _ => none }
def keyApartRow : OpenClaim := { program := "ytnpifkebdkjpjaa", sum := "50baf280e82cf7eed92566c024ca6f42195485333970213bbc77f4ddefb52dc6", func := "mothball/mothballlaw10.KeyApart", spec := "keyApart", unfollowed := true, recurses := true, plainKeys := false, apart := false }
def KeyApartSaid : Prop := keyApartRow.holds Try.pinned (OpenSpec.ofChange keyApartSpec)

/-- ITS FALSE NEIGHBOUR: 'it returns false'. Refute it at one input. -/
def keyApartWrong : ChangeSpec := { name := "keyApart", fn := fun _ => fun
  | [d] => { results := [.lit (.bool false)], args := [d] }
  | _ => none }
def KeyApartWrongFalsely : Prop := keyApartRow.holds Try.pinned (OpenSpec.ofChange keyApartWrong)

/-- 'mothballlaw10.KeyNumbers': WHATEVER THE INPUT: true; the input reads as it did. -/
def keyNumbersSpec : ChangeSpec := { name := "keyNumbers", fn := fun _ => fun
  | [d1, d2, d3] => { results := [.lit (.bool true)], args := [d1, d2, d3] }
  | _ => none }
def keyNumbersRow : OpenClaim := { program := "ytnpifkebdkjpjaa", sum := "50baf280e82cf7eed92566c024ca6f42195485333970213bbc77f4ddefb52dc6", func := "mothball/mothballlaw10.KeyNumbers", spec := "keyNumbers", unfollowed := true, recurses := true, plainKeys := false, apart := false }
def KeyNumbersSaid : Prop := keyNumbersRow.holds Try.pinned (OpenSpec.ofChange keyNumbersSpec)

/-- ITS FALSE NEIGHBOUR: 'it returns false'. Refute it at one input. -/
def keyNumbersWrong : ChangeSpec := { name := "keyNumbers", fn := fun _ => fun
  | [d1, d2, d3] => { results := [.lit (.bool false)], args := [d1, d2, d3] }
  | _ => none }
def KeyNumbersWrongFalsely : Prop := keyNumbersRow.holds Try.pinned (OpenSpec.ofChange keyNumbersWrong)

/-- 'mothballlaw10.KeySorts': WHATEVER THE INPUT: true; the input reads as it did. -/
def keySortsSpec : ChangeSpec := { name := "keySorts", fn := fun _ => fun
  | [d1, d2] => { results := [.lit (.bool true)], args := [d1, d2] }
  | _ => none }
def keySortsRow : OpenClaim := { program := "ytnpifkebdkjpjaa", sum := "50baf280e82cf7eed92566c024ca6f42195485333970213bbc77f4ddefb52dc6", func := "mothball/mothballlaw10.KeySorts", spec := "keySorts", unfollowed := true, recurses := true, plainKeys := false, apart := false }
def KeySortsSaid : Prop := keySortsRow.holds Try.pinned (OpenSpec.ofChange keySortsSpec)

/-- ITS FALSE NEIGHBOUR: 'it returns false'. Refute it at one input. -/
def keySortsWrong : ChangeSpec := { name := "keySorts", fn := fun _ => fun
  | [d1, d2] => { results := [.lit (.bool false)], args := [d1, d2] }
  | _ => none }
def KeySortsWrongFalsely : Prop := keySortsRow.holds Try.pinned (OpenSpec.ofChange keySortsWrong)

/-- 'mothballlaw23.FrameWrites': WHATEVER THE INPUT: true; the input reads as it did. -/
def frameWritesSpec : ChangeSpec := { name := "frameWrites", fn := fun _ => fun
  | [d1, d2] => { results := [.lit (.bool true)], args := [d1, d2] }
  | _ => none }
def frameWritesRow : OpenClaim := { program := "ytnpifkebdkjpjaa", sum := "50baf280e82cf7eed92566c024ca6f42195485333970213bbc77f4ddefb52dc6", func := "mothball/mothballlaw23.FrameWrites", spec := "frameWrites", unfollowed := true, recurses := true, plainKeys := false, apart := false }
def FrameWritesSaid : Prop := frameWritesRow.holds Try.pinned (OpenSpec.ofChange frameWritesSpec)

/-- ITS FALSE NEIGHBOUR: 'it returns false'. Refute it at one input. -/
def frameWritesWrong : ChangeSpec := { name := "frameWrites", fn := fun _ => fun
  | [d1, d2] => { results := [.lit (.bool false)], args := [d1, d2] }
  | _ => none }
def FrameWritesWrongFalsely : Prop := frameWritesRow.holds Try.pinned (OpenSpec.ofChange frameWritesWrong)

/-- 'mothballlaw23.FrameFull': WHATEVER THE INPUT: true; the input reads as it did. -/
def frameFullSpec : ChangeSpec := { name := "frameFull", fn := fun _ => fun
  | [d1, d2] => { results := [.lit (.bool true)], args := [d1, d2] }
  | _ => none }
def frameFullRow : OpenClaim := { program := "ytnpifkebdkjpjaa", sum := "50baf280e82cf7eed92566c024ca6f42195485333970213bbc77f4ddefb52dc6", func := "mothball/mothballlaw23.FrameFull", spec := "frameFull", unfollowed := true, recurses := true, plainKeys := false, apart := false }
def FrameFullSaid : Prop := frameFullRow.holds Try.pinned (OpenSpec.ofChange frameFullSpec)

/-- ITS FALSE NEIGHBOUR: 'it returns false'. Refute it at one input. -/
def frameFullWrong : ChangeSpec := { name := "frameFull", fn := fun _ => fun
  | [d1, d2] => { results := [.lit (.bool false)], args := [d1, d2] }
  | _ => none }
def FrameFullWrongFalsely : Prop := frameFullRow.holds Try.pinned (OpenSpec.ofChange frameFullWrong)

/-- 'mothballlaw23.FramePins': WHATEVER THE INPUT: true; the input reads as it did. -/
def framePinsSpec : ChangeSpec := { name := "framePins", fn := fun _ => fun
  | [d1, d2, d3] => { results := [.lit (.bool true)], args := [d1, d2, d3] }
  | _ => none }
def framePinsRow : OpenClaim := { program := "ytnpifkebdkjpjaa", sum := "50baf280e82cf7eed92566c024ca6f42195485333970213bbc77f4ddefb52dc6", func := "mothball/mothballlaw23.FramePins", spec := "framePins", unfollowed := true, recurses := true, plainKeys := false, apart := false }
def FramePinsSaid : Prop := framePinsRow.holds Try.pinned (OpenSpec.ofChange framePinsSpec)

/-- ITS FALSE NEIGHBOUR: 'it returns false'. Refute it at one input. -/
def framePinsWrong : ChangeSpec := { name := "framePins", fn := fun _ => fun
  | [d1, d2, d3] => { results := [.lit (.bool false)], args := [d1, d2, d3] }
  | _ => none }
def FramePinsWrongFalsely : Prop := framePinsRow.holds Try.pinned (OpenSpec.ofChange framePinsWrong)

/-- 'mothballlaw11.EntryApplies': WHATEVER THE INPUT: true; the input reads as it did. -/
def entryAppliesSpec : ChangeSpec := { name := "entryApplies", fn := fun _ => fun
  | [d1, d2, d3] => { results := [.lit (.bool true)], args := [d1, d2, d3] }
  | _ => none }
def entryAppliesRow : OpenClaim := { program := "ytnpifkebdkjpjaa", sum := "50baf280e82cf7eed92566c024ca6f42195485333970213bbc77f4ddefb52dc6", func := "mothball/mothballlaw11.EntryApplies", spec := "entryApplies", unfollowed := true, recurses := true, plainKeys := false, apart := false }
def EntryAppliesSaid : Prop := entryAppliesRow.holds Try.pinned (OpenSpec.ofChange entryAppliesSpec)

/-- ITS FALSE NEIGHBOUR: 'it returns false'. Refute it at one input. -/
def entryAppliesWrong : ChangeSpec := { name := "entryApplies", fn := fun _ => fun
  | [d1, d2, d3] => { results := [.lit (.bool false)], args := [d1, d2, d3] }
  | _ => none }
def EntryAppliesWrongFalsely : Prop := entryAppliesRow.holds Try.pinned (OpenSpec.ofChange entryAppliesWrong)

/- THE SECOND FORM. 'bulk': how many values and letters a reading holds, each counted each time it is reached (what is shared counts as often as it is met; a slice's spare places count too). A statement '..UptoSaid' is the law's where the arguments, and the package variables that the reading takes, are together of bulk at most 1048576: NARROWER than '..Said'. Prove '..Said' where nothing that the law and all that it calls make is longer than what came in: it says more and counts as full. Else prove '..UptoSaid'. A law counts once. -/
mutual
def uptoBulk {H : Type} : DataW H → Nat
  | .lit (.string bytes) => bytes.length + 1
  | .lit _ => 1
  | .nil => 1
  | .ptr d => uptoBulk d + 1
  | .slice elems spare => uptoBulkAll elems + uptoBulkAll spare + 1
  | .agg parts => uptoBulkAll parts + 1
  | .iface _ d => uptoBulk d + 1
  | .map entries => uptoBulkEntries entries + 1
  | .held _ => 1
def uptoBulkAll {H : Type} : List (DataW H) → Nat
  | [] => 0
  | d :: r => uptoBulk d + uptoBulkAll r
def uptoBulkEntries {H : Type} : List (Lit × DataW H) → Nat
  | [] => 0
  | x :: r => uptoBulkEntry x + uptoBulkEntries r
def uptoBulkEntry {H : Type} : Lit × DataW H → Nat
  | (.string bytes, d) => bytes.length + uptoBulk d + 1
  | (_, d) => uptoBulk d + 1
 end
def uptoSmall : (H : Type) → List (DataW H) → Bool := fun _ ds => decide (uptoBulkAll ds ≤ 1048576)
def OpenSpec.upto (s : _root_.Go.ChangeSpec) : _root_.Go.OpenSpec := { _root_.Go.OpenSpec.ofChange s with cond := some uptoSmall }

/-- 'mothballlaw11.EntryLists', WHERE WHAT IT READS IS OF BULK AT MOST 1048576: true; the input reads as it did. -/
def entryListsUptoRow : OpenClaim := { program := "ytnpifkebdkjpjaa", sum := "50baf280e82cf7eed92566c024ca6f42195485333970213bbc77f4ddefb52dc6", func := "mothball/mothballlaw11.EntryLists", spec := "entryLists", plainKeys := false, apart := false, narrowed := true }
def EntryListsUptoSaid : Prop := entryListsUptoRow.holds Try.pinned (OpenSpec.upto entryListsSpec)

/-- 'mothballlaw11.EntrySums', WHERE WHAT IT READS IS OF BULK AT MOST 1048576: true; the input reads as it did. -/
def entrySumsUptoRow : OpenClaim := { program := "ytnpifkebdkjpjaa", sum := "50baf280e82cf7eed92566c024ca6f42195485333970213bbc77f4ddefb52dc6", func := "mothball/mothballlaw11.EntrySums", spec := "entrySums", plainKeys := false, apart := false, narrowed := true }
def EntrySumsUptoSaid : Prop := entrySumsUptoRow.holds Try.pinned (OpenSpec.upto entrySumsSpec)

/-- 'mothballlaw11.EntryMoved', WHERE WHAT IT READS IS OF BULK AT MOST 1048576: true; the input reads as it did. -/
def entryMovedUptoRow : OpenClaim := { program := "ytnpifkebdkjpjaa", sum := "50baf280e82cf7eed92566c024ca6f42195485333970213bbc77f4ddefb52dc6", func := "mothball/mothballlaw11.EntryMoved", spec := "entryMoved", plainKeys := false, apart := false, narrowed := true }
def EntryMovedUptoSaid : Prop := entryMovedUptoRow.holds Try.pinned (OpenSpec.upto entryMovedSpec)

/-- 'mothballlaw10.KeyRuns', WHERE WHAT IT READS IS OF BULK AT MOST 1048576: true; the input reads as it did. -/
def keyRunsUptoRow : OpenClaim := { program := "ytnpifkebdkjpjaa", sum := "50baf280e82cf7eed92566c024ca6f42195485333970213bbc77f4ddefb52dc6", func := "mothball/mothballlaw10.KeyRuns", spec := "keyRuns", unfollowed := true, recurses := true, plainKeys := false, apart := false, narrowed := true }
def KeyRunsUptoSaid : Prop := keyRunsUptoRow.holds Try.pinned (OpenSpec.upto keyRunsSpec)

/-- 'mothballlaw10.KeyApart', WHERE WHAT IT READS IS OF BULK AT MOST 1048576: true; the input reads as it did. -/
def keyApartUptoRow : OpenClaim := { program := "ytnpifkebdkjpjaa", sum := "50baf280e82cf7eed92566c024ca6f42195485333970213bbc77f4ddefb52dc6", func := "mothball/mothballlaw10.KeyApart", spec := "keyApart", unfollowed := true, recurses := true, plainKeys := false, apart := false, narrowed := true }
def KeyApartUptoSaid : Prop := keyApartUptoRow.holds Try.pinned (OpenSpec.upto keyApartSpec)

/-- 'mothballlaw10.KeyNumbers', WHERE WHAT IT READS IS OF BULK AT MOST 1048576: true; the input reads as it did. -/
def keyNumbersUptoRow : OpenClaim := { program := "ytnpifkebdkjpjaa", sum := "50baf280e82cf7eed92566c024ca6f42195485333970213bbc77f4ddefb52dc6", func := "mothball/mothballlaw10.KeyNumbers", spec := "keyNumbers", unfollowed := true, recurses := true, plainKeys := false, apart := false, narrowed := true }
def KeyNumbersUptoSaid : Prop := keyNumbersUptoRow.holds Try.pinned (OpenSpec.upto keyNumbersSpec)

/-- 'mothballlaw10.KeySorts', WHERE WHAT IT READS IS OF BULK AT MOST 1048576: true; the input reads as it did. -/
def keySortsUptoRow : OpenClaim := { program := "ytnpifkebdkjpjaa", sum := "50baf280e82cf7eed92566c024ca6f42195485333970213bbc77f4ddefb52dc6", func := "mothball/mothballlaw10.KeySorts", spec := "keySorts", unfollowed := true, recurses := true, plainKeys := false, apart := false, narrowed := true }
def KeySortsUptoSaid : Prop := keySortsUptoRow.holds Try.pinned (OpenSpec.upto keySortsSpec)

/-- 'mothballlaw23.FrameWrites', WHERE WHAT IT READS IS OF BULK AT MOST 1048576: true; the input reads as it did. -/
def frameWritesUptoRow : OpenClaim := { program := "ytnpifkebdkjpjaa", sum := "50baf280e82cf7eed92566c024ca6f42195485333970213bbc77f4ddefb52dc6", func := "mothball/mothballlaw23.FrameWrites", spec := "frameWrites", unfollowed := true, recurses := true, plainKeys := false, apart := false, narrowed := true }
def FrameWritesUptoSaid : Prop := frameWritesUptoRow.holds Try.pinned (OpenSpec.upto frameWritesSpec)

/-- 'mothballlaw23.FrameFull', WHERE WHAT IT READS IS OF BULK AT MOST 1048576: true; the input reads as it did. -/
def frameFullUptoRow : OpenClaim := { program := "ytnpifkebdkjpjaa", sum := "50baf280e82cf7eed92566c024ca6f42195485333970213bbc77f4ddefb52dc6", func := "mothball/mothballlaw23.FrameFull", spec := "frameFull", unfollowed := true, recurses := true, plainKeys := false, apart := false, narrowed := true }
def FrameFullUptoSaid : Prop := frameFullUptoRow.holds Try.pinned (OpenSpec.upto frameFullSpec)

/-- 'mothballlaw23.FramePins', WHERE WHAT IT READS IS OF BULK AT MOST 1048576: true; the input reads as it did. -/
def framePinsUptoRow : OpenClaim := { program := "ytnpifkebdkjpjaa", sum := "50baf280e82cf7eed92566c024ca6f42195485333970213bbc77f4ddefb52dc6", func := "mothball/mothballlaw23.FramePins", spec := "framePins", unfollowed := true, recurses := true, plainKeys := false, apart := false, narrowed := true }
def FramePinsUptoSaid : Prop := framePinsUptoRow.holds Try.pinned (OpenSpec.upto framePinsSpec)

/-- 'mothballlaw11.EntryApplies', WHERE WHAT IT READS IS OF BULK AT MOST 1048576: true; the input reads as it did. -/
def entryAppliesUptoRow : OpenClaim := { program := "ytnpifkebdkjpjaa", sum := "50baf280e82cf7eed92566c024ca6f42195485333970213bbc77f4ddefb52dc6", func := "mothball/mothballlaw11.EntryApplies", spec := "entryApplies", unfollowed := true, recurses := true, plainKeys := false, apart := false, narrowed := true }
def EntryAppliesUptoSaid : Prop := entryAppliesUptoRow.holds Try.pinned (OpenSpec.upto entryAppliesSpec)

end Rows
end Go.Proofs.Ytnpifkebdkjpjaa
