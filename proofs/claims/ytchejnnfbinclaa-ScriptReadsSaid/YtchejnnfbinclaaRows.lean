/-
  No cell of these rows narrows 'for every input' (looked for: loops, veiled, ifaces, maps, wideKeys, modest, calm, conditions, laid).
  DERIVED. THE GIVEN ROWS OF THIS SEAT. 7 by the template 'for every input the law returns true; each argument reads behind the call as it read before'; 0 by the template 'total and deterministic' (their statements: YtchejnnfbinclaaTotals.lean).
  GIVEN WITH THE SEED: the statements are not yours to turn. If you find one false, say at which input.
  Laid BY PROGRAM, IN A SANDBOX (cutbox-rows.mjs): the forced cells as the released guide's own fill.sh prints them over the translation cf1c07d92cfe3f63… (all of the seat's roots in one cut). By AI agents, Wed Nov 11 2026. No macro, syntax, notation, axiom, sorry.
-/
import Derived.Test.YtchejnnfbinclaaChecked
import GoSem.Claim
import GoSem.ClaimJoined
import GoSem.ClaimMapViews
import Derived.JoinedTies
import Derived.KernelRfl
namespace Go.Proofs.Ytchejnnfbinclaa
/- THE CELL 'sum', in the pinned program and in every row, IS THE sha256 OF THE DUMP (.gsa) THAT YtchejnnfbinclaaProg.lean LOADS. Nothing in Lean hashes anything: it is a label: what it is worth is what the hold of that sum in a sandbox is worth. -/
noncomputable def Try.pinned : Pinned := { name := "ytchejnnfbinclaa", sum := "cf1c07d92cfe3f6390227aec1a818976455b76e70d42c286df6952f76332e63d", checked := Try.checked }
namespace Rows
def none {H : Type} : Left H := { results := [], args := [] }

/-- 'coldstorelaw29.ScriptWrites': WHATEVER THE INPUT: true; the input reads as it did. -/
def scriptWritesSpec : ChangeSpec := { name := "scriptWrites", fn := fun _ => fun
  | [d] => { results := [.lit (.bool true)], args := [d] }
  | _ => none }
def scriptWritesRow : OpenClaim := { program := "ytchejnnfbinclaa", sum := "cf1c07d92cfe3f6390227aec1a818976455b76e70d42c286df6952f76332e63d", func := "coldstore/coldstorelaw29.ScriptWrites", spec := "scriptWrites", unfollowed := true, recurses := true, apart := false }
def ScriptWritesSaid : Prop := scriptWritesRow.holds Try.pinned (OpenSpec.ofChange scriptWritesSpec)

/-- ITS FALSE NEIGHBOUR: 'it returns false'. Refute it at one input. -/
def scriptWritesWrong : ChangeSpec := { name := "scriptWrites", fn := fun _ => fun
  | [d] => { results := [.lit (.bool false)], args := [d] }
  | _ => none }
def ScriptWritesWrongFalsely : Prop := scriptWritesRow.holds Try.pinned (OpenSpec.ofChange scriptWritesWrong)

/-- 'coldstorelaw29.ScriptReads': WHATEVER THE INPUT: true; the input reads as it did. -/
def scriptReadsSpec : ChangeSpec := { name := "scriptReads", fn := fun _ => fun
  | [d] => { results := [.lit (.bool true)], args := [d] }
  | _ => none }
def scriptReadsRow : OpenClaim := { program := "ytchejnnfbinclaa", sum := "cf1c07d92cfe3f6390227aec1a818976455b76e70d42c286df6952f76332e63d", func := "coldstore/coldstorelaw29.ScriptReads", spec := "scriptReads", unfollowed := true, recurses := true, apart := false }
def ScriptReadsSaid : Prop := scriptReadsRow.holds Try.pinned (OpenSpec.ofChange scriptReadsSpec)

/-- ITS FALSE NEIGHBOUR: 'it returns false'. Refute it at one input. -/
def scriptReadsWrong : ChangeSpec := { name := "scriptReads", fn := fun _ => fun
  | [d] => { results := [.lit (.bool false)], args := [d] }
  | _ => none }
def ScriptReadsWrongFalsely : Prop := scriptReadsRow.holds Try.pinned (OpenSpec.ofChange scriptReadsWrong)

/-- 'coldstorelaw29.ScriptItems': WHATEVER THE INPUT: true; the input reads as it did. -/
def scriptItemsSpec : ChangeSpec := { name := "scriptItems", fn := fun _ => fun
  | [d1, d2, d3] => { results := [.lit (.bool true)], args := [d1, d2, d3] }
  | _ => none }
def scriptItemsRow : OpenClaim := { program := "ytchejnnfbinclaa", sum := "cf1c07d92cfe3f6390227aec1a818976455b76e70d42c286df6952f76332e63d", func := "coldstore/coldstorelaw29.ScriptItems", spec := "scriptItems", unfollowed := true, recurses := true, apart := false }
def ScriptItemsSaid : Prop := scriptItemsRow.holds Try.pinned (OpenSpec.ofChange scriptItemsSpec)

/-- ITS FALSE NEIGHBOUR: 'it returns false'. Refute it at one input. -/
def scriptItemsWrong : ChangeSpec := { name := "scriptItems", fn := fun _ => fun
  | [d1, d2, d3] => { results := [.lit (.bool false)], args := [d1, d2, d3] }
  | _ => none }
def ScriptItemsWrongFalsely : Prop := scriptItemsRow.holds Try.pinned (OpenSpec.ofChange scriptItemsWrong)

/-- 'coldstorelaw29.ScriptBack': WHATEVER THE INPUT: true; the input reads as it did. -/
def scriptBackSpec : ChangeSpec := { name := "scriptBack", fn := fun _ => fun
  | [d1, d2, d3] => { results := [.lit (.bool true)], args := [d1, d2, d3] }
  | _ => none }
def scriptBackRow : OpenClaim := { program := "ytchejnnfbinclaa", sum := "cf1c07d92cfe3f6390227aec1a818976455b76e70d42c286df6952f76332e63d", func := "coldstore/coldstorelaw29.ScriptBack", spec := "scriptBack", unfollowed := true, recurses := true, apart := false }
def ScriptBackSaid : Prop := scriptBackRow.holds Try.pinned (OpenSpec.ofChange scriptBackSpec)

/-- ITS FALSE NEIGHBOUR: 'it returns false'. Refute it at one input. -/
def scriptBackWrong : ChangeSpec := { name := "scriptBack", fn := fun _ => fun
  | [d1, d2, d3] => { results := [.lit (.bool false)], args := [d1, d2, d3] }
  | _ => none }
def ScriptBackWrongFalsely : Prop := scriptBackRow.holds Try.pinned (OpenSpec.ofChange scriptBackWrong)

/-- 'coldstorelaw29.ScriptCuts': WHATEVER THE INPUT: true; the input reads as it did. -/
def scriptCutsSpec : ChangeSpec := { name := "scriptCuts", fn := fun _ => fun
  | [d1, d2] => { results := [.lit (.bool true)], args := [d1, d2] }
  | _ => none }
def scriptCutsRow : OpenClaim := { program := "ytchejnnfbinclaa", sum := "cf1c07d92cfe3f6390227aec1a818976455b76e70d42c286df6952f76332e63d", func := "coldstore/coldstorelaw29.ScriptCuts", spec := "scriptCuts", unfollowed := true, recurses := true, apart := false }
def ScriptCutsSaid : Prop := scriptCutsRow.holds Try.pinned (OpenSpec.ofChange scriptCutsSpec)

/-- ITS FALSE NEIGHBOUR: 'it returns false'. Refute it at one input. -/
def scriptCutsWrong : ChangeSpec := { name := "scriptCuts", fn := fun _ => fun
  | [d1, d2] => { results := [.lit (.bool false)], args := [d1, d2] }
  | _ => none }
def ScriptCutsWrongFalsely : Prop := scriptCutsRow.holds Try.pinned (OpenSpec.ofChange scriptCutsWrong)

/-- 'coldstorelaw29.ScriptReplies': WHATEVER THE INPUT: true; the input reads as it did. -/
def scriptRepliesSpec : ChangeSpec := { name := "scriptReplies", fn := fun _ => fun
  | [d1, d2] => { results := [.lit (.bool true)], args := [d1, d2] }
  | _ => none }
def scriptRepliesRow : OpenClaim := { program := "ytchejnnfbinclaa", sum := "cf1c07d92cfe3f6390227aec1a818976455b76e70d42c286df6952f76332e63d", func := "coldstore/coldstorelaw29.ScriptReplies", spec := "scriptReplies", unfollowed := true, recurses := true, apart := false }
def ScriptRepliesSaid : Prop := scriptRepliesRow.holds Try.pinned (OpenSpec.ofChange scriptRepliesSpec)

/-- ITS FALSE NEIGHBOUR: 'it returns false'. Refute it at one input. -/
def scriptRepliesWrong : ChangeSpec := { name := "scriptReplies", fn := fun _ => fun
  | [d1, d2] => { results := [.lit (.bool false)], args := [d1, d2] }
  | _ => none }
def ScriptRepliesWrongFalsely : Prop := scriptRepliesRow.holds Try.pinned (OpenSpec.ofChange scriptRepliesWrong)

/-- 'coldstorelaw29.ScriptJoins': WHATEVER THE INPUT: true; the input reads as it did. -/
def scriptJoinsSpec : ChangeSpec := { name := "scriptJoins", fn := fun _ => fun
  | [d1, d2] => { results := [.lit (.bool true)], args := [d1, d2] }
  | _ => none }
def scriptJoinsRow : OpenClaim := { program := "ytchejnnfbinclaa", sum := "cf1c07d92cfe3f6390227aec1a818976455b76e70d42c286df6952f76332e63d", func := "coldstore/coldstorelaw29.ScriptJoins", spec := "scriptJoins", unfollowed := true, recurses := true, apart := false }
def ScriptJoinsSaid : Prop := scriptJoinsRow.holds Try.pinned (OpenSpec.ofChange scriptJoinsSpec)

/-- ITS FALSE NEIGHBOUR: 'it returns false'. Refute it at one input. -/
def scriptJoinsWrong : ChangeSpec := { name := "scriptJoins", fn := fun _ => fun
  | [d1, d2] => { results := [.lit (.bool false)], args := [d1, d2] }
  | _ => none }
def ScriptJoinsWrongFalsely : Prop := scriptJoinsRow.holds Try.pinned (OpenSpec.ofChange scriptJoinsWrong)

/- THE SECOND FORM. 'bulk': how many values and letters a reading holds, each counted each time it is reached (what is shared counts as often as it is met; a slice's spare places count too). A statement '..UptoSaid' is the law's where the arguments, and the package variables that the reading takes, are together of bulk at most 1048576: NARROWER than '..Said'. Prove '..Said' where nothing that the law and all that it calls make is longer than what came in: it says more and counts as full. Else prove '..UptoSaid'. A law counts once. -/
mutual
def uptoBulk {H : Type} : DataW H → Nat
  | .lit (.string bytes) => bytes.length + 1
  | .lit _ => 1
  | .nil => 1
  | .ptr d => uptoBulk d + 1
  | .slice elems spare => uptoBulkAll elems + uptoBulkAll spare + 1
  | .agg parts => uptoBulkAll parts + 1
  | .iface _ d => uptoBulk d + 1
  | .map entries => uptoBulkEntries entries + 1
  | .held _ => 1
def uptoBulkAll {H : Type} : List (DataW H) → Nat
  | [] => 0
  | d :: r => uptoBulk d + uptoBulkAll r
def uptoBulkEntries {H : Type} : List (Lit × DataW H) → Nat
  | [] => 0
  | x :: r => uptoBulkEntry x + uptoBulkEntries r
def uptoBulkEntry {H : Type} : Lit × DataW H → Nat
  | (.string bytes, d) => bytes.length + uptoBulk d + 1
  | (_, d) => uptoBulk d + 1
 end
def uptoSmall : (H : Type) → List (DataW H) → Bool := fun _ ds => decide (uptoBulkAll ds ≤ 1048576)
def OpenSpec.upto (s : _root_.Go.ChangeSpec) : _root_.Go.OpenSpec := { _root_.Go.OpenSpec.ofChange s with cond := some uptoSmall }

/-- 'coldstorelaw29.ScriptWrites', WHERE WHAT IT READS IS OF BULK AT MOST 1048576: true; the input reads as it did. -/
def scriptWritesUptoRow : OpenClaim := { program := "ytchejnnfbinclaa", sum := "cf1c07d92cfe3f6390227aec1a818976455b76e70d42c286df6952f76332e63d", func := "coldstore/coldstorelaw29.ScriptWrites", spec := "scriptWrites", unfollowed := true, recurses := true, apart := false, narrowed := true }
def ScriptWritesUptoSaid : Prop := scriptWritesUptoRow.holds Try.pinned (OpenSpec.upto scriptWritesSpec)

/-- 'coldstorelaw29.ScriptReads', WHERE WHAT IT READS IS OF BULK AT MOST 1048576: true; the input reads as it did. -/
def scriptReadsUptoRow : OpenClaim := { program := "ytchejnnfbinclaa", sum := "cf1c07d92cfe3f6390227aec1a818976455b76e70d42c286df6952f76332e63d", func := "coldstore/coldstorelaw29.ScriptReads", spec := "scriptReads", unfollowed := true, recurses := true, apart := false, narrowed := true }
def ScriptReadsUptoSaid : Prop := scriptReadsUptoRow.holds Try.pinned (OpenSpec.upto scriptReadsSpec)

/-- 'coldstorelaw29.ScriptItems', WHERE WHAT IT READS IS OF BULK AT MOST 1048576: true; the input reads as it did. -/
def scriptItemsUptoRow : OpenClaim := { program := "ytchejnnfbinclaa", sum := "cf1c07d92cfe3f6390227aec1a818976455b76e70d42c286df6952f76332e63d", func := "coldstore/coldstorelaw29.ScriptItems", spec := "scriptItems", unfollowed := true, recurses := true, apart := false, narrowed := true }
def ScriptItemsUptoSaid : Prop := scriptItemsUptoRow.holds Try.pinned (OpenSpec.upto scriptItemsSpec)

/-- 'coldstorelaw29.ScriptBack', WHERE WHAT IT READS IS OF BULK AT MOST 1048576: true; the input reads as it did. -/
def scriptBackUptoRow : OpenClaim := { program := "ytchejnnfbinclaa", sum := "cf1c07d92cfe3f6390227aec1a818976455b76e70d42c286df6952f76332e63d", func := "coldstore/coldstorelaw29.ScriptBack", spec := "scriptBack", unfollowed := true, recurses := true, apart := false, narrowed := true }
def ScriptBackUptoSaid : Prop := scriptBackUptoRow.holds Try.pinned (OpenSpec.upto scriptBackSpec)

/-- 'coldstorelaw29.ScriptCuts', WHERE WHAT IT READS IS OF BULK AT MOST 1048576: true; the input reads as it did. -/
def scriptCutsUptoRow : OpenClaim := { program := "ytchejnnfbinclaa", sum := "cf1c07d92cfe3f6390227aec1a818976455b76e70d42c286df6952f76332e63d", func := "coldstore/coldstorelaw29.ScriptCuts", spec := "scriptCuts", unfollowed := true, recurses := true, apart := false, narrowed := true }
def ScriptCutsUptoSaid : Prop := scriptCutsUptoRow.holds Try.pinned (OpenSpec.upto scriptCutsSpec)

/-- 'coldstorelaw29.ScriptReplies', WHERE WHAT IT READS IS OF BULK AT MOST 1048576: true; the input reads as it did. -/
def scriptRepliesUptoRow : OpenClaim := { program := "ytchejnnfbinclaa", sum := "cf1c07d92cfe3f6390227aec1a818976455b76e70d42c286df6952f76332e63d", func := "coldstore/coldstorelaw29.ScriptReplies", spec := "scriptReplies", unfollowed := true, recurses := true, apart := false, narrowed := true }
def ScriptRepliesUptoSaid : Prop := scriptRepliesUptoRow.holds Try.pinned (OpenSpec.upto scriptRepliesSpec)

/-- 'coldstorelaw29.ScriptJoins', WHERE WHAT IT READS IS OF BULK AT MOST 1048576: true; the input reads as it did. -/
def scriptJoinsUptoRow : OpenClaim := { program := "ytchejnnfbinclaa", sum := "cf1c07d92cfe3f6390227aec1a818976455b76e70d42c286df6952f76332e63d", func := "coldstore/coldstorelaw29.ScriptJoins", spec := "scriptJoins", unfollowed := true, recurses := true, apart := false, narrowed := true }
def ScriptJoinsUptoSaid : Prop := scriptJoinsUptoRow.holds Try.pinned (OpenSpec.upto scriptJoinsSpec)

end Rows
end Go.Proofs.Ytchejnnfbinclaa
