/-
  No cell of these rows narrows 'for every input' (looked for: loops, veiled, ifaces, maps, wideKeys, modest, calm, conditions, laid).
  DERIVED. THE GIVEN ROWS OF THIS SEAT. 4 by the template 'for every input the law returns true; each argument reads behind the call as it read before'; 0 by the template 'total and deterministic' (their statements: YtonahgoiibdjmaaTotals.lean).
  GIVEN WITH THE SEED: the statements are not yours to turn. If you find one false, say at which input.
  Laid BY PROGRAM, IN A SANDBOX (cutbox-rows.mjs): the forced cells as the released guide's own fill.sh prints them over the translation 8e918d1854b990bb… (all of the seat's roots in one cut). By AI agents, Wed Nov 11 2026. No macro, syntax, notation, axiom, sorry.
-/
import Derived.Test.YtonahgoiibdjmaaChecked
import GoSem.Claim
import GoSem.ClaimJoined
import GoSem.ClaimMapViews
import Derived.JoinedTies
import Derived.KernelRfl
namespace Go.Proofs.Ytonahgoiibdjmaa
/- THE CELL 'sum', in the pinned program and in every row, IS THE sha256 OF THE DUMP (.gsa) THAT YtonahgoiibdjmaaProg.lean LOADS. Nothing in Lean hashes anything: it is a label: what it is worth is what the hold of that sum in a sandbox is worth. -/
noncomputable def Try.pinned : Pinned := { name := "ytonahgoiibdjmaa", sum := "8e918d1854b990bb6f1811f03172056be649bb6bffc75dd18e31e1463c0efbab", checked := Try.checked }
namespace Rows
def none {H : Type} : Left H := { results := [], args := [] }

/-- 'coldstorelaw08.RollSums': WHATEVER THE INPUT: true; the input reads as it did. -/
def rollSumsSpec : ChangeSpec := { name := "rollSums", fn := fun _ => fun
  | [d1, d2, d3, d4] => { results := [.lit (.bool true)], args := [d1, d2, d3, d4] }
  | _ => none }
def rollSumsRow : OpenClaim := { program := "ytonahgoiibdjmaa", sum := "8e918d1854b990bb6f1811f03172056be649bb6bffc75dd18e31e1463c0efbab", func := "coldstore/coldstorelaw08.RollSums", spec := "rollSums", apart := false }
def RollSumsSaid : Prop := rollSumsRow.holds Try.pinned (OpenSpec.ofChange rollSumsSpec)

/-- ITS FALSE NEIGHBOUR: 'it returns false'. Refute it at one input. -/
def rollSumsWrong : ChangeSpec := { name := "rollSums", fn := fun _ => fun
  | [d1, d2, d3, d4] => { results := [.lit (.bool false)], args := [d1, d2, d3, d4] }
  | _ => none }
def RollSumsWrongFalsely : Prop := rollSumsRow.holds Try.pinned (OpenSpec.ofChange rollSumsWrong)

/-- 'coldstorelaw08.RollLast': WHATEVER THE INPUT: true; the input reads as it did. -/
def rollLastSpec : ChangeSpec := { name := "rollLast", fn := fun _ => fun
  | [d1, d2, d3, d4] => { results := [.lit (.bool true)], args := [d1, d2, d3, d4] }
  | _ => none }
def rollLastRow : OpenClaim := { program := "ytonahgoiibdjmaa", sum := "8e918d1854b990bb6f1811f03172056be649bb6bffc75dd18e31e1463c0efbab", func := "coldstore/coldstorelaw08.RollLast", spec := "rollLast", apart := false }
def RollLastSaid : Prop := rollLastRow.holds Try.pinned (OpenSpec.ofChange rollLastSpec)

/-- ITS FALSE NEIGHBOUR: 'it returns false'. Refute it at one input. -/
def rollLastWrong : ChangeSpec := { name := "rollLast", fn := fun _ => fun
  | [d1, d2, d3, d4] => { results := [.lit (.bool false)], args := [d1, d2, d3, d4] }
  | _ => none }
def RollLastWrongFalsely : Prop := rollLastRow.holds Try.pinned (OpenSpec.ofChange rollLastWrong)

/-- 'coldstorelaw08.RollTurns': WHATEVER THE INPUT: true; the input reads as it did. -/
def rollTurnsSpec : ChangeSpec := { name := "rollTurns", fn := fun _ => fun
  | [d1, d2, d3] => { results := [.lit (.bool true)], args := [d1, d2, d3] }
  | _ => none }
def rollTurnsRow : OpenClaim := { program := "ytonahgoiibdjmaa", sum := "8e918d1854b990bb6f1811f03172056be649bb6bffc75dd18e31e1463c0efbab", func := "coldstore/coldstorelaw08.RollTurns", spec := "rollTurns", apart := false }
def RollTurnsSaid : Prop := rollTurnsRow.holds Try.pinned (OpenSpec.ofChange rollTurnsSpec)

/-- ITS FALSE NEIGHBOUR: 'it returns false'. Refute it at one input. -/
def rollTurnsWrong : ChangeSpec := { name := "rollTurns", fn := fun _ => fun
  | [d1, d2, d3] => { results := [.lit (.bool false)], args := [d1, d2, d3] }
  | _ => none }
def RollTurnsWrongFalsely : Prop := rollTurnsRow.holds Try.pinned (OpenSpec.ofChange rollTurnsWrong)

/-- 'coldstorelaw08.RollSeeds': WHATEVER THE INPUT: true; the input reads as it did. -/
def rollSeedsSpec : ChangeSpec := { name := "rollSeeds", fn := fun _ => fun
  | [d1, d2, d3] => { results := [.lit (.bool true)], args := [d1, d2, d3] }
  | _ => none }
def rollSeedsRow : OpenClaim := { program := "ytonahgoiibdjmaa", sum := "8e918d1854b990bb6f1811f03172056be649bb6bffc75dd18e31e1463c0efbab", func := "coldstore/coldstorelaw08.RollSeeds", spec := "rollSeeds", apart := false }
def RollSeedsSaid : Prop := rollSeedsRow.holds Try.pinned (OpenSpec.ofChange rollSeedsSpec)

/-- ITS FALSE NEIGHBOUR: 'it returns false'. Refute it at one input. -/
def rollSeedsWrong : ChangeSpec := { name := "rollSeeds", fn := fun _ => fun
  | [d1, d2, d3] => { results := [.lit (.bool false)], args := [d1, d2, d3] }
  | _ => none }
def RollSeedsWrongFalsely : Prop := rollSeedsRow.holds Try.pinned (OpenSpec.ofChange rollSeedsWrong)

/- THE SECOND FORM. 'bulk': how many values and letters a reading holds, each counted each time it is reached (what is shared counts as often as it is met; a slice's spare places count too). A statement '..UptoSaid' is the law's where the arguments, and the package variables that the reading takes, are together of bulk at most 1048576: NARROWER than '..Said'. Prove '..Said' where nothing that the law and all that it calls make is longer than what came in: it says more and counts as full. Else prove '..UptoSaid'. A law counts once. -/
mutual
def uptoBulk {H : Type} : DataW H → Nat
  | .lit (.string bytes) => bytes.length + 1
  | .lit _ => 1
  | .nil => 1
  | .ptr d => uptoBulk d + 1
  | .slice elems spare => uptoBulkAll elems + uptoBulkAll spare + 1
  | .agg parts => uptoBulkAll parts + 1
  | .iface _ d => uptoBulk d + 1
  | .map entries => uptoBulkEntries entries + 1
  | .held _ => 1
def uptoBulkAll {H : Type} : List (DataW H) → Nat
  | [] => 0
  | d :: r => uptoBulk d + uptoBulkAll r
def uptoBulkEntries {H : Type} : List (Lit × DataW H) → Nat
  | [] => 0
  | x :: r => uptoBulkEntry x + uptoBulkEntries r
def uptoBulkEntry {H : Type} : Lit × DataW H → Nat
  | (.string bytes, d) => bytes.length + uptoBulk d + 1
  | (_, d) => uptoBulk d + 1
 end
def uptoSmall : (H : Type) → List (DataW H) → Bool := fun _ ds => decide (uptoBulkAll ds ≤ 1048576)
def OpenSpec.upto (s : _root_.Go.ChangeSpec) : _root_.Go.OpenSpec := { _root_.Go.OpenSpec.ofChange s with cond := some uptoSmall }

/-- 'coldstorelaw08.RollSums', WHERE WHAT IT READS IS OF BULK AT MOST 1048576: true; the input reads as it did. -/
def rollSumsUptoRow : OpenClaim := { program := "ytonahgoiibdjmaa", sum := "8e918d1854b990bb6f1811f03172056be649bb6bffc75dd18e31e1463c0efbab", func := "coldstore/coldstorelaw08.RollSums", spec := "rollSums", apart := false, narrowed := true }
def RollSumsUptoSaid : Prop := rollSumsUptoRow.holds Try.pinned (OpenSpec.upto rollSumsSpec)

/-- 'coldstorelaw08.RollLast', WHERE WHAT IT READS IS OF BULK AT MOST 1048576: true; the input reads as it did. -/
def rollLastUptoRow : OpenClaim := { program := "ytonahgoiibdjmaa", sum := "8e918d1854b990bb6f1811f03172056be649bb6bffc75dd18e31e1463c0efbab", func := "coldstore/coldstorelaw08.RollLast", spec := "rollLast", apart := false, narrowed := true }
def RollLastUptoSaid : Prop := rollLastUptoRow.holds Try.pinned (OpenSpec.upto rollLastSpec)

/-- 'coldstorelaw08.RollTurns', WHERE WHAT IT READS IS OF BULK AT MOST 1048576: true; the input reads as it did. -/
def rollTurnsUptoRow : OpenClaim := { program := "ytonahgoiibdjmaa", sum := "8e918d1854b990bb6f1811f03172056be649bb6bffc75dd18e31e1463c0efbab", func := "coldstore/coldstorelaw08.RollTurns", spec := "rollTurns", apart := false, narrowed := true }
def RollTurnsUptoSaid : Prop := rollTurnsUptoRow.holds Try.pinned (OpenSpec.upto rollTurnsSpec)

/-- 'coldstorelaw08.RollSeeds', WHERE WHAT IT READS IS OF BULK AT MOST 1048576: true; the input reads as it did. -/
def rollSeedsUptoRow : OpenClaim := { program := "ytonahgoiibdjmaa", sum := "8e918d1854b990bb6f1811f03172056be649bb6bffc75dd18e31e1463c0efbab", func := "coldstore/coldstorelaw08.RollSeeds", spec := "rollSeeds", apart := false, narrowed := true }
def RollSeedsUptoSaid : Prop := rollSeedsUptoRow.holds Try.pinned (OpenSpec.upto rollSeedsSpec)

end Rows
end Go.Proofs.Ytonahgoiibdjmaa
