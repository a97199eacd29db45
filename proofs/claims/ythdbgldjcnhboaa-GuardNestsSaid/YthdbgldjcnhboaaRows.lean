/-
  No cell of these rows narrows 'for every input' (looked for: loops, veiled, ifaces, maps, wideKeys, modest, calm, conditions, laid).
  DERIVED. THE GIVEN ROWS OF THIS SEAT. 4 by the template 'for every input the law returns true; each argument reads behind the call as it read before'; 0 by the template 'total and deterministic' (their statements: YthdbgldjcnhboaaTotals.lean).
  GIVEN WITH THE SEED: the statements are not yours to turn. If you find one false, say at which input.
  Laid BY PROGRAM, IN A SANDBOX (cutbox-rows.mjs): the forced cells as the released guide's own fill.sh prints them over the translation d779143a1760de59… (all of the seat's roots in one cut). By AI agents, Wed Nov 11 2026. No macro, syntax, notation, axiom, sorry.
-/
import Derived.Test.YthdbgldjcnhboaaChecked
import GoSem.Claim
import GoSem.ClaimJoined
import GoSem.ClaimMapViews
import Derived.JoinedTies
import Derived.KernelRfl
namespace Go.Proofs.Ythdbgldjcnhboaa
/- THE CELL 'sum', in the pinned program and in every row, IS THE sha256 OF THE DUMP (.gsa) THAT YthdbgldjcnhboaaProg.lean LOADS. Nothing in Lean hashes anything: it is a label: what it is worth is what the hold of that sum in a sandbox is worth. -/
noncomputable def Try.pinned : Pinned := { name := "ythdbgldjcnhboaa", sum := "d779143a1760de59aeb59842a5f4749f1445a5f2f675633bf71b13f8208cc46f", checked := Try.checked }
namespace Rows
def none {H : Type} : Left H := { results := [], args := [] }

/-- 'coldstorelaw01.GuardRuns': WHATEVER THE INPUT: true; the input reads as it did. -/
def guardRunsSpec : ChangeSpec := { name := "guardRuns", fn := fun _ => fun
  | [d] => { results := [.lit (.bool true)], args := [d] }
  | _ => none }
def guardRunsRow : OpenClaim := { program := "ythdbgldjcnhboaa", sum := "d779143a1760de59aeb59842a5f4749f1445a5f2f675633bf71b13f8208cc46f", func := "coldstore/coldstorelaw01.GuardRuns", spec := "guardRuns", unfollowed := true, recurses := true, apart := false }
def GuardRunsSaid : Prop := guardRunsRow.holds Try.pinned (OpenSpec.ofChange guardRunsSpec)

/-- ITS FALSE NEIGHBOUR: 'it returns false'. Refute it at one input. -/
def guardRunsWrong : ChangeSpec := { name := "guardRuns", fn := fun _ => fun
  | [d] => { results := [.lit (.bool false)], args := [d] }
  | _ => none }
def GuardRunsWrongFalsely : Prop := guardRunsRow.holds Try.pinned (OpenSpec.ofChange guardRunsWrong)

/-- 'coldstorelaw01.GuardNests': WHATEVER THE INPUT: true; the input reads as it did. -/
def guardNestsSpec : ChangeSpec := { name := "guardNests", fn := fun _ => fun
  | [d1, d2] => { results := [.lit (.bool true)], args := [d1, d2] }
  | _ => none }
def guardNestsRow : OpenClaim := { program := "ythdbgldjcnhboaa", sum := "d779143a1760de59aeb59842a5f4749f1445a5f2f675633bf71b13f8208cc46f", func := "coldstore/coldstorelaw01.GuardNests", spec := "guardNests", unfollowed := true, recurses := true, apart := false }
def GuardNestsSaid : Prop := guardNestsRow.holds Try.pinned (OpenSpec.ofChange guardNestsSpec)

/-- ITS FALSE NEIGHBOUR: 'it returns false'. Refute it at one input. -/
def guardNestsWrong : ChangeSpec := { name := "guardNests", fn := fun _ => fun
  | [d1, d2] => { results := [.lit (.bool false)], args := [d1, d2] }
  | _ => none }
def GuardNestsWrongFalsely : Prop := guardNestsRow.holds Try.pinned (OpenSpec.ofChange guardNestsWrong)

/-- 'coldstorelaw01.GuardValues': WHATEVER THE INPUT: true; the input reads as it did. -/
def guardValuesSpec : ChangeSpec := { name := "guardValues", fn := fun _ => fun
  | [d1, d2, d3, d4] => { results := [.lit (.bool true)], args := [d1, d2, d3, d4] }
  | _ => none }
def guardValuesRow : OpenClaim := { program := "ythdbgldjcnhboaa", sum := "d779143a1760de59aeb59842a5f4749f1445a5f2f675633bf71b13f8208cc46f", func := "coldstore/coldstorelaw01.GuardValues", spec := "guardValues", unfollowed := true, recurses := true, apart := false }
def GuardValuesSaid : Prop := guardValuesRow.holds Try.pinned (OpenSpec.ofChange guardValuesSpec)

/-- ITS FALSE NEIGHBOUR: 'it returns false'. Refute it at one input. -/
def guardValuesWrong : ChangeSpec := { name := "guardValues", fn := fun _ => fun
  | [d1, d2, d3, d4] => { results := [.lit (.bool false)], args := [d1, d2, d3, d4] }
  | _ => none }
def GuardValuesWrongFalsely : Prop := guardValuesRow.holds Try.pinned (OpenSpec.ofChange guardValuesWrong)

/-- 'coldstorelaw01.GuardLast': WHATEVER THE INPUT: true; the input reads as it did. -/
def guardLastSpec : ChangeSpec := { name := "guardLast", fn := fun _ => fun
  | [d1, d2] => { results := [.lit (.bool true)], args := [d1, d2] }
  | _ => none }
def guardLastRow : OpenClaim := { program := "ythdbgldjcnhboaa", sum := "d779143a1760de59aeb59842a5f4749f1445a5f2f675633bf71b13f8208cc46f", func := "coldstore/coldstorelaw01.GuardLast", spec := "guardLast", unfollowed := true, recurses := true, apart := false }
def GuardLastSaid : Prop := guardLastRow.holds Try.pinned (OpenSpec.ofChange guardLastSpec)

/-- ITS FALSE NEIGHBOUR: 'it returns false'. Refute it at one input. -/
def guardLastWrong : ChangeSpec := { name := "guardLast", fn := fun _ => fun
  | [d1, d2] => { results := [.lit (.bool false)], args := [d1, d2] }
  | _ => none }
def GuardLastWrongFalsely : Prop := guardLastRow.holds Try.pinned (OpenSpec.ofChange guardLastWrong)

/- THE SECOND FORM. 'bulk': how many values and letters a reading holds, each counted each time it is reached (what is shared counts as often as it is met; a slice's spare places count too). A statement '..UptoSaid' is the law's where the arguments, and the package variables that the reading takes, are together of bulk at most 1048576: NARROWER than '..Said'. Prove '..Said' where nothing that the law and all that it calls make is longer than what came in: it says more and counts as full. Else prove '..UptoSaid'. A law counts once. -/
mutual
def uptoBulk {H : Type} : DataW H → Nat
  | .lit (.string bytes) => bytes.length + 1
  | .lit _ => 1
  | .nil => 1
  | .ptr d => uptoBulk d + 1
  | .slice elems spare => uptoBulkAll elems + uptoBulkAll spare + 1
  | .agg parts => uptoBulkAll parts + 1
  | .iface _ d => uptoBulk d + 1
  | .map entries => uptoBulkEntries entries + 1
  | .held _ => 1
def uptoBulkAll {H : Type} : List (DataW H) → Nat
  | [] => 0
  | d :: r => uptoBulk d + uptoBulkAll r
def uptoBulkEntries {H : Type} : List (Lit × DataW H) → Nat
  | [] => 0
  | x :: r => uptoBulkEntry x + uptoBulkEntries r
def uptoBulkEntry {H : Type} : Lit × DataW H → Nat
  | (.string bytes, d) => bytes.length + uptoBulk d + 1
  | (_, d) => uptoBulk d + 1
 end
def uptoSmall : (H : Type) → List (DataW H) → Bool := fun _ ds => decide (uptoBulkAll ds ≤ 1048576)
def OpenSpec.upto (s : _root_.Go.ChangeSpec) : _root_.Go.OpenSpec := { _root_.Go.OpenSpec.ofChange s with cond := some uptoSmall }

/-- 'coldstorelaw01.GuardRuns', WHERE WHAT IT READS IS OF BULK AT MOST 1048576: true; the input reads as it did. -/
def guardRunsUptoRow : OpenClaim := { program := "ythdbgldjcnhboaa", sum := "d779143a1760de59aeb59842a5f4749f1445a5f2f675633bf71b13f8208cc46f", func := "coldstore/coldstorelaw01.GuardRuns", spec := "guardRuns", unfollowed := true, recurses := true, apart := false, narrowed := true }
def GuardRunsUptoSaid : Prop := guardRunsUptoRow.holds Try.pinned (OpenSpec.upto guardRunsSpec)

/-- 'coldstorelaw01.GuardNests', WHERE WHAT IT READS IS OF BULK AT MOST 1048576: true; the input reads as it did. -/
def guardNestsUptoRow : OpenClaim := { program := "ythdbgldjcnhboaa", sum := "d779143a1760de59aeb59842a5f4749f1445a5f2f675633bf71b13f8208cc46f", func := "coldstore/coldstorelaw01.GuardNests", spec := "guardNests", unfollowed := true, recurses := true, apart := false, narrowed := true }
def GuardNestsUptoSaid : Prop := guardNestsUptoRow.holds Try.pinned (OpenSpec.upto guardNestsSpec)

/-- 'coldstorelaw01.GuardValues', WHERE WHAT IT READS IS OF BULK AT MOST 1048576: true; the input reads as it did. -/
def guardValuesUptoRow : OpenClaim := { program := "ythdbgldjcnhboaa", sum := "d779143a1760de59aeb59842a5f4749f1445a5f2f675633bf71b13f8208cc46f", func := "coldstore/coldstorelaw01.GuardValues", spec := "guardValues", unfollowed := true, recurses := true, apart := false, narrowed := true }
def GuardValuesUptoSaid : Prop := guardValuesUptoRow.holds Try.pinned (OpenSpec.upto guardValuesSpec)

/-- 'coldstorelaw01.GuardLast', WHERE WHAT IT READS IS OF BULK AT MOST 1048576: true; the input reads as it did. -/
def guardLastUptoRow : OpenClaim := { program := "ythdbgldjcnhboaa", sum := "d779143a1760de59aeb59842a5f4749f1445a5f2f675633bf71b13f8208cc46f", func := "coldstore/coldstorelaw01.GuardLast", spec := "guardLast", unfollowed := true, recurses := true, apart := false, narrowed := true }
def GuardLastUptoSaid : Prop := guardLastUptoRow.holds Try.pinned (OpenSpec.upto guardLastSpec)

end Rows
end Go.Proofs.Ythdbgldjcnhboaa
