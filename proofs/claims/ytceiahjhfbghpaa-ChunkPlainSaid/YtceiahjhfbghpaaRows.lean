/-
  No cell of these rows narrows 'for every input' (looked for: loops, veiled, ifaces, maps, wideKeys, modest, calm, conditions, laid).
  DERIVED. THE GIVEN ROWS OF THIS SEAT. 4 by the template 'for every input the law returns true; each argument reads behind the call as it read before'; 0 by the template 'total and deterministic' (their statements: YtceiahjhfbghpaaTotals.lean).
  GIVEN WITH THE SEED: the statements are not yours to turn. If you find one false, say at which input.
  Laid BY PROGRAM, IN A SANDBOX (cutbox-rows.mjs): the forced cells as the released guide's own fill.sh prints them over the translation 6dc3d284c8a18af7… (all of the seat's roots in one cut). By AI agents, Wed Nov 11 2026. No macro, syntax, notation, axiom, sorry.
-/
import Derived.Test.YtceiahjhfbghpaaChecked
import GoSem.Claim
import GoSem.ClaimJoined
import GoSem.ClaimMapViews
import Derived.JoinedTies
import Derived.KernelRfl
namespace Go.Proofs.Ytceiahjhfbghpaa
/- THE CELL 'sum', in the pinned program and in every row, IS THE sha256 OF THE DUMP (.gsa) THAT YtceiahjhfbghpaaProg.lean LOADS. Nothing in Lean hashes anything: it is a label: what it is worth is what the hold of that sum in a sandbox is worth. -/
noncomputable def Try.pinned : Pinned := { name := "ytceiahjhfbghpaa", sum := "6dc3d284c8a18af729e5142df34b3aca6fa9bb1daecc756e2be3dacb8781d3e2", checked := Try.checked }
namespace Rows
def none {H : Type} : Left H := { results := [], args := [] }

/-- 'coldstorelaw09.ChunkSplits': WHATEVER THE INPUT: true; the input reads as it did. -/
def chunkSplitsSpec : ChangeSpec := { name := "chunkSplits", fn := fun _ => fun
  | [d1, d2, d3] => { results := [.lit (.bool true)], args := [d1, d2, d3] }
  | _ => none }
def chunkSplitsRow : OpenClaim := { program := "ytceiahjhfbghpaa", sum := "6dc3d284c8a18af729e5142df34b3aca6fa9bb1daecc756e2be3dacb8781d3e2", func := "coldstore/coldstorelaw09.ChunkSplits", spec := "chunkSplits", unfollowed := true, recurses := true, apart := false }
def ChunkSplitsSaid : Prop := chunkSplitsRow.holds Try.pinned (OpenSpec.ofChange chunkSplitsSpec)

/-- ITS FALSE NEIGHBOUR: 'it returns false'. Refute it at one input. -/
def chunkSplitsWrong : ChangeSpec := { name := "chunkSplits", fn := fun _ => fun
  | [d1, d2, d3] => { results := [.lit (.bool false)], args := [d1, d2, d3] }
  | _ => none }
def ChunkSplitsWrongFalsely : Prop := chunkSplitsRow.holds Try.pinned (OpenSpec.ofChange chunkSplitsWrong)

/-- 'coldstorelaw09.ChunkShifts': WHATEVER THE INPUT: true; the input reads as it did. -/
def chunkShiftsSpec : ChangeSpec := { name := "chunkShifts", fn := fun _ => fun
  | [d1, d2, d3] => { results := [.lit (.bool true)], args := [d1, d2, d3] }
  | _ => none }
def chunkShiftsRow : OpenClaim := { program := "ytceiahjhfbghpaa", sum := "6dc3d284c8a18af729e5142df34b3aca6fa9bb1daecc756e2be3dacb8781d3e2", func := "coldstore/coldstorelaw09.ChunkShifts", spec := "chunkShifts", unfollowed := true, recurses := true, apart := false }
def ChunkShiftsSaid : Prop := chunkShiftsRow.holds Try.pinned (OpenSpec.ofChange chunkShiftsSpec)

/-- ITS FALSE NEIGHBOUR: 'it returns false'. Refute it at one input. -/
def chunkShiftsWrong : ChangeSpec := { name := "chunkShifts", fn := fun _ => fun
  | [d1, d2, d3] => { results := [.lit (.bool false)], args := [d1, d2, d3] }
  | _ => none }
def ChunkShiftsWrongFalsely : Prop := chunkShiftsRow.holds Try.pinned (OpenSpec.ofChange chunkShiftsWrong)

/-- 'coldstorelaw09.ChunkCuts': WHATEVER THE INPUT: true; the input reads as it did. -/
def chunkCutsSpec : ChangeSpec := { name := "chunkCuts", fn := fun _ => fun
  | [d1, d2, d3] => { results := [.lit (.bool true)], args := [d1, d2, d3] }
  | _ => none }
def chunkCutsRow : OpenClaim := { program := "ytceiahjhfbghpaa", sum := "6dc3d284c8a18af729e5142df34b3aca6fa9bb1daecc756e2be3dacb8781d3e2", func := "coldstore/coldstorelaw09.ChunkCuts", spec := "chunkCuts", unfollowed := true, recurses := true, apart := false }
def ChunkCutsSaid : Prop := chunkCutsRow.holds Try.pinned (OpenSpec.ofChange chunkCutsSpec)

/-- ITS FALSE NEIGHBOUR: 'it returns false'. Refute it at one input. -/
def chunkCutsWrong : ChangeSpec := { name := "chunkCuts", fn := fun _ => fun
  | [d1, d2, d3] => { results := [.lit (.bool false)], args := [d1, d2, d3] }
  | _ => none }
def ChunkCutsWrongFalsely : Prop := chunkCutsRow.holds Try.pinned (OpenSpec.ofChange chunkCutsWrong)

/-- 'coldstorelaw09.ChunkPlain': WHATEVER THE INPUT: true; the input reads as it did. -/
def chunkPlainSpec : ChangeSpec := { name := "chunkPlain", fn := fun _ => fun
  | [d1, d2] => { results := [.lit (.bool true)], args := [d1, d2] }
  | _ => none }
def chunkPlainRow : OpenClaim := { program := "ytceiahjhfbghpaa", sum := "6dc3d284c8a18af729e5142df34b3aca6fa9bb1daecc756e2be3dacb8781d3e2", func := "coldstore/coldstorelaw09.ChunkPlain", spec := "chunkPlain", unfollowed := true, recurses := true, apart := false }
def ChunkPlainSaid : Prop := chunkPlainRow.holds Try.pinned (OpenSpec.ofChange chunkPlainSpec)

/-- ITS FALSE NEIGHBOUR: 'it returns false'. Refute it at one input. -/
def chunkPlainWrong : ChangeSpec := { name := "chunkPlain", fn := fun _ => fun
  | [d1, d2] => { results := [.lit (.bool false)], args := [d1, d2] }
  | _ => none }
def ChunkPlainWrongFalsely : Prop := chunkPlainRow.holds Try.pinned (OpenSpec.ofChange chunkPlainWrong)

/- THE SECOND FORM. 'bulk': how many values and letters a reading holds, each counted each time it is reached (what is shared counts as often as it is met; a slice's spare places count too). A statement '..UptoSaid' is the law's where the arguments, and the package variables that the reading takes, are together of bulk at most 1048576: NARROWER than '..Said'. Prove '..Said' where nothing that the law and all that it calls make is longer than what came in: it says more and counts as full. Else prove '..UptoSaid'. A law counts once. -/
mutual
def uptoBulk {H : Type} : DataW H → Nat
  | .lit (.string bytes) => bytes.length + 1
  | .lit _ => 1
  | .nil => 1
  | .ptr d => uptoBulk d + 1
  | .slice elems spare => uptoBulkAll elems + uptoBulkAll spare + 1
  | .agg parts => uptoBulkAll parts + 1
  | .iface _ d => uptoBulk d + 1
  | .map entries => uptoBulkEntries entries + 1
  | .held _ => 1
def uptoBulkAll {H : Type} : List (DataW H) → Nat
  | [] => 0
  | d :: r => uptoBulk d + uptoBulkAll r
def uptoBulkEntries {H : Type} : List (Lit × DataW H) → Nat
  | [] => 0
  | x :: r => uptoBulkEntry x + uptoBulkEntries r
def uptoBulkEntry {H : Type} : Lit × DataW H → Nat
  | (.string bytes, d) => bytes.length + uptoBulk d + 1
  | (_, d) => uptoBulk d + 1
 end
def uptoSmall : (H : Type) → List (DataW H) → Bool := fun _ ds => decide (uptoBulkAll ds ≤ 1048576)
def OpenSpec.upto (s : _root_.Go.ChangeSpec) : _root_.Go.OpenSpec := { _root_.Go.OpenSpec.ofChange s with cond := some uptoSmall }

/-- 'coldstorelaw09.ChunkSplits', WHERE WHAT IT READS IS OF BULK AT MOST 1048576: true; the input reads as it did. -/
def chunkSplitsUptoRow : OpenClaim := { program := "ytceiahjhfbghpaa", sum := "6dc3d284c8a18af729e5142df34b3aca6fa9bb1daecc756e2be3dacb8781d3e2", func := "coldstore/coldstorelaw09.ChunkSplits", spec := "chunkSplits", unfollowed := true, recurses := true, apart := false, narrowed := true }
def ChunkSplitsUptoSaid : Prop := chunkSplitsUptoRow.holds Try.pinned (OpenSpec.upto chunkSplitsSpec)

/-- 'coldstorelaw09.ChunkShifts', WHERE WHAT IT READS IS OF BULK AT MOST 1048576: true; the input reads as it did. -/
def chunkShiftsUptoRow : OpenClaim := { program := "ytceiahjhfbghpaa", sum := "6dc3d284c8a18af729e5142df34b3aca6fa9bb1daecc756e2be3dacb8781d3e2", func := "coldstore/coldstorelaw09.ChunkShifts", spec := "chunkShifts", unfollowed := true, recurses := true, apart := false, narrowed := true }
def ChunkShiftsUptoSaid : Prop := chunkShiftsUptoRow.holds Try.pinned (OpenSpec.upto chunkShiftsSpec)

/-- 'coldstorelaw09.ChunkCuts', WHERE WHAT IT READS IS OF BULK AT MOST 1048576: true; the input reads as it did. -/
def chunkCutsUptoRow : OpenClaim := { program := "ytceiahjhfbghpaa", sum := "6dc3d284c8a18af729e5142df34b3aca6fa9bb1daecc756e2be3dacb8781d3e2", func := "coldstore/coldstorelaw09.ChunkCuts", spec := "chunkCuts", unfollowed := true, recurses := true, apart := false, narrowed := true }
def ChunkCutsUptoSaid : Prop := chunkCutsUptoRow.holds Try.pinned (OpenSpec.upto chunkCutsSpec)

/-- 'coldstorelaw09.ChunkPlain', WHERE WHAT IT READS IS OF BULK AT MOST 1048576: true; the input reads as it did. -/
def chunkPlainUptoRow : OpenClaim := { program := "ytceiahjhfbghpaa", sum := "6dc3d284c8a18af729e5142df34b3aca6fa9bb1daecc756e2be3dacb8781d3e2", func := "coldstore/coldstorelaw09.ChunkPlain", spec := "chunkPlain", unfollowed := true, recurses := true, apart := false, narrowed := true }
def ChunkPlainUptoSaid : Prop := chunkPlainUptoRow.holds Try.pinned (OpenSpec.upto chunkPlainSpec)

end Rows
end Go.Proofs.Ytceiahjhfbghpaa
