/-
  DERIVED. GIVEN WITH THE SEED: THE CARDS: each row of YtefabpgfhghpgaaDoorRows.lean that lists a variable, with what it lists TIED to the program's text (the seventh form; the later family's looks); each row that meets fmt, with fmt's text TOLD by the authors' own Lean function (tested against real Go, not proved from fmt's source: count such statements apart). THE CARD IS WHAT COUNTS. Prove the row's statement (the work); the ties are given (YtefabpgfhghpgaaDoorTie.lean); close each card by the builder's one call (the guide's Derived/Test/ToyasCard.lean, 'card_holds'). Laid BY PROGRAM, IN A SANDBOX (cutbox-door.mjs). By AI agents, Wed Nov 11 2026. No macro, syntax, notation, axiom, sorry.
-/
import Derived.Test.YtefabpgfhghpgaaDoorRows
import GoSem.ClaimSeven
namespace Go.Proofs.YtefabpgfhghpgaaDoor
namespace Rows

/-- THE TIED CARD OF 'coldstorelaw10.TreeBack'. -/
def treeBackCard : Claim7 := { stood := { row := treeBackRow, standIns := [], harness := (true, "971da6edd60431238cee40c381ac6223c40d50f4d6aedc22df960b64bcf27c18"), looks := true }, kinds := [], alts := [], laidByText := true, laidKinds := [.data, .pinned], laidTests := true, laidLooks := .later }
def TreeBackCardSaid : Prop := Claim7.holds Tryd.pinned (.plain (OpenSpec.ofChange treeBackSpec)) treeBackCard

/-- THE TIED CARD OF 'coldstorelaw10.TreeErrors'. -/
def treeErrorsCard : Claim7 := { stood := { row := treeErrorsRow, standIns := [], harness := (true, "971da6edd60431238cee40c381ac6223c40d50f4d6aedc22df960b64bcf27c18"), looks := true }, kinds := [], alts := [], laidByText := true, laidKinds := [.data, .pinned], laidTests := true, laidLooks := .later }
def TreeErrorsCardSaid : Prop := Claim7.holds Tryd.pinned (.plain (OpenSpec.ofChange treeErrorsSpec)) treeErrorsCard

/-- THE TIED CARD OF 'coldstorelaw10.TreeBlobs'. -/
def treeBlobsCard : Claim7 := { stood := { row := treeBlobsRow, standIns := [], harness := (true, "971da6edd60431238cee40c381ac6223c40d50f4d6aedc22df960b64bcf27c18"), looks := true }, kinds := [], alts := [], laidByText := true, laidKinds := [.data, .pinned], laidTests := true, laidLooks := .later }
def TreeBlobsCardSaid : Prop := Claim7.holds Tryd.pinned (.plain (OpenSpec.ofChange treeBlobsSpec)) treeBlobsCard

/-- THE TIED CARD OF 'coldstorelaw10.TreeFinds'. -/
def treeFindsCard : Claim7 := { stood := { row := treeFindsRow, standIns := [], harness := (true, "971da6edd60431238cee40c381ac6223c40d50f4d6aedc22df960b64bcf27c18"), looks := true }, kinds := [], alts := [], laidByText := true, laidKinds := [.data, .pinned], laidTests := true, laidLooks := .later }
def TreeFindsCardSaid : Prop := Claim7.holds Tryd.pinned (.plain (OpenSpec.ofChange treeFindsSpec)) treeFindsCard

/-- THE SECOND FORM's CARD OF 'coldstorelaw10.TreeBack'. -/
def treeBackUptoCard : Claim7 := { stood := { row := treeBackUptoRow, standIns := [], harness := (true, "971da6edd60431238cee40c381ac6223c40d50f4d6aedc22df960b64bcf27c18"), looks := true }, kinds := [], alts := [], laidByText := true, laidKinds := [.data, .pinned], laidTests := true, laidLooks := .later }
def TreeBackUptoCardSaid : Prop := Claim7.holds Tryd.pinned (.plain (OpenSpec.upto treeBackSpec)) treeBackUptoCard

/-- THE SECOND FORM's CARD OF 'coldstorelaw10.TreeErrors'. -/
def treeErrorsUptoCard : Claim7 := { stood := { row := treeErrorsUptoRow, standIns := [], harness := (true, "971da6edd60431238cee40c381ac6223c40d50f4d6aedc22df960b64bcf27c18"), looks := true }, kinds := [], alts := [], laidByText := true, laidKinds := [.data, .pinned], laidTests := true, laidLooks := .later }
def TreeErrorsUptoCardSaid : Prop := Claim7.holds Tryd.pinned (.plain (OpenSpec.upto treeErrorsSpec)) treeErrorsUptoCard

/-- THE SECOND FORM's CARD OF 'coldstorelaw10.TreeBlobs'. -/
def treeBlobsUptoCard : Claim7 := { stood := { row := treeBlobsUptoRow, standIns := [], harness := (true, "971da6edd60431238cee40c381ac6223c40d50f4d6aedc22df960b64bcf27c18"), looks := true }, kinds := [], alts := [], laidByText := true, laidKinds := [.data, .pinned], laidTests := true, laidLooks := .later }
def TreeBlobsUptoCardSaid : Prop := Claim7.holds Tryd.pinned (.plain (OpenSpec.upto treeBlobsSpec)) treeBlobsUptoCard

/-- THE SECOND FORM's CARD OF 'coldstorelaw10.TreeFinds'. -/
def treeFindsUptoCard : Claim7 := { stood := { row := treeFindsUptoRow, standIns := [], harness := (true, "971da6edd60431238cee40c381ac6223c40d50f4d6aedc22df960b64bcf27c18"), looks := true }, kinds := [], alts := [], laidByText := true, laidKinds := [.data, .pinned], laidTests := true, laidLooks := .later }
def TreeFindsUptoCardSaid : Prop := Claim7.holds Tryd.pinned (.plain (OpenSpec.upto treeFindsSpec)) treeFindsUptoCard
end Rows
end Go.Proofs.YtefabpgfhghpgaaDoor
