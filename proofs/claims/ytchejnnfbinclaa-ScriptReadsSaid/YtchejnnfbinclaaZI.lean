/-
  JOINED (9): a statement and its arguments, opened.
-/
import Derived.Test.YtchejnnfbinclaaZH
import Derived.ProofKit
import Derived.OpenShut
import Derived.ShutString
import Derived.ChangeOld
import Derived.Deep.Slices
import Derived.Deep.SlicePairs
set_option linter.unusedVariables false
set_option linter.unusedSimpArgs false

section
/- Opening a law's arguments: from the form's reading to the walks' own words. -/
namespace Go.My
open Go.ChangeShapes Go.WideShapes Go.ChangeAt Go.RowKit
open Go.ChangeMaps (open_string shut_string)

variable {H : Type} {enc : TypeId × Value → H} {P : Program} {W : World} {base : Nat} {spare : Nat → Bool} {held : Bool}

theorem u8_of_wf {n : Int} (h : (Lit.int .u8 n).wf = true) : ∃ c : UInt8, n = (c.toNat : Int) := by
  have hb := bounds_u8 h
  refine ⟨UInt8.ofNat n.toNat, ?_⟩
  rw [UInt8.toNat_ofNat']
  omega
theorem u64_of_wf {n : Int} (h : (Lit.int .u64 n).wf = true) : ∃ c : BitVec 64, n = w64 c := by
  have hb := bounds_u64 h
  refine ⟨BitVec.ofNat 64 n.toNat, ?_⟩
  rw [w64_def, BitVec.toNat_ofNat]
  omega
theorem u32_of_wf {n : Int} (h : (Lit.int .u32 n).wf = true) : ∃ c : BitVec 32, n = w32 c := by
  have hb := bounds_u32 h
  refine ⟨BitVec.ofNat 32 n.toNat, ?_⟩
  rw [w32_def, BitVec.toNat_ofNat]
  omega
theorem i64_of_wf {n : Int} (h : (Lit.int .i64 n).wf = true) : -9223372036854775808 ≤ n ∧ n ≤ 9223372036854775807 := by
  have := bounds_i64 h; omega

theorem op_u8 {t : TypeId} {v : Value} {d : DataW H} {p : List MemPlace} (ht : P.underlying t = some (.int .u8)) (hv : Value.okWide P W .any base t v)
    (h : DataW.Trod enc P W 0 (fun _ => true) true t v d p) : ∃ c : UInt8, v = .int .u8 (c.toNat : Int) := by
  obtain ⟨a, rfl, rfl, rfl, w⟩ := open_int ht hv h
  obtain ⟨c, rfl⟩ := u8_of_wf w
  exact ⟨c, rfl⟩
theorem op_u64 {t : TypeId} {v : Value} {d : DataW H} {p : List MemPlace} (ht : P.underlying t = some (.int .u64)) (hv : Value.okWide P W .any base t v)
    (h : DataW.Trod enc P W 0 (fun _ => true) true t v d p) : ∃ c : BitVec 64, v = .int .u64 (w64 c) := by
  obtain ⟨a, rfl, rfl, rfl, w⟩ := open_int ht hv h
  obtain ⟨c, rfl⟩ := u64_of_wf w
  exact ⟨c, rfl⟩
theorem op_u32 {t : TypeId} {v : Value} {d : DataW H} {p : List MemPlace} (ht : P.underlying t = some (.int .u32)) (hv : Value.okWide P W .any base t v)
    (h : DataW.Trod enc P W 0 (fun _ => true) true t v d p) : ∃ c : BitVec 32, v = .int .u32 (w32 c) := by
  obtain ⟨a, rfl, rfl, rfl, w⟩ := open_int ht hv h
  obtain ⟨c, rfl⟩ := u32_of_wf w
  exact ⟨c, rfl⟩
theorem op_i64 {t : TypeId} {v : Value} {d : DataW H} {p : List MemPlace} (ht : P.underlying t = some (.int .i64)) (hv : Value.okWide P W .any base t v)
    (h : DataW.Trod enc P W 0 (fun _ => true) true t v d p) : ∃ n : Int, v = .int .i64 n ∧ -9223372036854775808 ≤ n ∧ n ≤ 9223372036854775807 := by
  obtain ⟨a, rfl, rfl, rfl, w⟩ := open_int ht hv h
  exact ⟨a, rfl, i64_of_wf w⟩
theorem op_string {t : TypeId} {v : Value} {d : DataW H} {p : List MemPlace} (ht : P.underlying t = some .string) (hv : Value.okWide P W .any base t v)
    (h : DataW.Trod enc P W 0 (fun _ => true) true t v d p) : ∃ s : ByteArray, v = .string s ∧ s.size ≤ 9223372036854775807 := by
  obtain ⟨s, rfl, rfl, rfl, hs⟩ := open_string ht hv h
  exact ⟨s, rfl, by unfold maxLen at hs; exact hs⟩
theorem op_bool {t : TypeId} {v : Value} {d : DataW H} {p : List MemPlace} (ht : P.underlying t = some .bool) (hv : Value.okWide P W .any base t v)
    (h : DataW.Trod enc P W 0 (fun _ => true) true t v d p) : ∃ b : Bool, v = .bool b := by
  obtain ⟨b, rfl, rfl, rfl⟩ := open_bool ht hv h
  exact ⟨b, rfl⟩
theorem op_bytes {t e : TypeId} {v : Value} {d : DataW H} {p : List MemPlace} (ht : P.underlying t = some (.slice e)) (he : P.underlying e = some (.int .u8)) (hc : P.cellsOf e = 1)
    (hv : Value.okWide P W .any base t v) (h : DataW.Trod enc P W 0 (fun _ => true) true t v d p) : ∃ l, IsBytes W l v := by
  obtain ⟨a2, len2, cap2, rfl⟩ := okWide_slice ht hv
  obtain ⟨fuel, hf⟩ := h
  rcases open_ints ht he hc hf with ⟨hcs, _⟩ | ⟨x, l, c, zs, hcs, _, hl, hm, hz, _, hcell, hwz⟩
  · simp [Value.cells] at hcs
    obtain ⟨rfl, rfl, rfl⟩ := hcs
    exact ⟨[], none, 0, rfl, by simp, by decide, fun i hi => by simp at hi⟩
  · simp [Value.cells] at hcs
    obtain ⟨rfl, rfl, rfl⟩ := hcs
    simp only [if_true] at hz
    have hle : ((zs.take len2).map fun n => UInt8.ofNat n.toNat).length = len2 := by simp; omega
    refine ⟨(zs.take len2).map fun n => UInt8.ofNat n.toNat, some x, cap2, by rw [hle], by omega, by unfold maxLen at hm; omega, ?_⟩
    rw [hle]
    intro i hi
    obtain ⟨b, off, spot⟩ := x
    have hci := hcell i (by omega)
    have hspot : spot = none := by
      have h0 := hcell 0 (by omega)
      simpa [Addr.add] using World.cell?_spot h0
    subst hspot
    refine ⟨b, off, rfl, ?_⟩
    have ha : (Addr.add ⟨b, off, none⟩ i) = ⟨b, off + i, none⟩ := by cases i <;> simp [Addr.add]
    rw [ha] at hci
    rw [hci]
    obtain ⟨c, hcc⟩ := u8_of_wf (hwz (zs.getD i 0) (by
      rw [List.getD_eq_getElem?_getD, List.getElem?_eq_getElem (by omega)]; exact List.getElem_mem _))
    have hget : ((zs.take len2).map fun n => UInt8.ofNat n.toNat).getD i 0 = c := by
      have h1 : zs[i]? = some (zs.getD i 0) := by rw [List.getD_eq_getElem?_getD, List.getElem?_eq_getElem (by omega)]; rfl
      rw [List.getD_eq_getElem?_getD, List.getElem?_map, List.getElem?_take, if_pos hi, h1, hcc]
      simp
    rw [byt_getD, hget, hcc]
theorem op_ints {t e : TypeId} {v : Value} {d : DataW H} {p : List MemPlace} (ht : P.underlying t = some (.slice e)) (he : P.underlying e = some (.int .i64)) (hc : P.cellsOf e = 1)
    (hv : Value.okWide P W .any base t v) (h : DataW.Trod enc P W 0 (fun _ => true) true t v d p) :
    ∃ l : List Int, IsRow W (int64 l) l.length v ∧ l.length ≤ 9223372036854775807 ∧ ∀ n ∈ l, -9223372036854775808 ≤ n ∧ n ≤ 9223372036854775807 := by
  obtain ⟨a2, len2, cap2, rfl⟩ := okWide_slice ht hv
  obtain ⟨fuel, hf⟩ := h
  rcases open_ints ht he hc hf with ⟨hcs, _⟩ | ⟨x, l, c, zs, hcs, _, hl, hm, hz, _, hcell, hwz⟩
  · simp [Value.cells] at hcs
    obtain ⟨rfl, rfl, rfl⟩ := hcs
    exact ⟨[], IsRow.nil W _, by simp, by simp⟩
  · simp [Value.cells] at hcs
    obtain ⟨rfl, rfl, rfl⟩ := hcs
    simp only [if_true] at hz
    have hle : (zs.take len2).length = len2 := by simp; omega
    unfold maxLen at hm
    refine ⟨zs.take len2, ?_, by omega, fun n hn => i64_of_wf (hwz n (List.mem_of_mem_take hn))⟩
    rw [hle]
    refine ⟨some x, cap2, rfl, hl, hm, ?_⟩
    intro i hi
    obtain ⟨b, off, spot⟩ := x
    have hci := hcell i (by omega)
    have hspot : spot = none := by
      have h0 := hcell 0 (by omega)
      simpa [Addr.add] using World.cell?_spot h0
    subst hspot
    refine ⟨b, off, rfl, ?_⟩
    have ha : (Addr.add ⟨b, off, none⟩ i) = ⟨b, off + i, none⟩ := by cases i <;> simp [Addr.add]
    rw [ha] at hci
    rw [hci, int64_def]
    simp [List.getD_eq_getElem?_getD, List.getElem?_take, hi]
end Go.My
end

section
/- Opening an argument of bytes: it is no odd nil. -/
namespace Go.My
open Go.ChangeShapes Go.WideShapes Go.ChangeAt Go.RowKit

theorem op_bytesN {H : Type} {enc : TypeId × Value → H} {P : Program} {W : World} {base : Nat} {t e : TypeId} {v : Value} {d : DataW H} {p : List MemPlace} (ht : P.underlying t = some (.slice e)) (he : P.underlying e = some (.int .u8)) (hc : P.cellsOf e = 1)
    (hv : Value.okWide P W .any base t v) (h : DataW.Trod enc P W 0 (fun _ => true) true t v d p) : ∃ l, IsBytes W l v ∧ NilOk v := by
  obtain ⟨l, hl⟩ := op_bytes ht he hc hv h
  refine ⟨l, hl, ?_⟩
  obtain ⟨a2, len2, cap2, rfl⟩ := okWide_slice ht hv
  obtain ⟨fuel, hf⟩ := h
  rcases open_ints ht he hc hf with ⟨hcs, _⟩ | ⟨x, l, c, zs, hcs, _⟩
  · simp [Value.cells] at hcs
    obtain ⟨rfl, rfl, rfl⟩ := hcs
    intro n c h; simp at h; exact h.2.symm
  · simp [Value.cells] at hcs
    obtain ⟨rfl, rfl, rfl⟩ := hcs
    exact NilOk.some _ _ _
end Go.My
end

section
/- Opening arguments that are rows: of rows of bytes, of texts, of bools, of files. -/
namespace Go.My
open Go.ChangeShapes Go.WideShapes Go.ChangeAt Go.RowKit Go.Deep

section
variable {H : Type} {enc : TypeId × Value → H} {P : Program} {W : World} {t e u : TypeId} {fuel : Nat} {cs : List Value} {x : DataW H × List MemPlace}
theorem addr_form {a : Addr} {y : Value} (h : W.cell? (a.add 0) = some y) : a = ⟨a.block, a.off, none⟩ := by
  obtain ⟨b, off, spot⟩ := a
  have hs : spot = none := by simpa [Addr.add] using World.cell?_spot h
  subst hs; rfl
theorem cell_bytes (ht : P.underlying t = some (.slice e)) (he : P.underlying e = some (.int .u8)) (hc : P.cellsOf e = 1) (h : DataW.trod enc P W 0 (fun _ => true) true fuel t cs = some x) : ∃ l v, cs = [v] ∧ IsBytes W l v ∧ NilOk v := by
  rcases open_ints ht he hc h with ⟨rfl, _⟩ | ⟨x, len2, cap2, zs, rfl, _, hl, hm, hz, _, hcell, hwz⟩
  · exact ⟨[], _, rfl, ⟨none, 0, rfl, by simp, by decide, fun i hi => by simp at hi⟩, fun n c h => by simp at h; exact h.2.symm⟩
  · simp only [if_true] at hz
    have hle : ((zs.take len2).map fun n => UInt8.ofNat n.toNat).length = len2 := by simp; omega
    refine ⟨(zs.take len2).map fun n => UInt8.ofNat n.toNat, _, rfl, ⟨some x, cap2, by rw [hle], by omega, by unfold maxLen at hm; omega, ?_⟩, NilOk.some _ _ _⟩
    rw [hle]
    intro i hi
    have hci := hcell i (by omega)
    have hx := addr_form (hcell 0 (by omega))
    generalize x.block = b, x.off = off at hx
    subst hx
    refine ⟨b, off, rfl, ?_⟩
    rw [addr_add] at hci
    rw [hci]
    obtain ⟨c, hcc⟩ := u8_of_wf (hwz (zs.getD i 0) (by
      rw [List.getD_eq_getElem?_getD, List.getElem?_eq_getElem (by omega)]; exact List.getElem_mem _))
    have hget : ((zs.take len2).map fun n => UInt8.ofNat n.toNat).getD i 0 = c := by
      have h1 : zs[i]? = some (zs.getD i 0) := by rw [List.getD_eq_getElem?_getD, List.getElem?_eq_getElem (by omega)]; rfl
      rw [List.getD_eq_getElem?_getD, List.getElem?_map, List.getElem?_take, if_pos hi, h1, hcc]
      simp
    rw [byt_getD, hget, hcc]
theorem getD_map_range {α : Type} (n : Nat) (f : Nat → α) (d : α) (i : Nat) (hi : i < n) : ((List.range n).map f).getD i d = f i := by
  rw [List.getD_eq_getElem?_getD, List.getElem?_map, List.getElem?_range hi]; rfl
theorem cell_rows (ht : P.underlying t = some (.slice e)) (he : P.underlying e = some (.slice u)) (hu : P.underlying u = some (.int .u8)) (hce : P.cellsOf e = 1) (hcu : P.cellsOf u = 1) (h : DataW.trod enc P W 0 (fun _ => true) true fuel t cs = some x) :
    ∃ ls v, cs = [v] ∧ IsRowsN W ls v ∧ NilOk v := by
  rcases open_slice1 ht hce h with ⟨rfl, _⟩ | ⟨a, len, cap, m, n, V, D, Pl, rfl, _, hl, hm, hmm, _, hx⟩
  · exact ⟨[], _, rfl, ⟨fun _ => undef, IsRow.nil W _, fun i hi => by simp at hi⟩, fun n c h => by simp at h; exact h.2.symm⟩
  · simp only [if_true] at hmm
    subst hmm
    have hb : ∀ i, i < len → ∃ l, IsBytes W l (V i) ∧ NilOk (V i) := by
      intro i hi
      obtain ⟨l, v, h1, h2, h3⟩ := cell_bytes he hu hcu (hx i (by omega)).2
      simp only [List.cons.injEq, and_true] at h1
      exact ⟨l, by rw [h1]; exact h2, by rw [h1]; exact h3⟩
    obtain ⟨f, hf⟩ := choose_lt hb
    refine ⟨(List.range len).map f, _, rfl, ⟨V, ⟨some a, m, by simp, by simp; exact hl, by unfold maxLen at hm; omega, ?_⟩, ?_⟩, NilOk.some _ _ _⟩
    · simp only [List.length_map, List.length_range]
      intro i hi
      have hci := (hx i (by omega)).1
      have hxa := addr_form (hx 0 (by omega)).1
      generalize a.block = b, a.off = off at hxa
      subst hxa
      rw [addr_add] at hci
      exact ⟨b, off, rfl, hci⟩
    · simp only [List.length_map, List.length_range]
      intro i hi
      rw [getD_map_range len f [] i hi]
      exact hf i hi
end
end Go.My
namespace Go.Proofs.Ytchejnnfbinclaa
open Go.ChangeShapes Go.WideShapes Go.ChangeAt Go.RowKit Go.Deep Go.My

section
variable {H : Type} {enc : TypeId × Value → H} {P : Program} {W : World} {t e u : TypeId} {fuel : Nat} {cs : List Value} {x : DataW H × List MemPlace}
theorem cell_strs (ht : P.underlying t = some (.slice e)) (he : P.underlying e = some .string) (hce : P.cellsOf e = 1) (h : DataW.trod enc P W 0 (fun _ => true) true fuel t cs = some x) :
    ∃ ns v, cs = [v] ∧ IsStrs W ns v := by
  rcases open_slice1 ht hce h with ⟨rfl, _⟩ | ⟨a, len, cap, m, n, V, D, Pl, rfl, _, hl, hm, hmm, _, hx⟩
  · exact ⟨[], _, rfl, IsRow.nil W _⟩
  · simp only [if_true] at hmm
    subst hmm
    have hb : ∀ i, i < len → ∃ l : List UInt8, V i = .string (strB l) := by
      intro i hi
      obtain ⟨s, h1, -, -⟩ := DataW.trod_string he (hx i (by omega)).2
      simp only [List.cons.injEq, and_true] at h1
      exact ⟨s.data.toList, by rw [h1]; rfl⟩
    obtain ⟨f, hf⟩ := choose_lt hb
    refine ⟨(List.range len).map f, _, rfl, ⟨some a, m, by simp, by simp; exact hl, by unfold maxLen at hm; omega, ?_⟩⟩
    simp only [List.length_map, List.length_range]
    intro i hi
    have hci := (hx i (by omega)).1
    have hxa := addr_form (hx 0 (by omega)).1
    generalize a.block = b, a.off = off at hxa
    subst hxa
    rw [addr_add] at hci
    refine ⟨b, off, rfl, ?_⟩
    unfold strV
    rw [hci, getD_map_range len f [] i hi, hf i hi]
theorem cell_bools (ht : P.underlying t = some (.slice e)) (he : P.underlying e = some .bool) (hce : P.cellsOf e = 1) (h : DataW.trod enc P W 0 (fun _ => true) true fuel t cs = some x) :
    ∃ bs v, cs = [v] ∧ IsBools W bs v := by
  rcases open_slice1 ht hce h with ⟨rfl, _⟩ | ⟨a, len, cap, m, n, V, D, Pl, rfl, _, hl, hm, hmm, _, hx⟩
  · exact ⟨[], _, rfl, IsRow.nil W _⟩
  · simp only [if_true] at hmm
    subst hmm
    have hb : ∀ i, i < len → ∃ l : Bool, V i = .bool l := by
      intro i hi
      obtain ⟨s, h1, -⟩ := DataW.trod_bool he (hx i (by omega)).2
      simp only [List.cons.injEq, and_true] at h1
      exact ⟨s, h1⟩
    obtain ⟨f, hf⟩ := choose_lt hb
    refine ⟨(List.range len).map f, _, rfl, ⟨some a, m, by simp, by simp; exact hl, by unfold maxLen at hm; omega, ?_⟩⟩
    simp only [List.length_map, List.length_range]
    intro i hi
    have hci := (hx i (by omega)).1
    have hxa := addr_form (hx 0 (by omega)).1
    generalize a.block = b, a.off = off at hxa
    subst hxa
    rw [addr_add] at hci
    refine ⟨b, off, rfl, ?_⟩
    unfold boolV
    rw [hci, getD_map_range len f false i hi, hf i hi]
theorem cell_files {f0 f1 : Field} (ht : P.underlying t = some (.slice e)) (he : P.underlying e = some (.struct #[f0, f1])) (ce : P.cellsOf e = 2) (o0 : f0.offset = 0) (o1 : f1.offset = 1) (c0 : P.cellsOf f0.type = 1) (c1 : P.cellsOf f1.type = 1)
    (h0 : P.underlying f0.type = some .string) (h1 : P.underlying f1.type = some (.slice u)) (hu : P.underlying u = some (.int .u8)) (hcu : P.cellsOf u = 1) (h : DataW.trod enc P W 0 (fun _ => true) true fuel t cs = some x) :
    ∃ fs v, cs = [v] ∧ IsFiles W fs v := by
  rcases open_slice_pairs ht he ce o0 o1 c0 c1 h with ⟨rfl, _⟩ | ⟨a, len, cap, m, n, V0, V1, D0, D1, P0, P1, rfl, _, hl, hm, hmm, _, hx⟩
  · exact ⟨[], _, rfl, none, 0, rfl, by simp, by decide, fun i hi => by simp at hi⟩
  · simp only [if_true] at hmm
    subst hmm
    have hb : ∀ i, i < len → ∃ f : FileL, V0 i = .string (strB f.1) ∧ IsBytes W f.2 (V1 i) ∧ NilOk (V1 i) := by
      intro i hi
      obtain ⟨-, -, t0, t1⟩ := hx i (by omega)
      obtain ⟨s, e1, -, -⟩ := DataW.trod_string h0 t0
      obtain ⟨l, v, e2, e3, e4⟩ := cell_bytes h1 hu hcu t1
      simp only [List.cons.injEq, and_true] at e1 e2
      exact ⟨(s.data.toList, l), by rw [e1]; rfl, by rw [e2]; exact e3, by rw [e2]; exact e4⟩
    obtain ⟨f, hf⟩ := choose_lt hb
    refine ⟨(List.range len).map f, _, rfl, some a, m, by simp, by simp; exact hl, by unfold maxLen at hm; omega, ?_⟩
    simp only [List.length_map, List.length_range]
    intro i hi
    obtain ⟨hc0, hc1, -, -⟩ := hx i (by omega)
    have hxa := addr_form (hx 0 (by omega)).1
    generalize a.block = b, a.off = off at hxa
    subst hxa
    rw [addr_add] at hc0 hc1
    refine ⟨b, off, V1 i, rfl, ?_, ?_, ?_, ?_⟩
    · rw [hc0, getD_map_range len f ([], []) i hi, (hf i hi).1]
    · exact hc1
    · rw [getD_map_range len f ([], []) i hi]; exact (hf i hi).2.1
    · exact (hf i hi).2.2
end
section
variable {H : Type} {enc : TypeId × Value → H} {W : World} {base : Nat}
set_option maxRecDepth 100000 in
theorem op_rows {v : Value} {d : DataW H} {p : List MemPlace} (hv : Value.okWide Try.prog W .any base 59 v) (h : DataW.Trod enc Try.prog W 0 (fun _ => true) true 59 v d p) : ∃ ls, IsRowsN W ls v ∧ NilOk v := by
  obtain ⟨a, n, c, rfl⟩ := okWide_slice Try.underlying59 hv
  obtain ⟨fuel, hf⟩ := h
  obtain ⟨ls, v', h1, h2, h3⟩ := cell_rows Try.underlying59 Try.underlying31 Try.underlying5 (by kernel_rfl) (by kernel_rfl) hf
  simp [Value.cells] at h1
  subst h1
  exact ⟨ls, h2, h3⟩
end
end Go.Proofs.Ytchejnnfbinclaa
end

section
/- Opening an argument of type repo.Cmd, and one of type repo.Answer. Printed by wip/mkopencmd.py. -/
namespace Go.Proofs.Ytchejnnfbinclaa
open Go.ChangeShapes Go.WideShapes Go.ChangeAt Go.RowKit Go.Deep Go.My

/-- a command as an argument -/
def IsCmdA (w : World) (c : CmdI) (v : Value) : Prop := ∃ vf vb, v = cmdVal c vf vb ∧ IsFiles w c.files vf ∧ IsBools w c.bits vb ∧ c.who < 18446744073709551616 ∧ I64 c.kind ∧ I64 c.n ∧ I64 c.last ∧ I64 c.days ∧ I64 c.day ∧ I64 c.within
def IsAnsA (w : World) (a : AnsI) (v : Value) : Prop := ∃ vn vf, v = ansVal a vn vf ∧ IsStrs w a.names vn ∧ IsFiles w a.files vf ∧ I64 a.code ∧ I64 a.n
theorem u64_nat {n : Int} (h : (Lit.int .u64 n).wf = true) : ∃ k : Nat, n = (k : Int) ∧ k < 18446744073709551616 := by
  have hb := bounds_u64 h
  exact ⟨n.toNat, by omega, by omega⟩

variable {H : Type} {enc : TypeId × Value → H} {W : World} {base : Nat}
set_option maxRecDepth 100000 in
set_option maxHeartbeats 1000000 in
theorem op_cmd {v : Value} {d : DataW H} {p : List MemPlace} (hv : Value.okWide Try.prog W .any base 28 v)
    (h : DataW.Trod enc Try.prog W 0 (fun _ => true) true 28 v d p) : ∃ c, IsCmdA W c v := by
  unfold Value.okWide at hv
  rw [Try.underlying28] at hv
  obtain ⟨cs, rfl, hsz, -⟩ := hv
  have hcl : Try.prog.cellsOf 28 = 13 := by kernel_rfl
  rw [hcl] at hsz
  obtain ⟨fuel, hf⟩ := h
  obtain ⟨xs, n, -, -, -, hxl, hfs⟩ := DataW.trod_struct Try.underlying28 hf
  replace hxl : xs.length = 9 := hxl
  have k0 : Try.prog.cellsOf 23 = 1 := by kernel_rfl
  have k1 : Try.prog.cellsOf 26 = 1 := by kernel_rfl
  have k2 : Try.prog.cellsOf 4 = 1 := by kernel_rfl
  have k3 : Try.prog.cellsOf 3 = 1 := by kernel_rfl
  have k4 : Try.prog.cellsOf 2 = 1 := by kernel_rfl
  have k5 : Try.prog.cellsOf 25 = 5 := by kernel_rfl
  have k6 : Try.prog.cellsOf 9 = 1 := by kernel_rfl
  have k7 : Try.prog.cellsOf 22 = 1 := by kernel_rfl
  have h0 := hfs 0 _ rfl
  have h1 := hfs 1 _ rfl
  have h2 := hfs 2 _ rfl
  have h3 := hfs 3 _ rfl
  have h4 := hfs 4 _ rfl
  have h5 := hfs 5 _ rfl
  have h6 := hfs 6 _ rfl
  have h7 := hfs 7 _ rfl
  have h8 := hfs 8 _ rfl
  obtain ⟨l⟩ := cs
  match l, hsz with
  | [c0, c1, c2, c3, c4, c5, c6, c7, c8, c9, c10, c11, c12], _ =>
    have hx : ∀ i, i < 9 → ∃ x, xs[i]? = some x := fun i hi => ⟨xs[i]'(by rw [hxl]; exact hi), List.getElem?_eq_getElem _⟩
    obtain ⟨x0, e0⟩ := hx 0 (by decide)
    have g0 := h0.trans e0
    obtain ⟨n0, hc0, -, w0⟩ := DataW.trod_int Try.underlying3 g0
    obtain ⟨x1, e1⟩ := hx 1 (by decide)
    have g1 := h1.trans e1
    obtain ⟨n1, hc1, -, w1⟩ := DataW.trod_int Try.underlying2 g1
    obtain ⟨x2, e2⟩ := hx 2 (by decide)
    have g2 := h2.trans e2
    obtain ⟨m2, hc2, -, w2⟩ := DataW.trod_int Try.underlying22 g2
    obtain ⟨x3, e3⟩ := hx 3 (by decide)
    have g3 := h3.trans e3
    obtain ⟨n3, hc3, -⟩ := DataW.trod_bool Try.underlying4 g3
    obtain ⟨x4, e4⟩ := hx 4 (by decide)
    have g4 := h4.trans e4
    obtain ⟨n4, hc4, -, -⟩ := DataW.trod_string Try.underlying9 g4
    obtain ⟨x5, e5⟩ := hx 5 (by decide)
    have g5 := h5.trans e5
    obtain ⟨n5, hc5, -, -⟩ := DataW.trod_string Try.underlying9 g5
    obtain ⟨x6, e6⟩ := hx 6 (by decide)
    have g6 := h6.trans e6
    obtain ⟨n6, u6, hc6, w6⟩ := cell_files Try.underlying23 Try.underlying76 (by kernel_rfl) rfl rfl (by kernel_rfl) (by kernel_rfl) Try.underlying9 Try.underlying31 Try.underlying5 (by kernel_rfl) g6
    obtain ⟨x7, e7⟩ := hx 7 (by decide)
    have g7 := h7.trans e7
    obtain ⟨ys, m, -, -, -, hyl, hys⟩ := DataW.trod_struct Try.underlying25 g7
    replace hyl : ys.length = 5 := hyl
    have hy : ∀ i, i < 5 → ∃ x, ys[i]? = some x := fun i hi => ⟨ys[i]'(by rw [hyl]; exact hi), List.getElem?_eq_getElem _⟩
    obtain ⟨y0, ey0⟩ := hy 0 (by decide)
    have gy0 := (hys 0 _ rfl).trans ey0
    obtain ⟨n7, hc7, -, w7⟩ := DataW.trod_int Try.underlying3 gy0
    obtain ⟨y1, ey1⟩ := hy 1 (by decide)
    have gy1 := (hys 1 _ rfl).trans ey1
    obtain ⟨n8, hc8, -, w8⟩ := DataW.trod_int Try.underlying3 gy1
    obtain ⟨y2, ey2⟩ := hy 2 (by decide)
    have gy2 := (hys 2 _ rfl).trans ey2
    obtain ⟨n9, hc9, -, w9⟩ := DataW.trod_int Try.underlying2 gy2
    obtain ⟨y3, ey3⟩ := hy 3 (by decide)
    have gy3 := (hys 3 _ rfl).trans ey3
    obtain ⟨n10, hc10, -, w10⟩ := DataW.trod_int Try.underlying2 gy3
    obtain ⟨y4, ey4⟩ := hy 4 (by decide)
    have gy4 := (hys 4 _ rfl).trans ey4
    obtain ⟨n11, hc11, -, -⟩ := DataW.trod_string Try.underlying9 gy4
    obtain ⟨x8, e8⟩ := hx 8 (by decide)
    have g8 := h8.trans e8
    obtain ⟨n12, u12, hc12, w12⟩ := cell_bools Try.underlying26 Try.underlying4 (by kernel_rfl) g8
    simp [k0, k1, k2, k3, k4, k5, k6, k7, Value.cells] at hc0 hc1 hc2 hc3 hc4 hc5 hc6 hc7 hc8 hc9 hc10 hc11 hc12
    obtain ⟨who, rfl, hwho⟩ := u64_nat w2
    subst hc0 hc1 hc2 hc3 hc4 hc5 hc6 hc7 hc8 hc9 hc10 hc11 hc12
    exact ⟨⟨n0, n1, who, n3, n4.data.toList, n5.data.toList, n6, n7, n8, n9, n10, n11.data.toList, n12⟩, c6, c12, rfl, w6, w12, hwho, i64_of_wf w0, i64_of_wf w1, i64_of_wf w7, i64_of_wf w8, i64_of_wf w9, i64_of_wf w10⟩
set_option maxRecDepth 100000 in
set_option maxHeartbeats 1000000 in
theorem op_ans {v : Value} {d : DataW H} {p : List MemPlace} (hv : Value.okWide Try.prog W .any base 46 v)
    (h : DataW.Trod enc Try.prog W 0 (fun _ => true) true 46 v d p) : ∃ a, IsAnsA W a v := by
  unfold Value.okWide at hv
  rw [Try.underlying46] at hv
  obtain ⟨cs, rfl, hsz, -⟩ := hv
  have hcl : Try.prog.cellsOf 46 = 5 := by kernel_rfl
  rw [hcl] at hsz
  obtain ⟨fuel, hf⟩ := h
  obtain ⟨xs, n, -, -, -, hxl, hfs⟩ := DataW.trod_struct Try.underlying46 hf
  replace hxl : xs.length = 5 := hxl
  have k0 : Try.prog.cellsOf 23 = 1 := by kernel_rfl
  have k1 : Try.prog.cellsOf 44 = 1 := by kernel_rfl
  have k2 : Try.prog.cellsOf 32 = 1 := by kernel_rfl
  have k3 : Try.prog.cellsOf 4 = 1 := by kernel_rfl
  have k4 : Try.prog.cellsOf 3 = 1 := by kernel_rfl
  have h0 := hfs 0 _ rfl
  have h1 := hfs 1 _ rfl
  have h2 := hfs 2 _ rfl
  have h3 := hfs 3 _ rfl
  have h4 := hfs 4 _ rfl
  obtain ⟨l⟩ := cs
  match l, hsz with
  | [c0, c1, c2, c3, c4], _ =>
    have hx : ∀ i, i < 5 → ∃ x, xs[i]? = some x := fun i hi => ⟨xs[i]'(by rw [hxl]; exact hi), List.getElem?_eq_getElem _⟩
    obtain ⟨x0, e0⟩ := hx 0 (by decide)
    have g0 := h0.trans e0
    obtain ⟨n0, hc0, -, w0⟩ := DataW.trod_int Try.underlying32 g0
    obtain ⟨x1, e1⟩ := hx 1 (by decide)
    have g1 := h1.trans e1
    obtain ⟨n1, u1, hc1, w1⟩ := cell_strs Try.underlying44 Try.underlying9 (by kernel_rfl) g1
    obtain ⟨x2, e2⟩ := hx 2 (by decide)
    have g2 := h2.trans e2
    obtain ⟨n2, u2, hc2, w2⟩ := cell_files Try.underlying23 Try.underlying76 (by kernel_rfl) rfl rfl (by kernel_rfl) (by kernel_rfl) Try.underlying9 Try.underlying31 Try.underlying5 (by kernel_rfl) g2
    obtain ⟨x3, e3⟩ := hx 3 (by decide)
    have g3 := h3.trans e3
    obtain ⟨n3, hc3, -⟩ := DataW.trod_bool Try.underlying4 g3
    obtain ⟨x4, e4⟩ := hx 4 (by decide)
    have g4 := h4.trans e4
    obtain ⟨n4, hc4, -, w4⟩ := DataW.trod_int Try.underlying3 g4
    simp [k0, k1, k2, k3, k4, Value.cells] at hc0 hc1 hc2 hc3 hc4
    subst hc0 hc1 hc2 hc3 hc4
    exact ⟨⟨n0, n1, n2, n3, n4⟩, c1, c2, rfl, w1, w2, i64_of_wf w0, i64_of_wf w4⟩

end Go.Proofs.Ytchejnnfbinclaa
end
