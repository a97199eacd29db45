/- Opening an argument of bytes: it is no odd nil. -/
import Derived.Test.YtceiahjhfbghpaaOpen
import Derived.Test.YtceiahjhfbghpaaApp
namespace Go.My
open Go.ChangeShapes Go.WideShapes Go.ChangeAt Go.RowKit

theorem op_bytesN {H : Type} {enc : TypeId × Value → H} {P : Program} {W : World} {base : Nat} {t e : TypeId} {v : Value} {d : DataW H} {p : List MemPlace} (ht : P.underlying t = some (.slice e)) (he : P.underlying e = some (.int .u8)) (hc : P.cellsOf e = 1)
    (hv : Value.okWide P W .any base t v) (h : DataW.Trod enc P W 0 (fun _ => true) true t v d p) : ∃ l, IsBytes W l v ∧ NilOk v := by
  obtain ⟨l, hl⟩ := op_bytes ht he hc hv h
  refine ⟨l, hl, ?_⟩
  obtain ⟨a2, len2, cap2, rfl⟩ := okWide_slice ht hv
  obtain ⟨fuel, hf⟩ := h
  rcases open_ints ht he hc hf with ⟨hcs, _⟩ | ⟨x, l, c, zs, hcs, _⟩
  · simp [Value.cells] at hcs
    obtain ⟨rfl, rfl, rfl⟩ := hcs
    intro n c h; simp at h; exact h.2.symm
  · simp [Value.cells] at hcs
    obtain ⟨rfl, rfl, rfl⟩ := hcs
    exact NilOk.some _ _ _
end Go.My
