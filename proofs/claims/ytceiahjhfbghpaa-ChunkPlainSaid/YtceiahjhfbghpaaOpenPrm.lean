/- Opening an argument of type chunk.Params. -/
import Derived.Test.YtceiahjhfbghpaaOpen
import Derived.Test.YtceiahjhfbghpaaChunkA
namespace Go.Proofs.Ytceiahjhfbghpaa
open Go.ChangeShapes Go.WideShapes Go.ChangeAt Go.RowKit Go.My

structure PrmI where
  mn : Int
  mx : Int
  bt : Int
  wd : Int
  sd : BitVec 64
def i64B (n : Int) : Prop := -9223372036854775808 ≤ n ∧ n ≤ 9223372036854775807
def IsPrm (a : PrmI) (v : Value) : Prop := v = prmVal a.mn a.mx a.bt a.wd a.sd ∧ i64B a.mn ∧ i64B a.mx ∧ i64B a.bt ∧ i64B a.wd

variable {H : Type} {enc : TypeId × Value → H} {W : World} {base : Nat}
theorem op_prm {v : Value} {d : DataW H} {p : List MemPlace} (hv : Value.okWide Try.prog W .any base 24 v)
    (h : DataW.Trod enc Try.prog W 0 (fun _ => true) true 24 v d p) : ∃ a, IsPrm a v := by
  unfold Value.okWide at hv
  rw [Try.underlying24] at hv
  obtain ⟨cs, rfl, hsz, -⟩ := hv
  have hc : Try.prog.cellsOf 24 = 5 := by kernel_rfl
  rw [hc] at hsz
  obtain ⟨fuel, hf⟩ := h
  obtain ⟨xs, n, -, -, -, hxl, hfs⟩ := DataW.trod_struct Try.underlying24 hf
  have hi : Try.prog.cellsOf 3 = 1 := by kernel_rfl
  have hu : Try.prog.cellsOf 22 = 1 := by kernel_rfl
  have h0 := hfs 0 _ rfl
  have h1 := hfs 1 _ rfl
  have h2 := hfs 2 _ rfl
  have h3 := hfs 3 _ rfl
  have h4 := hfs 4 _ rfl
  obtain ⟨l⟩ := cs
  match l, hsz with
  | [c0, c1, c2, c3, c4], _ =>
    have hx : ∀ i, i < 5 → ∃ x, xs[i]? = some x := fun i hi => ⟨xs[i]'(by rw [hxl]; exact hi), List.getElem?_eq_getElem _⟩
    obtain ⟨x0, e0⟩ := hx 0 (by decide); obtain ⟨x1, e1⟩ := hx 1 (by decide); obtain ⟨x2, e2⟩ := hx 2 (by decide); obtain ⟨x3, e3⟩ := hx 3 (by decide); obtain ⟨x4, e4⟩ := hx 4 (by decide)
    obtain ⟨n0, hc0, -, w0⟩ := DataW.trod_int Try.underlying3 (h0.trans e0)
    obtain ⟨n1, hc1, -, w1⟩ := DataW.trod_int Try.underlying3 (h1.trans e1)
    obtain ⟨n2, hc2, -, w2⟩ := DataW.trod_int Try.underlying3 (h2.trans e2)
    obtain ⟨n3, hc3, -, w3⟩ := DataW.trod_int Try.underlying3 (h3.trans e3)
    obtain ⟨n4, hc4, -, w4⟩ := DataW.trod_int Try.underlying22 (h4.trans e4)
    simp [hi, hu, Value.cells] at hc0 hc1 hc2 hc3 hc4
    obtain ⟨s, rfl⟩ := u64_of_wf w4
    subst hc0 hc1 hc2 hc3 hc4
    exact ⟨⟨n0, n1, n2, n3, s⟩, rfl, i64_of_wf w0, i64_of_wf w1, i64_of_wf w2, i64_of_wf w3⟩

end Go.Proofs.Ytceiahjhfbghpaa
