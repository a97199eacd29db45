/- A map[int]int of the call's own, by what it holds at each key. No program in sight. -/
import Derived.Test.YtceiahjhfbghpaaLib
import Derived.Maps.OwnSet
namespace Go.My
open Go.RowKit Go.Maps

/-- block b is a map of at most n entries that holds g -/
def IMap (w : World) (P : Program) (k e : TypeId) (b n : Nat) (g : Int → Option Int) : Prop :=
  ∃ D : DataW Nat, w.ownsMap P k (plainElem P e) b n D ∧ IsMap D ∧ ∀ key : Int, has D (.int .i64 key) = (g key).isSome ∧ ∀ c, g key = some c → ∀ z, D.atKey (.int .i64 key) z = .lit (.int .i64 c)
variable {P : Program} {w w' : World} {k e : TypeId} {b n : Nat} {g : Int → Option Int}
theorem IMap.made (w : World) (P : Program) (k e : TypeId) : IMap (w.alloc (.map #[] 0)) P k e w.heap.size 0 (fun _ => none) :=
  ⟨.map [], World.ownsMap_made w P k _, isMap_empty, fun key => ⟨rfl, fun c h => by cases h⟩⟩
theorem IMap.lt (h : IMap w P k e b n g) : b < w.heap.size := by obtain ⟨D, h1, -⟩ := h; exact h1.lt
theorem IMap.ext {S : Nat → Prop} (h : IMap w P k e b n g) (x : Ext S w w') (hs : ¬ S b) : IMap w' P k e b n g := by
  obtain ⟨D, h1, h2⟩ := h
  have hlt := h1.lt
  obtain ⟨es, clock, hb, rest⟩ := h1
  exact ⟨D, ⟨es, clock, by rw [x.block b hlt hs]; exact hb, rest⟩, h2⟩
theorem wf_i64 {c : Int} (h : -9223372036854775808 ≤ c ∧ c ≤ 9223372036854775807) : (Lit.int .i64 c).wf = true := by
  simp [Lit.wf, IntKind.min, IntKind.max, IntKind.signed, IntKind.bits]; omega

section
variable {ops : Array Oper} {rest : List Oper} {o : Oper} {a : Act} {Q : Exit → Act → World → Prop}
/-- 'm[key] = c' -/
theorem wpList_imap_put (w : World) (hg : o.guard = none) (m x v : Operand) (t : TypeId) (hop : o.op = Op.mapUpdate t m x v) (k e : TypeId) (hk : P.underlying k = some (.int .i64)) (he : P.underlying e = some (.int .i64)) (ht : P.underlying t = some (.map k e))
    (b n : Nat) (g : Int → Option Int) (hm : a.eval m = .map (some b)) (hi : IMap w P k e b n g) (hn : n < 9223372036854775807) (key c : Int) (hx : a.eval x = .int .i64 key) (hv : a.eval v = .int .i64 c)
    (hkw : -9223372036854775808 ≤ key ∧ key ≤ 9223372036854775807) (hcw : -9223372036854775808 ≤ c ∧ c ≤ 9223372036854775807)
    (hK : ∀ w', IMap w' P k e b (n + 1) (fun y => if y = key then some c else g y) → Ext (fun j => j = b) w w' → wpList P ops Q rest (a.put o.dst undef) w') : wpList P ops Q (o :: rest) a w := by
  obtain ⟨D, h1, h2, h3⟩ := hi
  refine wpList_mapUpdate_own w hg m x v t hop k e (int_keyed hk) ht (plainElem P e) b n D hm h1 (by unfold maxLen; exact hn) _ _ (.int .i64 key) hx hv (keyOf_int_mk hk (wf_i64 hkw)) _ _ (plainElem_int he (wf_i64 hcw)) ?_
  intro w' ho hgr
  refine hK w' ⟨_, ho, h2.put _ _, fun y => ?_⟩ ((Ext.refl _ w).grown hgr (fun j hj _ => by cases hj; rfl))
  have hkl : ∀ z : Int, WideAt.IsKeyLit (Lit.int .i64 z) := fun _ => trivial
  by_cases hy : y = key
  · subst hy
    refine ⟨by rw [has_put_same h2 (hkl y)]; simp, fun c' hc' z => ?_⟩
    simp at hc'
    subst hc'
    exact atKey_put_same h2 (hkl y) _ z
  · have hne : (Lit.int .i64 y) ≠ (Lit.int .i64 key) := by intro h; injection h with _ h'; exact hy h'
    refine ⟨by rw [has_put_other hne, (h3 y).1]; simp [hy], fun c' hc' z => ?_⟩
    simp [hy] at hc'
    rw [atKey_put_other hne]
    exact (h3 y).2 c' hc' z
/-- 'c, ok := m[key]' -/
theorem wpList_imap_get (w : World) (hg : o.guard = none) (m x : Operand) (t : TypeId) (hop : o.op = Op.lookup t m x true) (k e : TypeId) (hk : P.underlying k = some (.int .i64)) (he : P.underlying e = some (.int .i64)) (ht : P.underlying t = some (.map k e))
    (hz : (zeroValue e).run P w = .ok (.int .i64 0) w) (b n : Nat) (g : Int → Option Int) (hm : a.eval m = .map (some b)) (hi : IMap w P k e b n g) (key : Int) (hx : a.eval x = .int .i64 key) (hkw : -9223372036854775808 ≤ key ∧ key ≤ 9223372036854775807)
    (hK : ∀ c : Int, (∀ c', g key = some c' → c = c') → wpList P ops Q rest (a.put o.dst (.tuple #[.int .i64 c, .bool (g key).isSome])) w) : wpList P ops Q (o :: rest) a w := by
  obtain ⟨D, h1, h2, h3⟩ := hi
  refine wpList_lookup_own_ok_int w hg m x t hop k e .i64 (int_keyed hk) ht he hz b n D hm h1 _ (.int .i64 key) hx (keyOf_int_mk hk (wf_i64 hkw)) ?_
  intro c hat _
  rw [(h3 key).1]
  refine hK c fun c' hc' => ?_
  have := (h3 key).2 c' hc' (.lit (.int .i64 0))
  rw [this] at hat
  injection hat with h
  injection h with _ h'
  exact h'.symm
end
end Go.My
