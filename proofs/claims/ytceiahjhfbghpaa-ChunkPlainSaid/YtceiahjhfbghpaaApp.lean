/- Plain laws: append of a whole row, rows of the call's own bytes, clear. No program in sight. -/
import Derived.Test.YtceiahjhfbghpaaLib
import Derived.Laws.AppendOwnNone
namespace Go.My
open Go.RowKit

theorem addr_add (b off j : Nat) : (⟨b, off, none⟩ : Addr).add j = ⟨b, off + j, none⟩ := by unfold Addr.add; split <;> simp_all
theorem IsRow.news {w : World} {f : Nat → Value} {m c : Nat} {ad : Addr} (h : IsRow w f m (.slice (some ad) m c)) : ∀ j u, ((List.range m).map f)[j]? = some u → w.cell? (ad.add j) = some u := by
  intro j u hj
  have hjm : j < m := by
    rcases Nat.lt_or_ge j m with h | h
    · exact h
    · rw [List.getElem?_eq_none (by simpa using h)] at hj; cases hj
  obtain ⟨b, off, ha, hc⟩ := h.get j hjm
  cases ha
  rw [addr_add, hc]
  simpa [hjm] using hj

/-- append of a whole row onto a row of the call's own -/
theorem wpList_appN {P : Program} {ops : Array Oper} {rest : List Oper} {o : Oper} {a : Act} {Q : Exit → Act → World → Prop} (w : World) (hgd : o.guard = none) (s x : Operand) (t : TypeId)
    (ho : o.op = .call { callee := .builtin .append, args := #[s, x], argTypes := #[t, t] }) (base : Nat) (e : TypeId) (z : Value) (bytes : Nat)
    (hinfo : (P.info? e).map (fun i => (i.zero, i.size, i.bytes)) = some (some z, 1, bytes)) (ht : P.underlying t = some (.slice e)) (hzs : z.cells.size = 1)
    (v : Value) (n : Nat) (xs : List Value) (hs : a.eval s = v) (hown : w.ownsRow base e 1 v n xs) (ad : Option Addr) (m c : Nat) (f : Nat → Value) (hx : a.eval x = .slice ad m c) (hrow : IsRow w f m (.slice ad m c)) (hnone : ad = none → c = 0) (h1 : ∀ i, i < m → (f i).oneCell' = true)
    (h63 : n + m ≤ 9223372036854775807) (hbytes : (n + m) * bytes ≤ 140737488355328) (hbase : base ≤ w.heap.size)
    (h : ∀ v' w', w'.ownsRow base e 1 v' (n + m) (xs ++ (List.range m).map f) → w.grownBy w' v.ownBlock → wpList P ops Q rest (a.put o.dst v') w') : wpList P ops Q (o :: rest) a w := by
  obtain ⟨i0, hi, hz0, hz1, hz2⟩ := info_parts hinfo
  cases ad with
  | none =>
    have hc := hnone rfl
    have hm : m = 0 := by have := hrow.len; omega
    subst hc; subst hm
    refine wpList_append_own_none hgd s x t ho base e i0 1 ht hi v n xs hs hown hx ?_
    refine h v w ?_ ⟨rfl, rfl, rfl, Nat.le_refl _, fun _ _ _ => rfl⟩
    simpa using hown
  | some ad =>
    refine wpList_append_own w hgd s x t ho base e i0 z 1 bytes ht hi hz0 hz1 hz2 hzs (by decide) v n xs hs hown ad m c ((List.range m).map f) hx (by simp) hrow.news ?_ (by unfold maxLen; omega) hbytes hbase fun v' w' h2 h3 _ => h v' w' h2 h3
    intro u hu
    simp only [List.mem_map, List.mem_range] at hu
    obtain ⟨i, hi, rfl⟩ := hu
    exact h1 i hi

/-- the bytes as values -/
def byts (l : List UInt8) : List Value := l.map fun c => .int .u8 (c.toNat : Int)
theorem byts_range (l : List UInt8) : (List.range l.length).map (byt l) = byts l := by
  apply List.ext_getElem
  · simp [byts]
  · intro i h1 h2
    have hi : i < l.length := by simpa using h1
    simp [byts, byt, hi]
theorem byts_getD (l : List UInt8) (i : Nat) (h : i < l.length) : (byts l).getD i undef = byt l i := by
  simp [byts, byt, h]
theorem byts_length (l : List UInt8) : (byts l).length = l.length := by simp [byts]
theorem byts_append (l k : List UInt8) : byts (l ++ k) = byts l ++ byts k := by simp [byts]
theorem byts_nil : byts [] = [] := rfl
theorem byt_one (l : List UInt8) (i : Nat) : (byt l i).oneCell' = true := rfl

/-- a row of bytes of the call's own (blocks from base on), that reads l -/
def OwnB (w : World) (u8 : TypeId) (base : Nat) (l : List UInt8) (v : Value) : Prop := w.ownsRow base u8 1 v l.length (byts l)
theorem OwnB.bytes {w : World} {u8 : TypeId} {base : Nat} {l : List UInt8} {v : Value} (h : OwnB w u8 base l v) : IsBytes w l v :=
  (IsRow.of_own h).congr fun i hi => byts_getD l i hi
theorem OwnB.ext {w w' : World} {u8 : TypeId} {base : Nat} {l : List UInt8} {v : Value} {S : Nat → Prop} (h : OwnB w u8 base l v) (x : Ext S w w') (hs : ∀ k, v.ownBlock = some k → ¬ S k) : OwnB w' u8 base l v := own_ext h x hs
theorem OwnB.lt {w : World} {u8 : TypeId} {base : Nat} {l : List UInt8} {v : Value} (h : OwnB w u8 base l v) : ∀ k, v.ownBlock = some k → base ≤ k ∧ k < w.heap.size := World.ownsRow.lt h
theorem own_le {w : World} {base base' size n : Nat} {e : TypeId} {v : Value} {xs : List Value} (h : w.ownsRow base e size v n xs) (hb : base' ≤ base) : w.ownsRow base' e size v n xs := by
  refine ⟨h.1, ?_⟩
  rcases h.2 with hn | ⟨g, cap, cur, rfl, h1, rest⟩
  · exact .inl hn
  · exact .inr ⟨g, cap, cur, rfl, by omega, rest⟩
theorem own_ne_own {w : World} {base base' size size' n n' : Nat} {e e' : TypeId} {v v' : Value} {xs xs' : List Value} (h : w.ownsRow base e size v n xs) (h' : w.ownsRow base' e' size' v' n' xs') (ht : e ≠ e') : v.ownBlock = none ∨ v.ownBlock ≠ v'.ownBlock := by
  rcases h.2 with ⟨rfl, _⟩ | ⟨g, cap, cur, rfl, -, hg, -⟩
  · exact .inl rfl
  · refine .inr fun hk => ?_
    rcases h'.2 with ⟨rfl, _⟩ | ⟨g', cap', cur', rfl, -, hg', -⟩
    · cases hk
    · have : g = g' := Option.some.inj hk
      subst this
      rw [hg] at hg'; simp at hg'; exact ht hg'.2

/-- a row of rows of bytes, all of the call's own -/
def OwnBs (w : World) (u8 sb : TypeId) (base : Nat) (ls : List (List UInt8)) (v : Value) : Prop :=
  ∃ xs, w.ownsRow base sb 1 v ls.length xs ∧ ∀ i, i < ls.length → OwnB w u8 base (ls.getD i []) (xs.getD i undef)
section
variable {w w' : World} {u8 sb : TypeId} {base : Nat} {ls : List (List UInt8)} {v : Value}
theorem OwnBs.nil (w : World) (u8 sb : TypeId) (base : Nat) : OwnBs w u8 sb base [] (.slice none 0 0) := ⟨[], World.ownsRow_nil w base sb 1, fun i hi => by simp at hi⟩
theorem OwnBs.ext {S : Nat → Prop} (h : OwnBs w u8 sb base ls v) (x : Ext S w w') (hs : ∀ k, base ≤ k → ¬ S k) : OwnBs w' u8 sb base ls v := by
  obtain ⟨xs, h1, h2⟩ := h
  exact ⟨xs, own_ext h1 x (fun k hk => hs k (World.ownsRow.lt h1 k hk).1), fun i hi => (h2 i hi).ext x (fun k hk => hs k ((h2 i hi).lt k hk).1)⟩
theorem OwnBs.le {base' : Nat} (h : OwnBs w u8 sb base ls v) (hb : base' ≤ base) : OwnBs w u8 sb base' ls v := by
  obtain ⟨xs, h1, h2⟩ := h
  exact ⟨xs, own_le h1 hb, fun i hi => own_le (h2 i hi) hb⟩
theorem OwnBs.app {xs : List Value} {v' x : Value} {c : List UInt8} (ht : u8 ≠ sb) (h1 : w.ownsRow base sb 1 v ls.length xs) (h2 : ∀ i, i < ls.length → OwnB w u8 base (ls.getD i []) (xs.getD i undef))
    (hx : OwnB w u8 base c x) (h3 : w'.ownsRow base sb 1 v' (ls.length + 1) (xs ++ [x])) (g : w.grownBy w' v.ownBlock) : OwnBs w' u8 sb base (ls ++ [c]) v' := by
  have hl : xs.length = ls.length := by have := h1.1; omega
  have kept : ∀ {l : List UInt8} {y : Value}, OwnB w u8 base l y → OwnB w' u8 base l y := fun h => World.ownsRow.kept h g (own_ne_own h h1 ht)
  refine ⟨xs ++ [x], by rw [List.length_append]; exact h3, fun i hi => ?_⟩
  rw [List.length_append, List.length_singleton] at hi
  by_cases hi' : i < ls.length
  · have e1 : (ls ++ [c]).getD i [] = ls.getD i [] := by simp [List.getD_eq_getElem?_getD, List.getElem?_append_left hi']
    have e2 : (xs ++ [x]).getD i undef = xs.getD i undef := by simp [List.getD_eq_getElem?_getD, List.getElem?_append_left (show i < xs.length by omega)]
    rw [e1, e2]; exact kept (h2 i hi')
  · have : i = ls.length := by omega
    subst this
    have e1 : (ls ++ [c]).getD ls.length [] = c := by simp [List.getD_eq_getElem?_getD]
    have e2 : (xs ++ [x]).getD ls.length undef = x := by rw [← hl]; simp [List.getD_eq_getElem?_getD]
    rw [e1, e2]; exact kept hx
/-- its elements, read -/
theorem OwnBs.row (h : OwnBs w u8 sb base ls v) : ∃ f, IsRow w f ls.length v ∧ ∀ i, i < ls.length → OwnB w u8 base (ls.getD i []) (f i) := by
  obtain ⟨xs, h1, h2⟩ := h
  exact ⟨_, IsRow.of_own h1, h2⟩
theorem OwnBs.extT {S : Nat → Prop} (h : OwnBs w u8 sb base ls v) (x : Ext S w w') (hs : ∀ k, S k → ∃ cs T, Blk w k cs T ∧ u8 ≠ T ∧ sb ≠ T) : OwnBs w' u8 sb base ls v := by
  obtain ⟨xs, h1, h2⟩ := h
  refine ⟨xs, own_ext h1 x (fun k hk hS => ?_), fun i hi => own_ext (h2 i hi) x (fun k hk hS => ?_)⟩
  · obtain ⟨cs, T, hb, -, ht⟩ := hs k hS
    exact own_ne_type h1 hb ht hk
  · obtain ⟨cs, T, hb, ht, -⟩ := hs k hS
    exact own_ne_type (h2 i hi) hb ht hk
end
/-- The value is a slice of slices that read as the rows of bytes ls. -/
def IsRows (w : World) (ls : List (List UInt8)) (v : Value) : Prop := ∃ f, IsRow w f ls.length v ∧ ∀ i, i < ls.length → IsBytes w (ls.getD i []) (f i)
section
variable {w w' : World} {ls : List (List UInt8)} {v : Value}
theorem OwnBs.rows {u8 sb : TypeId} {base : Nat} (h : OwnBs w u8 sb base ls v) : IsRows w ls v := by
  obtain ⟨f, h1, h2⟩ := h.row
  exact ⟨f, h1, fun i hi => (h2 i hi).bytes⟩
theorem IsRows.ext0 (h : IsRows w ls v) (x : Ext No w w') : IsRows w' ls v := by
  obtain ⟨f, h1, h2⟩ := h
  exact ⟨f, h1.ext0 x, fun i hi => (h2 i hi).ext0 x⟩
theorem IsRows.take {a : Option Addr} {m cap : Nat} (h : IsRows w ls (.slice a m cap)) (k : Nat) (hk : k ≤ m) : IsRows w (ls.take k) (.slice a k cap) := by
  obtain ⟨f, h1, h2⟩ := h
  have hm := h1.len.1
  have hl : (ls.take k).length = k := by rw [List.length_take]; omega
  refine ⟨f, by rw [hl]; exact IsRow.take h1 k hk, fun i hi => ?_⟩
  rw [hl] at hi
  have e : (ls.take k).getD i [] = ls.getD i [] := by simp [List.getD_eq_getElem?_getD, List.getElem?_take, hi]
  rw [e]; exact h2 i (by omega)
theorem IsRows.dropS {a : Option Addr} {m cap : Nat} (h : IsRows w ls (.slice a m cap)) (k : Nat) (hk : k ≤ m) : IsRows w (ls.drop k) (dropS a k m cap) := by
  obtain ⟨f, h1, h2⟩ := h
  have hm := h1.len.1
  have hl : (ls.drop k).length = m - k := by rw [List.length_drop]; omega
  refine ⟨fun i => f (k + i), by rw [hl]; exact IsRow.dropS h1 k hk, fun i hi => ?_⟩
  rw [hl] at hi
  have e : (ls.drop k).getD i [] = ls.getD (k + i) [] := by simp [List.getD_eq_getElem?_getD, List.getElem?_drop]
  rw [e]; exact h2 (k + i) (by omega)
theorem IsRows.len {a : Option Addr} {m cap : Nat} (h : IsRows w ls (.slice a m cap)) : m = ls.length := by
  obtain ⟨f, h1, -⟩ := h; exact h1.len.1
theorem IsRows.get {a : Option Addr} {m cap : Nat} (h : IsRows w ls (.slice a m cap)) (k : Nat) (hk : k < m) : ∃ b off x, a = some ⟨b, off, none⟩ ∧ w.cell? ⟨b, off + k, none⟩ = some x ∧ IsBytes w (ls.getD k []) x := by
  obtain ⟨f, h1, h2⟩ := h
  obtain ⟨b, off, ha, hc⟩ := h1.get k hk
  exact ⟨b, off, f k, ha, hc, h2 k (by have := h1.len.1; omega)⟩
end
/-- the address of what is left behind k elements -/
def dropA (a : Option Addr) (k cap : Nat) : Option Addr := if cap = k then a else a.map (·.add k)
theorem dropS_eq (a : Option Addr) (k len cap : Nat) : dropS a k len cap = .slice (dropA a k cap) (len - k) (cap - k) := by unfold dropS dropA; rfl
theorem dropA_own (a : Option Addr) (k cap n c n' c' : Nat) (j : Nat) (h : (Value.slice (dropA a k cap) n c).ownBlock = some j) : (Value.slice a n' c').ownBlock = some j := by
  unfold dropA at h
  split at h
  · cases a with
    | none => cases h
    | some x => exact h
  · cases a with
    | none => cases h
    | some x =>
      simp only [Option.map_some, Value.ownBlock] at h ⊢
      have hb : (x.add k).block = x.block := by unfold Addr.add; split <;> rfl
      rw [← hb]; exact h
theorem dropA_def (a : Option Addr) (k cap : Nat) : dropA a k cap = if cap = k then a else a.map (fun x => x.add k) := rfl
attribute [irreducible] dropA
def lenOf : Value → Nat
  | .slice _ n _ => n
  | _ => 0
/-- a nil slice has no capacity -/
def NilOk (v : Value) : Prop := ∀ n c, v = .slice none n c → c = 0
theorem NilOk.some (a : Addr) (n c : Nat) : NilOk (.slice (some a) n c) := fun _ _ h => by simp at h
theorem NilOk.own {w : World} {base size n : Nat} {e : TypeId} {v : Value} {xs : List Value} (h : w.ownsRow base e size v n xs) : NilOk v := by
  rcases h.2 with ⟨rfl, _⟩ | ⟨g, cap, cur, rfl, _⟩
  · intro n c h; simp at h; exact h.2.symm
  · exact NilOk.some _ _ _
theorem NilOk.none {a : Option Addr} {n c : Nat} (h : NilOk (.slice a n c)) : a = none → c = 0 := by rintro rfl; exact h _ _ rfl
/-- rows of rows, none of them an odd nil -/
def IsRowsN (w : World) (ls : List (List UInt8)) (v : Value) : Prop := ∃ f, IsRow w f ls.length v ∧ ∀ i, i < ls.length → IsBytes w (ls.getD i []) (f i) ∧ NilOk (f i)
section
variable {w w' : World} {ls : List (List UInt8)} {v : Value}
theorem OwnBs.rowsN {u8 sb : TypeId} {base : Nat} (h : OwnBs w u8 sb base ls v) : IsRowsN w ls v := by
  obtain ⟨f, h1, h2⟩ := h.row
  exact ⟨f, h1, fun i hi => ⟨(h2 i hi).bytes, NilOk.own (h2 i hi)⟩⟩
theorem IsRowsN.rows (h : IsRowsN w ls v) : IsRows w ls v := by
  obtain ⟨f, h1, h2⟩ := h
  exact ⟨f, h1, fun i hi => (h2 i hi).1⟩
theorem IsRowsN.ext0 (h : IsRowsN w ls v) (x : Ext No w w') : IsRowsN w' ls v := by
  obtain ⟨f, h1, h2⟩ := h
  exact ⟨f, h1.ext0 x, fun i hi => ⟨(h2 i hi).1.ext0 x, (h2 i hi).2⟩⟩
theorem IsRowsN.take {a : Option Addr} {m cap : Nat} (h : IsRowsN w ls (.slice a m cap)) (k : Nat) (hk : k ≤ m) : IsRowsN w (ls.take k) (.slice a k cap) := by
  obtain ⟨f, h1, h2⟩ := h
  have hm := h1.len.1
  have hl : (ls.take k).length = k := by rw [List.length_take]; omega
  refine ⟨f, by rw [hl]; exact IsRow.take h1 k hk, fun i hi => ?_⟩
  rw [hl] at hi
  have e : (ls.take k).getD i [] = ls.getD i [] := by simp [List.getD_eq_getElem?_getD, List.getElem?_take, hi]
  rw [e]; exact h2 i (by omega)
theorem IsRowsN.len {a : Option Addr} {m cap : Nat} (h : IsRowsN w ls (.slice a m cap)) : m = ls.length := by
  obtain ⟨f, h1, -⟩ := h; exact h1.len.1
theorem IsRowsN.get {a : Option Addr} {m cap : Nat} (h : IsRowsN w ls (.slice a m cap)) (k : Nat) (hk : k < m) : ∃ b off x, a = some ⟨b, off, none⟩ ∧ w.cell? ⟨b, off + k, none⟩ = some x ∧ IsBytes w (ls.getD k []) x ∧ NilOk x := by
  obtain ⟨f, h1, h2⟩ := h
  obtain ⟨b, off, ha, hc⟩ := h1.get k hk
  exact ⟨b, off, f k, ha, hc, h2 k (by have := h1.len.1; omega)⟩
end
end Go.My
