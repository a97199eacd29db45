/- Plain laws on worlds: what a call may have changed ('Ext'), a block known whole ('Blk'), a row of bytes that is read ('Rd'). No program in sight. -/
import Derived.WalkKit
import Derived.WalkSpells
import Derived.WalkLawsBesides
import Derived.Lib.Hide
import Derived.BigQuiet
import Derived.StillTailTactics
import Derived.Deep.DeepCutAuto
import Derived.Deep.DeepFit
import Derived.Deep.RegionLaw
import Derived.RegionDies
namespace Go.My
open Go.RowKit

/-- The blocks of S may have changed; every other block that was there, and the streams, are as they were. -/
structure Ext (S : Nat → Prop) (w w' : World) : Prop where
  os : w'.os = w.os
  tape : w'.tape = w.tape
  output : w'.output = w.output
  size : w.heap.size ≤ w'.heap.size
  block : ∀ k, k < w.heap.size → ¬ S k → w'.heap[k]? = w.heap[k]?

def No : Nat → Prop := fun _ => False

theorem Ext.refl (S : Nat → Prop) (w : World) : Ext S w w := ⟨rfl, rfl, rfl, Nat.le_refl _, fun _ _ _ => rfl⟩
theorem Ext.trans {S T U : Nat → Prop} {a b c : World} (h : Ext S a b) (k : Ext T b c) (hs : ∀ i, i < a.heap.size → S i → U i) (ht : ∀ i, i < a.heap.size → T i → U i) : Ext U a c :=
  ⟨k.os.trans h.os, k.tape.trans h.tape, k.output.trans h.output, Nat.le_trans h.size k.size, fun i hi hu =>
    (k.block i (Nat.lt_of_lt_of_le hi h.size) (fun t => hu (ht i hi t))).trans (h.block i hi (fun s => hu (hs i hi s)))⟩
theorem Ext.trans' {S : Nat → Prop} {a b c : World} (h : Ext S a b) (k : Ext S b c) : Ext S a c := h.trans k (fun _ _ s => s) (fun _ _ s => s)
theorem Ext.mono {S T : Nat → Prop} {a b : World} (h : Ext S a b) (hs : ∀ i, i < a.heap.size → S i → T i) : Ext T a b :=
  ⟨h.os, h.tape, h.output, h.size, fun i hi ht => h.block i hi (fun s => ht (hs i hi s))⟩
theorem Ext.drew {S : Nat → Prop} {a b : World} (h : Ext S a b) : Ext S a b.drew := ⟨h.os, h.tape, h.output, h.size, h.block⟩
theorem Ext.drewN {S : Nat → Prop} {a b : World} (h : Ext S a b) (n : Nat) : Ext S a (b.drewN n) := ⟨h.os, h.tape, h.output, h.size, h.block⟩
theorem Ext.alloc {S : Nat → Prop} {a b : World} (h : Ext S a b) (o : Obj) : Ext S a (b.alloc o) :=
  ⟨h.os, h.tape, h.output, by have := h.size; simp; omega, fun i hi hs => by rw [Below.heap_alloc _ _ _ (Nat.lt_of_lt_of_le hi h.size)]; exact h.block i hi hs⟩
theorem Ext.setCell {S : Nat → Prop} {a b : World} (h : Ext S a b) (p : Addr) (u : Value) (hp : p.block < a.heap.size → S p.block) : Ext S a (b.setCell p u) :=
  ⟨h.os, h.tape, h.output, by have := h.size; simp; omega, fun i hi hs => by
    rw [Below.heap_setCell _ _ _ _ (fun e => hs (by subst e; exact hp hi))]; exact h.block i hi hs⟩
theorem Ext.grown {S : Nat → Prop} {a b c : World} {row : Option Nat} (h : Ext S a b) (g : b.grownBy c row) (hr : ∀ k, row = some k → k < a.heap.size → S k) : Ext S a c :=
  ⟨g.os.trans h.os, g.tape.trans h.tape, g.output.trans h.output, Nat.le_trans h.size g.size, fun i hi hs =>
    (g.block i (Nat.lt_of_lt_of_le hi h.size) (fun e => hs (hr i e.symm hi))).trans (h.block i hi hs)⟩
theorem Ext.below {w w' : World} (h : Ext No w w') : Below w.heap.size w w' :=
  ⟨h.os, h.tape, h.output, h.size, fun k hk => h.block k hk (fun x => x)⟩
theorem Ext.of_below {S : Nat → Prop} {w w' : World} (h : Below w.heap.size w w') : Ext S w w' :=
  ⟨h.os, h.tape, h.output, h.size, fun k hk _ => h.block k hk⟩
theorem Ext.cell {S : Nat → Prop} {w w' : World} (h : Ext S w w') {p : Addr} (hp : p.block < w.heap.size) (hs : ¬ S p.block) : w'.cell? p = w.cell? p :=
  World.cell?_of_block (h.block p.block hp hs)
theorem Ext.frozen {S : Nat → Prop} {w w' : World} (h : Ext S w w') {p : Addr} (hp : p.block < w.heap.size) (hs : ¬ S p.block) : w'.frozen? p = w.frozen? p :=
  World.frozen?_of_block (h.block p.block hp hs)
theorem Ext.drewN_self (S : Nat → Prop) (w : World) (n : Nat) : Ext S w (w.drewN n) := (Ext.refl S w).drewN n

/-- Only draws lie between. -/
def Dr (w w' : World) : Prop := ∃ n, w' = w.drewN n
theorem Dr.refl (w : World) : Dr w w := ⟨0, rfl⟩
theorem Dr.mk (w : World) (n : Nat) : Dr w (w.drewN n) := ⟨n, rfl⟩
theorem Dr.trans {a b c : World} (h : Dr a b) (k : Dr b c) : Dr a c := by
  obtain ⟨n, rfl⟩ := h; obtain ⟨m, rfl⟩ := k; exact ⟨n + m, World.drewN_drewN _ _ _⟩
theorem Dr.more {a b : World} (h : Dr a b) (n : Nat) : Dr a (b.drewN n) := h.trans (Dr.mk b n)
theorem Dr.drew {a b : World} (h : Dr a b) : Dr a b.drew := h.trans ⟨1, rfl⟩
theorem Dr.heap {w w' : World} (h : Dr w w') : w'.heap = w.heap := by obtain ⟨n, rfl⟩ := h; rfl
theorem Dr.cell {w w' : World} (h : Dr w w') (a : Addr) : w'.cell? a = w.cell? a := by obtain ⟨n, rfl⟩ := h; rfl
theorem Dr.frozen {w w' : World} (h : Dr w w') (a : Addr) : w'.frozen? a = w.frozen? a := by obtain ⟨n, rfl⟩ := h; rfl
theorem Dr.ext {w w' : World} (h : Dr w w') (S : Nat → Prop) : Ext S w w' := by obtain ⟨n, rfl⟩ := h; exact Ext.drewN_self S w n
theorem quiet_of_Dr {P : Program} {f : FuncId} {args : Array Value} {w : World} {n : Nat} {v : Value}
    (h : Calls P f args (w.drewN n) fun e w' => e = .returned v ∧ Dr (w.drewN n) w') : Calls P f args (w.drewN n) fun e w'' => e = .returned v ∧ ∃ m, w'' = w.drewN m := Calls.quiet_of h
theorem quiet_of_eq {P : Program} {f : FuncId} {args : Array Value} {w : World} {n : Nat} {v : Value}
    (h : Calls P f args (w.drewN n) fun e w' => e = .returned v ∧ w.drewN n = w') : Calls P f args (w.drewN n) fun e w'' => e = .returned v ∧ ∃ m, w'' = w.drewN m :=
  h.mono fun _ _ ⟨he, hm⟩ => ⟨he, n, hm.symm⟩
theorem still_of_eq {P : Program} {f : FuncId} {args : Array Value} {w : World} {v : Value}
    (h : Calls P f args w fun e w' => e = .returned v ∧ w = w') : Calls P f args w fun e w'' => e = .returned v ∧ w'' = w :=
  h.mono fun _ _ ⟨he, hm⟩ => ⟨he, hm.symm⟩

/-- Block b is a row of the cells cs, none of them frozen. -/
def Blk (w : World) (b : Nat) (cs : Array Value) (T : TypeId) : Prop := w.heap[b]? = some (.cells cs T (0, 0))
theorem Blk.lt {w : World} {b : Nat} {cs : Array Value} {T : TypeId} (h : Blk w b cs T) : b < w.heap.size := by
  unfold Blk at h; exact (Array.getElem?_eq_some_iff.1 h).1
theorem Blk.cell {w : World} {b : Nat} {cs : Array Value} {T : TypeId} (h : Blk w b cs T) (i : Nat) : w.cell? ⟨b, i, none⟩ = cs[i]? := by
  unfold Blk at h; simp [World.cell?, h]
theorem Blk.free {w : World} {b : Nat} {cs : Array Value} {T : TypeId} (h : Blk w b cs T) (i : Nat) : w.frozen? ⟨b, i, none⟩ = false := by
  unfold Blk at h; simp [World.frozen?, h]
theorem Blk.ext {w w' : World} {b : Nat} {cs : Array Value} {T : TypeId} {S : Nat → Prop} (h : Blk w b cs T) (e : Ext S w w') (hs : ¬ S b) : Blk w' b cs T := by
  have := h.lt; unfold Blk at *; rw [e.block b this hs]; exact h
theorem Blk.new (w : World) (cs : Array Value) (T : TypeId) : Blk (w.alloc (.cells cs T)) w.heap.size cs T := by
  unfold Blk World.alloc; simp
theorem Blk.alloc {w : World} {b : Nat} {cs : Array Value} {T : TypeId} (h : Blk w b cs T) (o : Obj) : Blk (w.alloc o) b cs T := h.ext ((Ext.refl No w).alloc o) (fun x => x)
theorem Blk.drew {w : World} {b : Nat} {cs : Array Value} {T : TypeId} (h : Blk w b cs T) : Blk w.drew b cs T := h
theorem Blk.drewN {w : World} {b : Nat} {cs : Array Value} {T : TypeId} (h : Blk w b cs T) (n : Nat) : Blk (w.drewN n) b cs T := h
theorem Blk.set {w : World} {b : Nat} {cs : Array Value} {T : TypeId} (h : Blk w b cs T) (i : Nat) (v : Value) : Blk (w.setCell ⟨b, i, none⟩ v) b (cs.setIfInBounds i v) T := by
  have := h.lt; unfold Blk at *; simp only [World.setCell]; rw [Array.getElem?_modify]; simp [h]
theorem Blk.set_other {w : World} {b : Nat} {cs : Array Value} {T : TypeId} (h : Blk w b cs T) (p : Addr) (v : Value) (hp : b ≠ p.block) : Blk (w.setCell p v) b cs T := by
  unfold Blk at *; rw [Below.heap_setCell _ _ _ _ hp]; exact h

theorem Blk.ne_type {w : World} {b b' : Nat} {cs cs' : Array Value} {T T' : TypeId} (h : Blk w b cs T) (h' : Blk w b' cs' T') (ht : T ≠ T') : b ≠ b' := by
  intro e; subst e; unfold Blk at *; rw [h] at h'; simp at h'; exact ht h'.2
/-- an owned row's block bears its type -/
theorem own_ne_type {w : World} {base b : Nat} {e T : TypeId} {size n : Nat} {v : Value} {xs : List Value} {cs : Array Value} (h : w.ownsRow base e size v n xs) (hb : Blk w b cs T) (ht : e ≠ T) : v.ownBlock ≠ some b := by
  intro hk
  rcases h.2 with ⟨rfl, _⟩ | ⟨g, cap, cur, rfl, _, hg, _⟩
  · simp [Value.ownBlock] at hk
  · simp [Value.ownBlock] at hk
    subst hk
    exact Blk.ne_type (w := w) (b := g) hg hb ht rfl
theorem Blk.grown {w w' : World} {b : Nat} {cs : Array Value} {T : TypeId} {row : Option Nat} (h : Blk w b cs T) (g : w.grownBy w' row) (hr : row ≠ some b) : Blk w' b cs T := by
  have := h.lt; unfold Blk at *; rw [g.block b this (fun e => hr e.symm)]; exact h
theorem own_form {w : World} {base : Nat} {e : TypeId} {size n : Nat} {v : Value} {xs : List Value} (h : w.ownsRow base e size v n xs) : ∃ a c, v = .slice a n c := by
  rcases h.2 with ⟨rfl, rfl⟩ | ⟨g, cap, cur, rfl, _⟩
  · exact ⟨none, 0, rfl⟩
  · exact ⟨_, cap, rfl⟩
theorem own_ext {w w' : World} {base : Nat} {e : TypeId} {size n : Nat} {v : Value} {xs : List Value} {S : Nat → Prop} (h : w.ownsRow base e size v n xs) (x : Ext S w w') (hs : ∀ k, v.ownBlock = some k → ¬ S k) : w'.ownsRow base e size v n xs := by
  refine ⟨h.1, ?_⟩
  rcases h.2 with hn | ⟨g, cap, cur, rfl, hb, hg, rest⟩
  · exact .inl hn
  · refine .inr ⟨g, cap, cur, rfl, hb, ?_, rest⟩
    rw [x.block g (Array.getElem?_eq_some_iff.1 hg).1 (hs g rfl)]
    exact hg

/-- A row of values that can be read from address a on. -/
def Rd (w : World) (a : Option Addr) (f : Nat → Value) (n : Nat) : Prop := ∀ i, i < n → ∃ b off, a = some ⟨b, off, none⟩ ∧ w.cell? ⟨b, off + i, none⟩ = some (f i)
theorem Rd.ext {w w' : World} {a : Option Addr} {f : Nat → Value} {n : Nat} {S : Nat → Prop} (h : Rd w a f n) (e : Ext S w w') (hs : ∀ p, a = some p → ¬ S p.block) : Rd w' a f n := by
  intro i hi
  obtain ⟨b, off, rfl, hc⟩ := h i hi
  exact ⟨b, off, rfl, by rw [e.cell (World.block_lt_of_cell? _ _ hc) (hs ⟨b, off, none⟩ rfl)]; exact hc⟩
theorem Rd.ext0 {w w' : World} {a : Option Addr} {f : Nat → Value} {n : Nat} (h : Rd w a f n) (e : Ext No w w') : Rd w' a f n := h.ext e (fun _ _ x => x)
theorem Rd.congr {w : World} {a : Option Addr} {f g : Nat → Value} {n : Nat} (h : Rd w a f n) (e : ∀ i, i < n → f i = g i) : Rd w a g n := by
  intro i hi
  obtain ⟨b, off, rfl, hc⟩ := h i hi
  exact ⟨b, off, rfl, by rw [hc, e i hi]⟩
theorem Rd.le {w : World} {a : Option Addr} {f : Nat → Value} {n m : Nat} (h : Rd w a f n) (hm : m ≤ n) : Rd w a f m := fun i hi => h i (by omega)
theorem Rd.drop {w : World} {b off : Nat} {f : Nat → Value} {n k : Nat} (h : Rd w (some ⟨b, off, none⟩) f n) : Rd w (some ⟨b, off + k, none⟩) (fun i => f (k + i)) (n - k) := by
  intro i hi
  obtain ⟨b', off', h1, hc⟩ := h (k + i) (by omega)
  simp only [Option.some.injEq, Addr.mk.injEq] at h1
  obtain ⟨rfl, rfl, _⟩ := h1
  exact ⟨b, off + k, rfl, by rw [show off + k + i = off + (k + i) by omega]; exact hc⟩
theorem Rd.of_blk {w : World} {b : Nat} {cs : Array Value} {T : TypeId} {f : Nat → Value} {n : Nat} (h : Blk w b cs T) (hf : ∀ i, i < n → cs[i]? = some (f i)) : Rd w (some ⟨b, 0, none⟩) f n := by
  intro i hi
  exact ⟨b, 0, rfl, by rw [h.cell, Nat.zero_add]; exact hf i hi⟩

/-- a byte of a list, as the machine holds it -/
def byt (l : List UInt8) (i : Nat) : Value := .int .u8 ((l.getD i 0).toNat : Int)
theorem byt_getD (l : List UInt8) (i : Nat) : byt l i = .int .u8 ((l.getD i 0).toNat : Int) := rfl
theorem byt_drop (l : List UInt8) (k : Nat) : byt (l.drop k) = fun i => byt l (k + i) := by
  funext i; simp [byt, List.getD_eq_getElem?_getD, List.getElem?_drop]
theorem byt_take (l : List UInt8) (k i : Nat) (h : i < k) : byt (l.take k) i = byt l i := by
  simp [byt, List.getD_eq_getElem?_getD, List.getElem?_take, h]
/-- what is left of a slice behind k elements of one cell each -/
def dropS (a : Option Addr) (k len cap : Nat) : Value := .slice (if cap = k then a else a.map (·.add k)) (len - k) (cap - k)
theorem run_dropS {P : Program} {t e : TypeId} (ht : P.underlying t = some (.slice e)) (hs : ∀ w, (sizeOf e).run P w = .ok 1 w) (a : Option Addr) (kd : IntKind) (k len cap : Nat) (hk : k ≤ len) (w : World) :
    (Instr.sliceAt t (.slice a len cap) (some (.int kd k)) none none).run P w = .ok (dropS a k len cap) w := by
  have hel : P.elem t = e := by simp [Program.elem, ht]
  have ht' : P.underlying t = some (.slice (P.elem t)) := by rw [hel]; exact ht
  rw [run_sliceAt_slice w t _ _ _ _ ht', run_slice_l w t a len cap ht' kd k (by omega) (by omega), hel, hs]
  simp [Result.andThen, sliced, dropS]
/-- the first k of a slice -/
theorem run_takeS {P : Program} {t e : TypeId} (ht : P.underlying t = some (.slice e)) (hs : ∀ w, (sizeOf e).run P w = .ok 1 w) (a : Option Addr) (kd : IntKind) (k len cap : Nat) (hk : k ≤ cap) (w : World) :
    (Instr.sliceAt t (.slice a len cap) none (some (.int kd k)) none).run P w = .ok (.slice a k cap) w := by
  have hel : P.elem t = e := by simp [Program.elem, ht]
  have ht' : P.underlying t = some (.slice (P.elem t)) := by rw [hel]; exact ht
  rw [run_sliceAt_slice w t _ _ _ _ ht', run_slice_h w t a len cap ht' kd k (by omega) (by omega), hel, hs]
  simp [Result.andThen, sliced]
  cases a <;> simp [Addr.add]
attribute [irreducible] dropS

/-- append of one element of one cell onto a row of the call's own -/
theorem wpList_app1 {P : Program} {ops : Array Oper} {rest : List Oper} {o : Oper} {a : Act} {Q : Exit → Act → World → Prop} (w : World) (u : Value) (hgd : o.guard = none) (s x : Operand) (t : TypeId)
    (ho : o.op = .call { callee := .builtin .append, args := #[s, x], argTypes := #[t, t] }) (base : Nat) (e : TypeId) (z : Value) (bytes : Nat)
    (hinfo : (P.info? e).map (fun i => (i.zero, i.size, i.bytes)) = some (some z, 1, bytes)) (ht : P.underlying t = some (.slice e)) (hzs : z.cells.size = 1)
    (v : Value) (n : Nat) (xs : List Value) (hs : a.eval s = v) (hown : w.ownsRow base e 1 v n xs) (ad : Addr) (hx : a.eval x = .slice (some ad) 1 1) (had : w.cell? ad = some u) (h1 : u.oneCell' = true)
    (h63 : n + 1 ≤ 9223372036854775807) (hbytes : (n + 1) * bytes ≤ 140737488355328) (hbase : base ≤ w.heap.size)
    (h : ∀ v' w', w'.ownsRow base e 1 v' (n + 1) (xs ++ [u]) → w.grownBy w' v.ownBlock → wpList P ops Q rest (a.put o.dst v') w') : wpList P ops Q (o :: rest) a w := by
  obtain ⟨i0, hi, hz0, hz1, hz2⟩ := info_parts hinfo
  refine wpList_append_own w hgd s x t ho base e i0 z 1 bytes ht hi hz0 hz1 hz2 hzs (by decide) v n xs hs hown ad 1 1 [u] hx rfl ?_ ?_ (by unfold maxLen; omega) hbytes hbase fun v' w' h2 h3 _ => h v' w' h2 h3
  · intro j y hj
    cases j with
    | zero => simp at hj; subst hj; rw [Addr.add_zero']; exact had
    | succ j => simp at hj
  · intro y hy; simp at hy; subst hy; exact h1
/-- the same, as one step of a region that draws its order -/
theorem step_app1 {P : Program} {ops : Array Oper} {o : Oper} {a : Act} {K : Act → World → Prop} {Q : Exit → Act → World → Prop} {E : Prop} (w : World) (u : Value) (hgd : o.guard = none) (s x : Operand) (t : TypeId)
    (ho : o.op = .call { callee := .builtin .append, args := #[s, x], argTypes := #[t, t] }) (base : Nat) (e : TypeId) (z : Value) (bytes : Nat)
    (hinfo : (P.info? e).map (fun i => (i.zero, i.size, i.bytes)) = some (some z, 1, bytes)) (ht : P.underlying t = some (.slice e)) (hzs : z.cells.size = 1)
    (v : Value) (n : Nat) (xs : List Value) (hs : a.eval s = v) (hown : w.ownsRow base e 1 v n xs) (ad : Addr) (hx : a.eval x = .slice (some ad) 1 1) (had : w.cell? ad = some u) (h1 : u.oneCell' = true)
    (h63 : n + 1 ≤ 9223372036854775807) (hbytes : (n + 1) * bytes ≤ 140737488355328) (hbase : base ≤ w.heap.size)
    (h : ∀ v' w', w'.ownsRow base e 1 v' (n + 1) (xs ++ [u]) → w.grownBy w' v.ownBlock → K (a.put o.dst v') w') : if Region.wanted o (yielded ops a.tmps) = true then Oper.wp P o a w K Q else E := by
  have hw : Region.wanted o (yielded ops a.tmps) = true := by simp [Region.wanted, hgd]
  rw [if_pos hw]
  obtain ⟨i0, hi, hz0, hz1, hz2⟩ := info_parts hinfo
  refine wp_append_own w s x t ho base e i0 z 1 bytes ht hi hz0 hz1 hz2 hzs (by decide) v n xs hs hown ad 1 1 [u] hx rfl ?_ ?_ (by unfold maxLen; omega) hbytes hbase fun v' w' h2 h3 _ => h v' w' h2 h3
  · intro j y hj
    cases j with
    | zero => simp at hj; subst hj; rw [Addr.add_zero']; exact had
    | succ j => simp at hj
  · intro y hy; simp at hy; subst hy; exact h1
theorem le_alloc {w : World} {B : Nat} (h : B ≤ w.heap.size) (o : Obj) : B ≤ (w.alloc o).heap.size := by rw [World.size_alloc]; omega
theorem cell_new {w : World} (u : Value) (T : TypeId) (n : Nat) (hn : n = w.heap.size) : (w.alloc (.cells #[u] T)).cell? ⟨n, 0, none⟩ = some u := by subst hn; rw [(Blk.new w #[u] T).cell]; rfl

/-- The value is a slice of n elements of one cell each, that read as f. -/
def IsRow (w : World) (f : Nat → Value) (n : Nat) (v : Value) : Prop := ∃ a cap, v = .slice a n cap ∧ n ≤ cap ∧ cap ≤ 9223372036854775807 ∧ Rd w a f n
section
variable {w w' : World} {f : Nat → Value} {n : Nat} {v : Value}
theorem IsRow.ext {S : Nat → Prop} (h : IsRow w f n v) (e : Ext S w w') (hs : ∀ k, v.ownBlock = some k → ¬ S k) : IsRow w' f n v := by
  obtain ⟨a, cap, rfl, h1, h2, h3⟩ := h
  exact ⟨a, cap, rfl, h1, h2, h3.ext e (fun p hp => hs _ (by rw [hp]; rfl))⟩
theorem IsRow.extP {S : Nat → Prop} (h : IsRow w f n v) (e : Ext S w w') (hs : 0 < n → ∀ k, v.ownBlock = some k → ¬ S k) : IsRow w' f n v := by
  by_cases hn : 0 < n
  · exact h.ext e (hs hn)
  · obtain ⟨a, cap, rfl, h1, h2, h3⟩ := h
    exact ⟨a, cap, rfl, h1, h2, fun i hi => by omega⟩
theorem IsRow.ext0 (h : IsRow w f n v) (e : Ext No w w') : IsRow w' f n v := h.ext e (fun _ _ x => x)
theorem IsRow.nil (w : World) (f : Nat → Value) : IsRow w f 0 (.slice none 0 0) := ⟨none, 0, rfl, by omega, by omega, fun i hi => by omega⟩
theorem IsRow.take {a : Option Addr} {m cap : Nat} (h : IsRow w f n (.slice a m cap)) (k : Nat) (hk : k ≤ m) : IsRow w f k (.slice a k cap) := by
  obtain ⟨a', cap', he, h1, h2, h3⟩ := h
  simp only [Value.slice.injEq] at he
  obtain ⟨rfl, rfl, rfl⟩ := he
  exact ⟨a, cap, rfl, by omega, h2, h3.le hk⟩
theorem IsRow.drop {b off : Nat} {m cap : Nat} (h : IsRow w f n (.slice (some ⟨b, off, none⟩) m cap)) (k : Nat) (hk : k ≤ m) : IsRow w (fun i => f (k + i)) (m - k) (.slice (some ⟨b, off + k, none⟩) (m - k) (cap - k)) := by
  obtain ⟨a', cap', he, h1, h2, h3⟩ := h
  simp only [Value.slice.injEq] at he
  obtain ⟨rfl, rfl, rfl⟩ := he
  exact ⟨_, _, rfl, by omega, by omega, h3.drop⟩
theorem IsRow.dropS {a : Option Addr} {m cap : Nat} (h : IsRow w f n (.slice a m cap)) (k : Nat) (hk : k ≤ m) : IsRow w (fun i => f (k + i)) (m - k) (dropS a k m cap) := by
  obtain ⟨a', cap', he, h1, h2, h3⟩ := h
  simp only [Value.slice.injEq] at he
  obtain ⟨rfl, rfl, rfl⟩ := he
  unfold My.dropS
  refine ⟨_, _, rfl, by omega, by omega, ?_⟩
  intro i hi
  obtain ⟨b, off, rfl, hc⟩ := h3 (k + i) (by omega)
  rw [if_neg (by omega)]
  refine ⟨b, off + k, ?_, by rw [show off + k + i = off + (k + i) by omega]; exact hc⟩
  cases k <;> simp [Addr.add]
theorem IsRow.len {a : Option Addr} {m cap : Nat} (h : IsRow w f n (.slice a m cap)) : m = n ∧ m ≤ cap ∧ cap ≤ 9223372036854775807 := by
  obtain ⟨a', cap', he, h1, h2, -⟩ := h
  simp only [Value.slice.injEq] at he
  obtain ⟨rfl, rfl, rfl⟩ := he
  exact ⟨rfl, h1, h2⟩
theorem IsRow.get {a : Option Addr} {m cap : Nat} (h : IsRow w f n (.slice a m cap)) (k : Nat) (hk : k < m) :
    ∃ b off, a = some ⟨b, off, none⟩ ∧ w.cell? ⟨b, off + k, none⟩ = some (f k) := by
  obtain ⟨a', cap', he, h1, h2, h3⟩ := h
  simp only [Value.slice.injEq] at he
  obtain ⟨rfl, rfl, rfl⟩ := he
  exact h3 k hk
theorem IsRow.congr {g : Nat → Value} (h : IsRow w f n v) (e : ∀ i, i < n → f i = g i) : IsRow w g n v := by
  obtain ⟨a, cap, rfl, h1, h2, h3⟩ := h
  exact ⟨a, cap, rfl, h1, h2, h3.congr e⟩
theorem IsRow.lt {k : Nat} (h : IsRow w f n v) (hn : 0 < n) (hk : v.ownBlock = some k) : k < w.heap.size := by
  obtain ⟨a, cap, rfl, h1, h2, h3⟩ := h
  obtain ⟨b, off, rfl, hc⟩ := h3 0 hn
  simp only [Value.ownBlock, Option.some.injEq] at hk
  subst hk
  exact World.block_lt_of_cell? _ _ hc
theorem IsRow.of_own {base : Nat} {T : TypeId} {xs : List Value} (h : w.ownsRow base T 1 v n xs) : IsRow w (fun i => xs.getD i undef) n v := by
  obtain ⟨hl, h⟩ := h
  rcases h with ⟨rfl, rfl⟩ | ⟨g, cap, cur, rfl, -, hg, h1, h2, h3, h4⟩
  · exact IsRow.nil w _
  · refine ⟨_, cap, rfl, h1, by unfold maxLen at h2; exact h2, ?_⟩
    refine Rd.of_blk (T := T) (cs := cur) hg ?_
    intro i hi
    have hi2 : i < cur.size := by omega
    rw [← h4]
    simp [List.getD_eq_getElem?_getD, List.getElem?_take, hi, hi2]
end
def int64 (l : List Int) (i : Nat) : Value := .int .i64 (l.getD i 0)
theorem int64_def (l : List Int) (i : Nat) : int64 l i = .int .i64 (l.getD i 0) := rfl

/-- The value is a slice that reads as the bytes l. -/
def IsBytes (w : World) (l : List UInt8) (v : Value) : Prop := IsRow w (byt l) l.length v
theorem IsBytes.ext {w w' : World} {l : List UInt8} {v : Value} {S : Nat → Prop} (h : IsBytes w l v) (e : Ext S w w') (hs : ∀ k, v.ownBlock = some k → ¬ S k) : IsBytes w' l v := IsRow.ext h e hs
theorem IsBytes.take {w : World} {l : List UInt8} {a : Option Addr} {m cap : Nat} (h : IsBytes w l (.slice a m cap)) (k : Nat) (hk : k ≤ m) : IsBytes w (l.take k) (.slice a k cap) := by
  have hm := (IsRow.len h).1
  have hle : (l.take k).length = k := by simp; omega
  unfold IsBytes; rw [hle]
  exact (IsRow.take h k hk).congr (fun i hi => (byt_take l k i hi).symm)
theorem IsBytes.drop {w : World} {l : List UInt8} {b off : Nat} {m cap : Nat} (h : IsBytes w l (.slice (some ⟨b, off, none⟩) m cap)) (k : Nat) (hk : k ≤ m) : IsBytes w (l.drop k) (.slice (some ⟨b, off + k, none⟩) (m - k) (cap - k)) := by
  have hm := (IsRow.len h).1
  have hle : (l.drop k).length = m - k := by simp; omega
  unfold IsBytes; rw [hle, byt_drop]; exact IsRow.drop h k hk
theorem IsBytes.dropS {w : World} {l : List UInt8} {a : Option Addr} {m cap : Nat} (h : IsBytes w l (.slice a m cap)) (k : Nat) (hk : k ≤ m) : IsBytes w (l.drop k) (dropS a k m cap) := by
  have hm := (IsRow.len h).1
  have hle : (l.drop k).length = m - k := by simp; omega
  unfold IsBytes; rw [hle, byt_drop]; exact IsRow.dropS h k hk
theorem IsBytes.len {w : World} {l : List UInt8} {a : Option Addr} {m cap : Nat} (h : IsBytes w l (.slice a m cap)) : m = l.length := (IsRow.len h).1
theorem IsBytes.get {w : World} {l : List UInt8} {a : Option Addr} {m cap : Nat} (h : IsBytes w l (.slice a m cap)) (k : Nat) (hk : k < m) :
    ∃ b off, a = some ⟨b, off, none⟩ ∧ w.cell? ⟨b, off + k, none⟩ = some (.int .u8 ((l.getD k 0).toNat : Int)) := IsRow.get h k hk
theorem IsBytes.ext0 {w w' : World} {l : List UInt8} {v : Value} (h : IsBytes w l v) (e : Ext No w w') : IsBytes w' l v := h.ext e (fun _ _ x => x)
end Go.My
