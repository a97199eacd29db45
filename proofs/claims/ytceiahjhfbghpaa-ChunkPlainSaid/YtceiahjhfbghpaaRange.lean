/- A range over a function whose iterator turns cells and hands out new rows: own contract and own law, over 'wpIn_rangeFunc'. No program in sight. -/
import Derived.Test.YtceiahjhfbghpaaLib
import Derived.RangeFuncSeq
import Derived.RangeFuncBound
import Derived.RangeFuncOwn
import Derived.OwnWalkIn
import Derived.Maps.OwnIn
import Derived.Test.YtceiahjhfbghpaaApp
namespace Go.My
open Go.RowKit

theorem Ext.putObj {S : Nat → Prop} {a b : World} (h : Ext S a b) (l : Nat) (o : Obj) (hl : l < a.heap.size → S l) : Ext S a (b.putObj l o) :=
  h.grown (grownBy_putObj' b l o) (fun k e hk => by cases e; exact hl hk)

theorem Rd.putObj {W : World} {l : Nat} {r : Loop} (hl : W.heap[l]? = some (.loop r)) (o : Obj) {a : Option Addr} {f : Nat → Value} {n : Nat} (h : Rd W a f n) : Rd (W.putObj l o) a f n := by
  intro i hi
  obtain ⟨b, off, rfl, hc⟩ := h i hi
  refine ⟨b, off, rfl, ?_⟩
  rw [World.cell?_of_block (World.putObj_heap_other (o := o) (fun e => ?_))]
  · exact hc
  · simp only at e; subst e; simp [World.cell?, hl] at hc
theorem IsRow.putObj {W : World} {l : Nat} {r : Loop} (hl : W.heap[l]? = some (.loop r)) (o : Obj) {f : Nat → Value} {n : Nat} {v : Value} (h : IsRow W f n v) : IsRow (W.putObj l o) f n v := by
  obtain ⟨a, cap, rfl, h1, h2, h3⟩ := h
  exact ⟨a, cap, rfl, h1, h2, h3.putObj hl o⟩

theorem own_putObj {w : World} {base size n : Nat} {e : TypeId} {v : Value} {xs : List Value} (h : w.ownsRow base e size v n xs) {l : Nat} {r : Loop} (hl : w.heap[l]? = some (.loop r)) (o : Obj) : (w.putObj l o).ownsRow base e size v n xs := by
  refine ⟨h.1, ?_⟩
  rcases h.2 with hn | ⟨g, cap, cur, rfl, h1, h2, rest⟩
  · exact .inl hn
  · refine .inr ⟨g, cap, cur, rfl, h1, ?_, rest⟩
    rw [World.putObj_heap_other (o := o)]
    · exact h2
    · intro e; subst e; rw [hl] at h2; cases h2

/-- no row of cells -/
def NC (w : World) (j : Nat) : Prop := ∀ cs T f, w.heap[j]? ≠ some (.cells cs T f)
theorem NC.loop {w : World} {l : Nat} {r : Loop} (h : w.heap[l]? = some (.loop r)) : NC w l := fun cs T f e => by rw [h] at e; cases e
theorem NC.defs {w : World} {l : Nat} {d : Option (List Deferred)} (h : w.heap[l]? = some (.deferred d)) : NC w l := fun cs T f e => by rw [h] at e; cases e
section
variable {A B : World} {S : Nat → Prop} {D : Nat}
theorem Blk.extN {b : Nat} {cs : Array Value} {T : TypeId} (h : Blk A b cs T) (x : Ext (fun j => S j ∨ (j = D ∧ NC A j)) A B) (hs : ¬ S b) : Blk B b cs T :=
  h.ext x (fun h' => h'.elim hs (fun n => n.2 _ _ _ h))
theorem own_extN {base : Nat} {e : TypeId} {size n : Nat} {v : Value} {xs : List Value} (h : A.ownsRow base e size v n xs) (x : Ext (fun j => S j ∨ (j = D ∧ NC A j)) A B) (hs : ∀ k, v.ownBlock = some k → ¬ S k) : B.ownsRow base e size v n xs := by
  refine ⟨h.1, ?_⟩
  rcases h.2 with hn | ⟨g, cap, cur, rfl, hb, hg, rest⟩
  · exact .inl hn
  · refine .inr ⟨g, cap, cur, rfl, hb, ?_, rest⟩
    rw [x.block g (Array.getElem?_eq_some_iff.1 hg).1 (fun h' => h'.elim (hs g rfl) (fun n => n.2 _ _ _ hg))]
    exact hg
theorem OwnBs.extN {u8 sb : TypeId} {base : Nat} {ls : List (List UInt8)} {v : Value} (h : OwnBs A u8 sb base ls v) (x : Ext (fun j => S j ∨ (j = D ∧ NC A j)) A B) (hs : ∀ k, base ≤ k → ¬ S k) : OwnBs B u8 sb base ls v := by
  obtain ⟨xs, h1, h2⟩ := h
  exact ⟨xs, own_extN h1 x (fun k hk => hs k (World.ownsRow.lt h1 k hk).1), fun i hi => own_extN (h2 i hi) x (fun k hk => hs k (World.ownsRow.lt (h2 i hi) k hk).1)⟩
theorem IsRow.extN {f : Nat → Value} {n : Nat} {v : Value} (h : IsRow A f n v) (x : Ext (fun j => S j ∨ (j = D ∧ NC A j)) A B) (hs : ∀ k, v.ownBlock = some k → 0 < n → ¬ S k) : IsRow B f n v := by
  obtain ⟨a, cap, rfl, h1, h2, h3⟩ := h
  refine ⟨a, cap, rfl, h1, h2, fun i hi => ?_⟩
  obtain ⟨b, off, rfl, hc⟩ := h3 i hi
  refine ⟨b, off, rfl, ?_⟩
  rw [x.cell (World.block_lt_of_cell? _ _ hc) (fun h' => h'.elim (hs b rfl (by omega)) (fun n => ?_))]
  · exact hc
  · cases hb : A.heap[b]? with
    | none => simp [World.cell?, hb] at hc
    | some o =>
      cases o with
      | cells cs T f => exact n.2 _ _ _ hb
      | _ => simp [World.cell?, hb] at hc
theorem Ext.putObjN (W : World) (l : Nat) (o : Obj) (h : NC W l) : Ext (fun j => S j ∨ (j = l ∧ NC W j)) W (W.putObj l o) := (Ext.refl _ W).putObj _ _ (fun _ => .inr ⟨rfl, h⟩)
end

/-- WHAT AN ITERATOR OWES: N elements; of the k-th handed to yield 'A k' is known; it turns the blocks of S; a round that goes on turns those of T. -/
def SeqC (P : Program) (g : Nat) (lb : Array Value) (N : Nat) (A : Nat → Array Value → World → Prop) (S T : Nat → Prop) (Fin : World → Prop) (w : World) : Prop :=
  ∀ (l : Nat) (J Jx : Nat → World → Prop) (W : World), Ext No w W → w.heap.size + 2 ≤ W.heap.size →
    (∀ k A B, J k A → Ext S A B → J k B) → (∀ k A B, Jx k A → Ext S A B → Jx k B) →
    (∀ k args W1, k < N → J k W1 → A k args W1 → YieldAt Fence.wide 0 P l args W1 fun e W' => (e = .returned (.bool true) ∧ J (k + 1) W' ∧ Ext T W1 W') ∨ (e = .returned (.bool false) ∧ Jx (k + 1) W' ∧ Ext T W1 W')) →
    J 0 W →
    Calls P g (#[.func (.yield l) #[] #[]] ++ lb) W fun e W' => (∃ v, e = .returned v) ∧ (J N W' ∨ ∃ k, k ≤ N ∧ Jx k W') ∧ Fin W'

/-- how a round's body is left -/
def rPost (U : Nat → Prop) (I : Nat → World → Prop) (Ix : Code → Nat → World → Prop) (k : Nat) (W : World) : Exit → Act → World → Prop
  | .normal, _, W' => Ext U W W' ∧ I k W'
  | .ret, _, W' => Ext U W W' ∧ Ix .ret k W'
  | .exit id, _, W' => Ext U W W' ∧ Ix (.exit id) k W'
  | .goto t, _, W' => Ext U W W' ∧ Ix (.goto t) k W'
  | .panic _, _, _ => False
  | .outgrown, _, _ => False

variable {P : Program}

theorem wpIn_range {g : Operand} {ps : Array Tmp} {assign body : Code} {Q : Exit → Act → World → Prop} {a : Act} {w : World}
    {gf : Nat} {lb : Array Value} (hg : a.eval g = .func (.func gf) #[] lb) (eg : ∀ args w, (callFunc gf args).run P w = .ok (.enter gf args) w)
    (U S : Nat → Prop) {N : Nat} {A : Nat → Array Value → World → Prop} {Fin : World → Prop}
    (hseq : SeqC P gf lb N A S (fun k => U k ∨ k = w.heap.size ∨ k = w.heap.size + 1) Fin w)
    (hFin : ∀ A B, Fin A → Ext (fun j => False ∨ (j = w.heap.size + 1 ∧ NC A j)) A B → Fin B)
    (hps : ∀ k args W, A k args W → args.size = ps.size)
    (hA : ∀ k args W r o, A k args W → W.heap[w.heap.size + 1]? = some (.loop r) → A k args (W.putObj (w.heap.size + 1) o))
    (hU0 : ¬ U w.heap.size) (hU1 : ¬ U (w.heap.size + 1)) (hS0 : ¬ S w.heap.size) (hS1 : ¬ S (w.heap.size + 1))
    (I : Nat → World → Prop) (Ix : Code → Nat → World → Prop)
    (hI : ∀ k A B, I k A → Ext (fun j => S j ∨ (j = w.heap.size + 1 ∧ NC A j)) A B → I k B)
    (hIx : ∀ c k A B, Ix c k A → Ext (fun j => S j ∨ (j = w.heap.size + 1 ∧ NC A j)) A B → Ix c k B)
    (h0 : I 0 w) (a₁ : Array Value → Act)
    (hassign : ∀ (l k : Nat) (args : Array Value) (W : World) (K : Act → World → Prop), A k args W → K (a₁ args) W →
      assign.wpIn (Fence.wide.inRound l) 0 P (Exit.then K (fun _ _ _ => False)) { tmps := (ps.zip args).foldl (fun t (p, v) => t.setIfInBounds p v) a.tmps, defers := [] } W)
    (hbody : ∀ (l k : Nat) (args : Array Value) (W : World), k < N → I k W → A k args W → w.heap.size + 2 ≤ W.heap.size → body.wpIn (Fence.wide.inRound l) 0 P (rPost U I Ix (k + 1) W) (a₁ args) W)
    (hdone : ∀ W : World, I N W → Fin W → W.heap[w.heap.size]? = some (.deferred (some [])) → Q .normal { a with defers := { target := .collected w.heap.size, args := #[] } :: a.defers } W)
    (hstop : ∀ (c : Code) (k : Nat) (W : World), k ≤ N → Ix c k W → Fin W → W.heap[w.heap.size]? = some (.deferred (some [])) → c.wpIn Fence.wide 0 P Q { a with defers := { target := .collected w.heap.size, args := #[] } :: a.defers } W) :
    (Code.rangeFunc g ps assign body).wpIn Fence.wide 0 P Q a w := by
  refine wpIn_rangeFunc ?_
  intro fn hfn
  rw [show Fence.wide.round = none from rfl]
  obtain ⟨D, hD⟩ : ∃ D, w.heap.size = D := ⟨_, rfl⟩
  obtain ⟨rec, hrec⟩ : ∃ rec : LoopState → Option Code → Loop, rec = fun st pe => { state := st, pending := pe, fn, tmps := a.tmps, params := ps, assign, body, defers := D } := ⟨_, rfl⟩
  obtain ⟨W1, hW1⟩ : ∃ W1, (w.alloc (.deferred (some []))).alloc (.loop (rec .ready none)) = W1 := ⟨_, rfl⟩
  have hL1 : W1.heap[D + 1]? = some (.loop (rec .ready none)) := by
    rw [← hW1]; have := World.alloc_heap_new (w.alloc (.deferred (some []))) (.loop (rec .ready none)); rwa [World.size_alloc, hD] at this
  have hK1 : W1.heap[D]? = some (.deferred (some [])) := by
    rw [← hW1, ← hD]; exact (Below.heap_alloc _ _ _ (by simp)).trans (World.alloc_heap_new w _)
  have hx1 : Ext No w W1 := by rw [← hW1]; exact ((Ext.refl No w).alloc _).alloc _
  have hI1 : I 0 W1 := hI _ _ _ h0 (hx1.mono (fun _ _ h => h.elim))
  have hsz1 : D + 2 ≤ W1.heap.size := by rw [← hW1]; simp; omega
  refine ⟨D + 1, [{ target := .collected D, args := #[] }], W1, { target := .fn (.func gf) lb, args := #[.func (.yield (D + 1)) #[] #[]] }, W1, gf,
    #[.func (.yield (D + 1)) #[] #[]] ++ lb, W1, ?_, ?_, ?_, ?_, fun h => by simp [Fence.wide] at h, ?_⟩
  · rw [← hW1, hrec, ← hD]; exact run_enterLoop_outer _ _ _ _ _
  · simp only [resolve, hg]
    simp [go_sem]
  · intro f' hf'; trivial
  · simp [invoke, go_sem, eg]
  · rw [hD] at hseq hFin hA hU0 hU1 hS0 hS1 hI hIx hbody hdone hstop
    refine callsIn_wide.2 ((hseq (D + 1)
      (fun k W => I k W ∧ W.heap[D + 1]? = some (.loop (rec .ready none)) ∧ W.heap[D]? = some (.deferred (some [])) ∧ D + 2 ≤ W.heap.size)
      (fun k W => ∃ c, Ix c k W ∧ W.heap[D + 1]? = some (.loop (rec .done (some c))) ∧ W.heap[D]? = some (.deferred (some [])) ∧ D + 2 ≤ W.heap.size)
      W1 hx1 (by rw [hD]; exact hsz1) ?_ ?_ ?_ ⟨hI1, hL1, hK1, hsz1⟩).mono ?_)
    · rintro k A B ⟨h1, h2, h3, h4⟩ hx
      exact ⟨hI k A B h1 (hx.mono (fun _ _ h => .inl h)), (hx.block _ (by omega) hS1).trans h2, (hx.block _ (by omega) hS0).trans h3, Nat.le_trans h4 hx.size⟩
    · rintro k A B ⟨c, h1, h2, h3, h4⟩ hx
      exact ⟨c, hIx c k A B h1 (hx.mono (fun _ _ h => .inl h)), (hx.block _ (by omega) hS1).trans h2, (hx.block _ (by omega) hS0).trans h3, Nat.le_trans h4 hx.size⟩
    · -- ONE ROUND
      rintro k args W hkN ⟨hi, hl, hk, hs⟩ hAk
      have hy := run_yield (P := P) (args := args) hl (by rw [hrec]; exact hps k args W hAk)
      rw [hrec] at hy
      refine ⟨fn, _, assign, body, hy, roundIn_of_wpIn hfn (hassign _ k args W _ hAk ⟨_, run_beginRound hl (by rw [hrec]), ?_⟩)⟩
      have hl2 : (W.putObj (D + 1) (.loop { rec .ready none with state := .busy })).heap[D + 1]? = some (.loop { rec .ready none with state := .busy }) := World.putObj_heap_same (by omega)
      have hk2 : (W.putObj (D + 1) (.loop { rec .ready none with state := .busy })).heap[D]? = some (.deferred (some [])) := (World.putObj_heap_other (by omega)).trans hk
      have hx2 : ∀ {S' : Nat → Prop} (W : World) (o : Obj), S' (D + 1) → Ext S' W (W.putObj (D + 1) o) := fun W o h => (Ext.refl _ W).putObj _ _ (fun _ => h)
      refine wpIn_mono (hbody _ k args _ hkN (hI _ _ _ hi (Ext.putObjN _ _ _ (NC.loop hl))) (hA k args W _ _ hAk hl) (by rw [World.putObj_size]; exact hs)) ?_
      have fin : ∀ (jump : Option Code) (W3 : World), Ext U (W.putObj (D + 1) (.loop { rec .ready none with state := .busy })) W3 →
          (Instr.endRound (D + 1) jump).run P W3 = .ok (.bool jump.isNone) (W3.putObj (D + 1) (.loop (rec (if jump.isNone then .ready else .done) jump))) ∧
          (W3.putObj (D + 1) (.loop (rec (if jump.isNone then .ready else .done) jump))).heap[D + 1]? = some (.loop (rec (if jump.isNone then .ready else .done) jump)) ∧
          (W3.putObj (D + 1) (.loop (rec (if jump.isNone then .ready else .done) jump))).heap[D]? = some (.deferred (some [])) ∧ D + 2 ≤ (W3.putObj (D + 1) (.loop (rec (if jump.isNone then .ready else .done) jump))).heap.size := fun jump W3 hk3 => by
        have hl3 := (hk3.block (D + 1) (by rw [World.putObj_size]; omega) hU1).trans hl2
        have hd3 := (hk3.block D (by rw [World.putObj_size]; omega) hU0).trans hk2
        have hs3 : D + 2 ≤ W3.heap.size := Nat.le_trans (by rw [World.putObj_size]; exact hs) hk3.size
        have := run_endRound (P := P) jump hl3
        rw [hrec] at this ⊢
        exact ⟨this, World.putObj_heap_same (by omega), (World.putObj_heap_other (by omega)).trans hd3, by rw [World.putObj_size]; exact hs3⟩
      have ext3 : ∀ (W3 : World) (o o' : Obj), Ext U (W.putObj (D + 1) o) W3 → Ext (fun k => U k ∨ k = D ∨ k = D + 1) W (W3.putObj (D + 1) o') := fun W3 o o' hx3 =>
        (((hx2 W o (.inr (.inr rfl))).trans hx3 (fun _ _ h => h) (fun _ _ h => .inl h)).trans (hx2 W3 _ (.inr (.inr rfl))) (fun _ _ h => h) (fun _ _ h => h))
      have ncl : ∀ (W3 : World), Ext U (W.putObj (D + 1) (.loop { rec .ready none with state := .busy })) W3 → NC W3 (D + 1) := fun W3 hk3 => NC.loop ((hk3.block (D + 1) (by rw [World.putObj_size]; omega) hU1).trans hl2)
      rintro e a3 W3 hp
      cases e with
      | normal =>
        obtain ⟨hx3, hi3⟩ := hp
        obtain ⟨hr, h4⟩ := fin none W3 hx3
        refine ⟨_, _, hr, .inl ⟨rfl, ⟨hI _ _ _ hi3 (Ext.putObjN _ _ _ (ncl _ hx3)), h4⟩, ext3 _ _ _ hx3⟩⟩
      | ret =>
        obtain ⟨hx3, hi3⟩ := hp
        obtain ⟨hr, h4⟩ := fin (some .ret) W3 hx3
        exact ⟨_, _, hr, .inr ⟨rfl, ⟨.ret, hIx _ _ _ _ hi3 (Ext.putObjN _ _ _ (ncl _ hx3)), h4⟩, ext3 _ _ _ hx3⟩⟩
      | exit id =>
        obtain ⟨hx3, hi3⟩ := hp
        obtain ⟨hr, h4⟩ := fin (some (.exit id)) W3 hx3
        exact ⟨_, _, hr, .inr ⟨rfl, ⟨.exit id, hIx _ _ _ _ hi3 (Ext.putObjN _ _ _ (ncl _ hx3)), h4⟩, ext3 _ _ _ hx3⟩⟩
      | goto t =>
        obtain ⟨hx3, hi3⟩ := hp
        obtain ⟨hr, h4⟩ := fin (some (.goto t)) W3 hx3
        exact ⟨_, _, hr, .inr ⟨rfl, ⟨.goto t, hIx _ _ _ _ hi3 (Ext.putObjN _ _ _ (ncl _ hx3)), h4⟩, ext3 _ _ _ hx3⟩⟩
      | panic ch => exact hp.elim
      | outgrown => exact hp.elim
    · -- BEHIND THE ITERATOR
      rintro e W2 ⟨⟨v, rfl⟩, (⟨hi, hl, hk, hs⟩ | ⟨k, hkN, c, hi, hl, hk, hs⟩), hfin⟩
      · exact ⟨none, _, by have := run_endLoop (P := P) hl (by rw [hrec]; simp); rw [hrec] at this; exact this, hdone _ (hI _ _ _ hi (Ext.putObjN _ _ _ (NC.loop hl))) (hFin _ _ hfin (Ext.putObjN _ _ _ (NC.loop hl))) ((World.putObj_heap_other (by omega)).trans hk)⟩
      · exact ⟨some c, _, by have := run_endLoop (P := P) hl (by rw [hrec]; simp); rw [hrec] at this; exact this, hstop c k _ hkN (hIx _ _ _ _ hi (Ext.putObjN _ _ _ (NC.loop hl))) (hFin _ _ hfin (Ext.putObjN _ _ _ (NC.loop hl))) ((World.putObj_heap_other (by omega)).trans hk)⟩

/-- append of one element of one cell onto a row of the call's own, within a round: the row stands where it stood, or in a new block -/
theorem wpListIn_app1 {F : Fence} {nF : Nat} {ops : Array Oper} {rest : List Oper} {o : Oper} {a : Act} {Q : Exit → Act → World → Prop} (w : World) (u : Value) (hgd : o.guard = none) (s x : Operand) (t : TypeId)
    (ho : o.op = .call { callee := .builtin .append, args := #[s, x], argTypes := #[t, t] }) (base : Nat) (e : TypeId) (z : Value) (bytes : Nat)
    (hinfo : (P.info? e).map (fun i => (i.zero, i.size, i.bytes)) = some (some z, 1, bytes)) (ht : P.underlying t = some (.slice e)) (hzs : z.cells.size = 1)
    (v : Value) (n : Nat) (xs : List Value) (hs : a.eval s = v) (hown : w.ownsRow base e 1 v n xs) (ad : Addr) (hx : a.eval x = .slice (some ad) 1 1) (had : w.cell? ad = some u) (h1 : u.oneCell' = true)
    (h63 : n + 1 ≤ 9223372036854775807) (hbytes : (n + 1) * bytes ≤ 140737488355328) (hbase : base ≤ w.heap.size)
    (h : ∀ v' w', w'.ownsRow base e 1 v' (n + 1) (xs ++ [u]) → w.grownBy w' v.ownBlock → (v'.ownBlock = v.ownBlock ∨ v'.ownBlock = some w.heap.size) → wpListIn F nF P ops Q rest (a.put o.dst v') w') : wpListIn F nF P ops Q (o :: rest) a w := by
  obtain ⟨i0, hi, hz0, hz1, hz2⟩ := info_parts hinfo
  refine wpListIn_append_own_at w hgd s x t ho base e i0 z 1 bytes ht hi hz0 hz1 hz2 hzs (by decide) v n xs hs hown ad 1 1 [u] hx rfl ?_ ?_ (by unfold maxLen; omega) hbytes hbase fun v' w' h2 h3 _ h4 => h v' w' h2 h3 h4
  · intro j y hj
    cases j with
    | zero => simp at hj; subst hj; rw [Addr.add_zero']; exact had
    | succ j => simp at hj
  · intro y hy; simp at hy; subst hy; exact h1

/-- new blocks, one behind the other -/
def lay (w : World) : List (Array Value × TypeId) → World
  | [] => w
  | (c, T) :: r => lay (w.alloc (.cells c T)) r
theorem lay_ext (cs : List (Array Value × TypeId)) : ∀ {w0 w : World}, Ext No w0 w → Ext No w0 (lay w cs) := by
  induction cs with
  | nil => exact fun h => h
  | cons a r ih => obtain ⟨c, T⟩ := a; exact fun h => ih (h.alloc _)
theorem lay_size (cs : List (Array Value × TypeId)) : ∀ w : World, (lay w cs).heap.size = w.heap.size + cs.length := by
  induction cs with
  | nil => intro w; rfl
  | cons a r ih => obtain ⟨c, T⟩ := a; intro w; rw [lay, ih, World.size_alloc, List.length_cons]; omega
theorem lay_blk (cs : List (Array Value × TypeId)) : ∀ (w : World) (i : Nat) (c : Array Value) (T : TypeId), cs[i]? = some (c, T) → Blk (lay w cs) (w.heap.size + i) c T := by
  induction cs with
  | nil => intro w i c T h; simp at h
  | cons a r ih =>
    obtain ⟨c0, T0⟩ := a
    intro w i c T h
    cases i with
    | zero =>
      simp only [List.getElem?_cons_zero, Option.some.injEq, Prod.mk.injEq] at h
      obtain ⟨rfl, rfl⟩ := h
      exact (Blk.new w c0 T0).ext (lay_ext r (Ext.refl No _)) (fun x => x)
    | succ i =>
      have := ih (w.alloc (.cells c0 T0)) i c T (by simpa using h)
      rw [World.size_alloc] at this
      rw [show w.heap.size + (i + 1) = w.heap.size + 1 + i by omega]
      exact this
theorem lay_at {w w0 : World} {cs : List (Array Value × TypeId)} (h : lay w cs = w0) (i : Nat) (c : Array Value) (T : TypeId) (hi : cs[i]? = some (c, T)) : Blk w0 (w.heap.size + i) c T := by rw [← h]; exact lay_blk cs w i c T hi
end Go.My
