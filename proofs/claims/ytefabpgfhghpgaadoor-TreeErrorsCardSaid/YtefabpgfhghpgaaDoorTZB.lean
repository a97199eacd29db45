/-
  JOINED (2): strings; a function that is ranged over; the contract of path.Check.
-/
import Derived.Test.YtefabpgfhghpgaaDoorTZA
import Derived.Laws.BytesArg
import Derived.Test.YtefabpgfhghpgaaDoorProg
import Derived.Lib.Bytealg
import Derived.Lib.Strings
import Derived.Lib.Walk
import Derived.Laws.Strings3
import Derived.Shelf.Abstract
import Derived.Shelf.RegionOpen
import Derived.OwnWalkIn
import Derived.TacticsInMore
import Derived.LoopNIn
import Derived.LoopIn
import Derived.RangeFuncNested
import Derived.RangeFuncBound
import Derived.RangeFuncCalls
import Derived.RangeFuncLeaves
set_option linter.unusedVariables false
set_option linter.unusedSimpArgs false

section
/- A range over a function, as in 'Range', where what the body may turn hangs on the world. No program in sight. -/
namespace Go.My
open Go.RowKit

/-- WHAT AN ITERATOR OWES: N elements; of the k-th handed to yield 'A k' is known; it turns the blocks of S; a round that goes on turns those of T. -/
def SeqW (P : Program) (g : Nat) (lb : Array Value) (N : Nat) (A : Nat → Array Value → World → Prop) (S : Nat → Prop) (T : World → Nat → Prop) (Fin : World → Prop) (w : World) : Prop :=
  ∀ (l : Nat) (J Jx : Nat → World → Prop) (W : World), Ext No w W → w.heap.size + 2 ≤ W.heap.size →
    (∀ k A B, J k A → Ext S A B → J k B) → (∀ k A B, Jx k A → Ext S A B → Jx k B) →
    (∀ k args W1, k < N → J k W1 → A k args W1 → YieldAt Fence.wide 0 P l args W1 fun e W' => (e = .returned (.bool true) ∧ J (k + 1) W' ∧ Ext (T W1) W1 W') ∨ (e = .returned (.bool false) ∧ Jx (k + 1) W' ∧ Ext (T W1) W1 W')) →
    J 0 W →
    Calls P g (#[.func (.yield l) #[] #[]] ++ lb) W fun e W' => (∃ v, e = .returned v) ∧ (J N W' ∨ ∃ k, k ≤ N ∧ Jx k W') ∧ Fin W'

/-- how a round's body is left -/
def rPostW (U : World → Nat → Prop) (I : Nat → World → Prop) (Ix : Code → Nat → World → Prop) (k : Nat) (W : World) : Exit → Act → World → Prop
  | .normal, _, W' => Ext (U W) W W' ∧ I k W'
  | .ret, _, W' => Ext (U W) W W' ∧ Ix .ret k W'
  | .exit id, _, W' => Ext (U W) W W' ∧ Ix (.exit id) k W'
  | .goto t, _, W' => Ext (U W) W W' ∧ Ix (.goto t) k W'
  | .panic _, _, _ => False
  | .outgrown, _, _ => False

variable {P : Program}

theorem wpIn_rangeW {g : Operand} {ps : Array Tmp} {assign body : Code} {Q : Exit → Act → World → Prop} {a : Act} {w : World}
    {gf : Nat} {lb : Array Value} (hg : a.eval g = .func (.func gf) #[] lb) (eg : ∀ args w, (callFunc gf args).run P w = .ok (.enter gf args) w)
    (U : World → Nat → Prop) (S : Nat → Prop) {N : Nat} {A : Nat → Array Value → World → Prop} {Fin : World → Prop}
    (hseq : SeqW P gf lb N A S (fun W k => U W k ∨ k = w.heap.size ∨ k = w.heap.size + 1) Fin w)
    (hUp : ∀ (W : World) (o : Obj) (r : Loop) (k : Nat), W.heap[w.heap.size + 1]? = some (.loop r) → U (W.putObj (w.heap.size + 1) o) k → U W k ∨ k = w.heap.size ∨ k = w.heap.size + 1)
    (hFin : ∀ A B, Fin A → Ext (fun j => False ∨ (j = w.heap.size + 1 ∧ NC A j)) A B → Fin B)
    (hps : ∀ k args W, A k args W → args.size = ps.size)
    (hA : ∀ k args W r o, A k args W → W.heap[w.heap.size + 1]? = some (.loop r) → A k args (W.putObj (w.heap.size + 1) o))
    (hU0 : ∀ W, ¬ U W w.heap.size) (hU1 : ∀ W, ¬ U W (w.heap.size + 1)) (hS0 : ¬ S w.heap.size) (hS1 : ¬ S (w.heap.size + 1))
    (I : Nat → World → Prop) (Ix : Code → Nat → World → Prop)
    (hI : ∀ k A B, I k A → Ext (fun j => S j ∨ (j = w.heap.size + 1 ∧ NC A j)) A B → I k B)
    (hIx : ∀ c k A B, Ix c k A → Ext (fun j => S j ∨ (j = w.heap.size + 1 ∧ NC A j)) A B → Ix c k B)
    (h0 : I 0 w) (a₁ : Array Value → Act)
    (hassign : ∀ (l k : Nat) (args : Array Value) (W : World) (K : Act → World → Prop), A k args W → K (a₁ args) W →
      assign.wpIn (Fence.wide.inRound l) 0 P (Exit.then K (fun _ _ _ => False)) { tmps := (ps.zip args).foldl (fun t (p, v) => t.setIfInBounds p v) a.tmps, defers := [] } W)
    (hbody : ∀ (l k : Nat) (args : Array Value) (W : World), k < N → I k W → A k args W → w.heap.size + 2 ≤ W.heap.size → body.wpIn (Fence.wide.inRound l) 0 P (rPostW U I Ix (k + 1) W) (a₁ args) W)
    (hdone : ∀ W : World, I N W → Fin W → W.heap[w.heap.size]? = some (.deferred (some [])) → Q .normal { a with defers := { target := .collected w.heap.size, args := #[] } :: a.defers } W)
    (hstop : ∀ (c : Code) (k : Nat) (W : World), k ≤ N → Ix c k W → Fin W → W.heap[w.heap.size]? = some (.deferred (some [])) → c.wpIn Fence.wide 0 P Q { a with defers := { target := .collected w.heap.size, args := #[] } :: a.defers } W) :
    (Code.rangeFunc g ps assign body).wpIn Fence.wide 0 P Q a w := by
  refine wpIn_rangeFunc ?_
  intro fn hfn
  rw [show Fence.wide.round = none from rfl]
  obtain ⟨D, hD⟩ : ∃ D, w.heap.size = D := ⟨_, rfl⟩
  obtain ⟨rec, hrec⟩ : ∃ rec : LoopState → Option Code → Loop, rec = fun st pe => { state := st, pending := pe, fn, tmps := a.tmps, params := ps, assign, body, defers := D } := ⟨_, rfl⟩
  obtain ⟨W1, hW1⟩ : ∃ W1, (w.alloc (.deferred (some []))).alloc (.loop (rec .ready none)) = W1 := ⟨_, rfl⟩
  have hL1 : W1.heap[D + 1]? = some (.loop (rec .ready none)) := by
    rw [← hW1]; have := World.alloc_heap_new (w.alloc (.deferred (some []))) (.loop (rec .ready none)); rwa [World.size_alloc, hD] at this
  have hK1 : W1.heap[D]? = some (.deferred (some [])) := by
    rw [← hW1, ← hD]; exact (Below.heap_alloc _ _ _ (by simp)).trans (World.alloc_heap_new w _)
  have hx1 : Ext No w W1 := by rw [← hW1]; exact ((Ext.refl No w).alloc _).alloc _
  have hI1 : I 0 W1 := hI _ _ _ h0 (hx1.mono (fun _ _ h => h.elim))
  have hsz1 : D + 2 ≤ W1.heap.size := by rw [← hW1]; simp; omega
  refine ⟨D + 1, [{ target := .collected D, args := #[] }], W1, { target := .fn (.func gf) lb, args := #[.func (.yield (D + 1)) #[] #[]] }, W1, gf,
    #[.func (.yield (D + 1)) #[] #[]] ++ lb, W1, ?_, ?_, ?_, ?_, fun h => by simp [Fence.wide] at h, ?_⟩
  · rw [← hW1, hrec, ← hD]; exact run_enterLoop_outer _ _ _ _ _
  · simp only [resolve, hg]
    simp [go_sem]
  · intro f' hf'; trivial
  · simp [invoke, go_sem, eg]
  · rw [hD] at hseq hUp hFin hA hU0 hU1 hS0 hS1 hI hIx hbody hdone hstop
    refine callsIn_wide.2 ((hseq (D + 1)
      (fun k W => I k W ∧ W.heap[D + 1]? = some (.loop (rec .ready none)) ∧ W.heap[D]? = some (.deferred (some [])) ∧ D + 2 ≤ W.heap.size)
      (fun k W => ∃ c, Ix c k W ∧ W.heap[D + 1]? = some (.loop (rec .done (some c))) ∧ W.heap[D]? = some (.deferred (some [])) ∧ D + 2 ≤ W.heap.size)
      W1 hx1 (by rw [hD]; exact hsz1) ?_ ?_ ?_ ⟨hI1, hL1, hK1, hsz1⟩).mono ?_)
    · rintro k A B ⟨h1, h2, h3, h4⟩ hx
      exact ⟨hI k A B h1 (hx.mono (fun _ _ h => .inl h)), (hx.block _ (by omega) hS1).trans h2, (hx.block _ (by omega) hS0).trans h3, Nat.le_trans h4 hx.size⟩
    · rintro k A B ⟨c, h1, h2, h3, h4⟩ hx
      exact ⟨c, hIx c k A B h1 (hx.mono (fun _ _ h => .inl h)), (hx.block _ (by omega) hS1).trans h2, (hx.block _ (by omega) hS0).trans h3, Nat.le_trans h4 hx.size⟩
    · -- ONE ROUND
      rintro k args W hkN ⟨hi, hl, hk, hs⟩ hAk
      have hy := run_yield (P := P) (args := args) hl (by rw [hrec]; exact hps k args W hAk)
      rw [hrec] at hy
      refine ⟨fn, _, assign, body, hy, roundIn_of_wpIn hfn (hassign _ k args W _ hAk ⟨_, run_beginRound hl (by rw [hrec]), ?_⟩)⟩
      have hl2 : (W.putObj (D + 1) (.loop { rec .ready none with state := .busy })).heap[D + 1]? = some (.loop { rec .ready none with state := .busy }) := World.putObj_heap_same (by omega)
      have hk2 : (W.putObj (D + 1) (.loop { rec .ready none with state := .busy })).heap[D]? = some (.deferred (some [])) := (World.putObj_heap_other (by omega)).trans hk
      have hx2 : ∀ {S' : Nat → Prop} (W : World) (o : Obj), S' (D + 1) → Ext S' W (W.putObj (D + 1) o) := fun W o h => (Ext.refl _ W).putObj _ _ (fun _ => h)
      refine wpIn_mono (hbody _ k args _ hkN (hI _ _ _ hi (Ext.putObjN _ _ _ (NC.loop hl))) (hA k args W _ _ hAk hl) (by rw [World.putObj_size]; exact hs)) ?_
      have fin : ∀ (jump : Option Code) (W3 : World), Ext (U (W.putObj (D + 1) (.loop { rec .ready none with state := .busy }))) (W.putObj (D + 1) (.loop { rec .ready none with state := .busy })) W3 →
          (Instr.endRound (D + 1) jump).run P W3 = .ok (.bool jump.isNone) (W3.putObj (D + 1) (.loop (rec (if jump.isNone then .ready else .done) jump))) ∧
          (W3.putObj (D + 1) (.loop (rec (if jump.isNone then .ready else .done) jump))).heap[D + 1]? = some (.loop (rec (if jump.isNone then .ready else .done) jump)) ∧
          (W3.putObj (D + 1) (.loop (rec (if jump.isNone then .ready else .done) jump))).heap[D]? = some (.deferred (some [])) ∧ D + 2 ≤ (W3.putObj (D + 1) (.loop (rec (if jump.isNone then .ready else .done) jump))).heap.size := fun jump W3 hk3 => by
        have hl3 := (hk3.block (D + 1) (by rw [World.putObj_size]; omega) (hU1 _)).trans hl2
        have hd3 := (hk3.block D (by rw [World.putObj_size]; omega) (hU0 _)).trans hk2
        have hs3 : D + 2 ≤ W3.heap.size := Nat.le_trans (by rw [World.putObj_size]; exact hs) hk3.size
        have := run_endRound (P := P) jump hl3
        rw [hrec] at this ⊢
        exact ⟨this, World.putObj_heap_same (by omega), (World.putObj_heap_other (by omega)).trans hd3, by rw [World.putObj_size]; exact hs3⟩
      have ext3 : ∀ (W3 : World) (o o' : Obj), Ext (U (W.putObj (D + 1) o)) (W.putObj (D + 1) o) W3 → Ext (fun k => U W k ∨ k = D ∨ k = D + 1) W (W3.putObj (D + 1) o') := fun W3 o o' hx3 =>
        (((hx2 W o (.inr (.inr rfl))).trans hx3 (fun _ _ h => h) (fun k _ h => hUp W o _ k hl h)).trans (hx2 W3 _ (.inr (.inr rfl))) (fun _ _ h => h) (fun _ _ h => h))
      have ncl : ∀ (W3 : World), Ext (U (W.putObj (D + 1) (.loop { rec .ready none with state := .busy }))) (W.putObj (D + 1) (.loop { rec .ready none with state := .busy })) W3 → NC W3 (D + 1) := fun W3 hk3 => NC.loop ((hk3.block (D + 1) (by rw [World.putObj_size]; omega) (hU1 _)).trans hl2)
      rintro e a3 W3 hp
      cases e with
      | normal =>
        obtain ⟨hx3, hi3⟩ := hp
        obtain ⟨hr, h4⟩ := fin none W3 hx3
        refine ⟨_, _, hr, .inl ⟨rfl, ⟨hI _ _ _ hi3 (Ext.putObjN _ _ _ (ncl _ hx3)), h4⟩, ext3 _ _ _ hx3⟩⟩
      | ret =>
        obtain ⟨hx3, hi3⟩ := hp
        obtain ⟨hr, h4⟩ := fin (some .ret) W3 hx3
        exact ⟨_, _, hr, .inr ⟨rfl, ⟨.ret, hIx _ _ _ _ hi3 (Ext.putObjN _ _ _ (ncl _ hx3)), h4⟩, ext3 _ _ _ hx3⟩⟩
      | exit id =>
        obtain ⟨hx3, hi3⟩ := hp
        obtain ⟨hr, h4⟩ := fin (some (.exit id)) W3 hx3
        exact ⟨_, _, hr, .inr ⟨rfl, ⟨.exit id, hIx _ _ _ _ hi3 (Ext.putObjN _ _ _ (ncl _ hx3)), h4⟩, ext3 _ _ _ hx3⟩⟩
      | goto t =>
        obtain ⟨hx3, hi3⟩ := hp
        obtain ⟨hr, h4⟩ := fin (some (.goto t)) W3 hx3
        exact ⟨_, _, hr, .inr ⟨rfl, ⟨.goto t, hIx _ _ _ _ hi3 (Ext.putObjN _ _ _ (ncl _ hx3)), h4⟩, ext3 _ _ _ hx3⟩⟩
      | panic ch => exact hp.elim
      | outgrown => exact hp.elim
    · -- BEHIND THE ITERATOR
      rintro e W2 ⟨⟨v, rfl⟩, (⟨hi, hl, hk, hs⟩ | ⟨k, hkN, c, hi, hl, hk, hs⟩), hfin⟩
      · exact ⟨none, _, by have := run_endLoop (P := P) hl (by rw [hrec]; simp); rw [hrec] at this; exact this, hdone _ (hI _ _ _ hi (Ext.putObjN _ _ _ (NC.loop hl))) (hFin _ _ hfin (Ext.putObjN _ _ _ (NC.loop hl))) ((World.putObj_heap_other (by omega)).trans hk)⟩
      · exact ⟨some c, _, by have := run_endLoop (P := P) hl (by rw [hrec]; simp); rw [hrec] at this; exact this, hstop c k _ hkN (hIx _ _ _ _ hi (Ext.putObjN _ _ _ (NC.loop hl))) (hFin _ _ hfin (Ext.putObjN _ _ _ (NC.loop hl))) ((World.putObj_heap_other (by omega)).trans hk)⟩

end Go.My
end

section
/- Strings as lists of bytes. -/
namespace Go.Proofs.YtefabpgfhghpgaaDoor
open Go.RowKit Go.My

theorem strB_size (l : List UInt8) : (strB l).size = l.length := by simp [strB, ByteArray.size]
theorem strB_of (s : ByteArray) : s = strB s.data.toList := rfl
def strV (ns : List (List UInt8)) (i : Nat) : Value := .string (strB (ns.getD i []))
def IsStrs (w : World) (ns : List (List UInt8)) (v : Value) : Prop := IsRow w (strV ns) ns.length v
theorem IsStrs.ext0 {w w' : World} {ns : List (List UInt8)} {v : Value} (h : IsStrs w ns v) (x : Ext No w w') : IsStrs w' ns v := IsRow.ext0 h x
def strVs (ns : List (List UInt8)) : List Value := ns.map fun s => .string (strB s)
theorem strs_own {w : World} {B : Nat} {T : TypeId} {ns : List (List UInt8)} {v : Value} (h : w.ownsRow B T 1 v ns.length (strVs ns)) : IsStrs w ns v :=
  (IsRow.of_own h).congr (fun i hi => by unfold strVs strV; simp [List.getD_eq_getElem?_getD, hi])
theorem str_info : (Tryd.prog.info? 9).map (fun i => (i.zero, i.size, i.bytes)) = some (some (.string ⟨#[]⟩), 1, 16) := by kernel_rfl

end Go.Proofs.YtefabpgfhghpgaaDoor
end

section
/- Contracts on strings: the search for a byte (IndexByte, Index at one byte), letter. -/
namespace Go.Proofs.YtefabpgfhghpgaaDoor
open Go.RowKit Go.My

set_option maxHeartbeats 1000000 in
set_option maxRecDepth 100000 in
theorem indexByteL_any (l : List UInt8) (c : UInt8) (w : World) :
    Calls Tryd.prog 61 #[.string (strB l), .int .u8 (c.toNat : Int)] w fun e w' => e = .returned (.int .i64 (Lib.indexByte l c)) ∧ w = w' := by
  go_enter Tryd.func61, Tryd.ntmps61
  go_wp2_with fail
  rw [run_callFunc_extern Tryd.func67 (by kernel_rfl) (by kernel_rfl) (by kernel_rfl) (e := Extern.BytealgIndexByte.indexByte) (by kernel_rfl), Lib.run_indexByteString]
  simp only [Result.andThen]
  rw [Oper.upon_value]
  have hc : (c.toNat : Int).toNat.toUInt8 = c := by simp
  rw [hc, strB_data]
  go_wp2_with fail
  go_ret
  exact ⟨rfl, rfl⟩
set_option maxRecDepth 100000 in
theorem indexByteS_any (l : List UInt8) (c : UInt8) (w : World) :
    Calls Tryd.prog 60 #[.string (strB l), .int .u8 (c.toNat : Int)] w fun e w' => e = .returned (.int .i64 (Lib.indexByte l c)) ∧ w = w' := by
  go_enter Tryd.func60, Tryd.ntmps60
  go_wp2_with fail
  refine (indexByteL_any l c w).mono ?_
  rintro e w' ⟨rfl, rfl⟩
  dsimp only
  go_wp2_with fail
  go_ret
  exact ⟨rfl, rfl⟩
set_option maxRecDepth 100000 in
set_option maxHeartbeats 1000000 in
theorem indexL_sep (l : List UInt8) (w : World) :
    Calls Tryd.prog 58 #[.string (strB l), .string ⟨#[47]⟩] w fun e w' => e = .returned (.int .i64 (Lib.indexByte l 47)) ∧ w = w' := by
  by_cases hl : l = [47]
  · subst hl
    have hs : (([47] : List UInt8) == (strB [47]).toList) = true := by rw [strB_list]; rfl
    go_enter Tryd.func58, Tryd.ntmps58
    go_wp2_with fail
    go_ret
    exact ⟨rfl, rfl⟩
  · have hs : (([47] : List UInt8) == (strB l).toList) = false := by rw [strB_list]; rw [beq_eq_false_iff_ne]; exact fun h => hl h.symm
    go_enter Tryd.func58, Tryd.ntmps58
    go_wp2_with fail
    refine (indexByteL_any l 47 w).mono ?_
    rintro e w' ⟨rfl, rfl⟩
    dsimp only
    go_wp2_with fail
    go_ret
    exact ⟨rfl, rfl⟩
set_option maxRecDepth 100000 in
theorem index_sep (l : List UInt8) (w : World) :
    Calls Tryd.prog 52 #[.string (strB l), .string ⟨#[47]⟩] w fun e w' => e = .returned (.int .i64 (Lib.indexByte l 47)) ∧ w = w' := by
  go_enter Tryd.func52, Tryd.ntmps52
  go_wp2_with fail
  refine (indexL_sep l w).mono ?_
  rintro e w' ⟨rfl, rfl⟩
  dsimp only
  go_wp2_with fail
  go_ret
  exact ⟨rfl, rfl⟩

/-- a letter of a part -/
def letterB (c : UInt8) : Bool := (decide (97 ≤ c.toNat) && decide (c.toNat ≤ 122)) || (decide (48 ≤ c.toNat) && decide (c.toNat ≤ 57)) || decide (c.toNat = 46) || decide (c.toNat = 95) || decide (c.toNat = 45)
theorem sep_index (c : UInt8) : (decide (0 ≤ Lib.indexByte [46, 95, 45] c)) = (decide (c.toNat = 46) || decide (c.toNat = 95) || decide (c.toNat = 45)) := by
  have h : ∀ d : UInt8, (d == c) = decide (c.toNat = d.toNat) := fun d => by
    rw [Bool.eq_iff_iff, beq_iff_eq, decide_eq_true_eq]
    exact ⟨fun h => by rw [h], fun h => (UInt8.toNat_inj.1 h).symm⟩
  unfold Lib.indexByte Lib.indexByte Lib.indexByte Lib.indexByte
  rw [h 46, h 95, h 45]
  rw [show (46 : UInt8).toNat = 46 from rfl, show (95 : UInt8).toNat = 95 from rfl, show (45 : UInt8).toNat = 45 from rfl]
  by_cases h1 : c.toNat = 46
  · simp [h1]
  · by_cases h2 : c.toNat = 95
    · simp [h2]
    · by_cases h3 : c.toNat = 45
      · simp [h3]
      · simp [h1, h2, h3]
set_option maxHeartbeats 1000000 in
set_option maxRecDepth 100000 in
theorem letter_any (c : UInt8) (w : World) :
    Calls Tryd.prog 57 #[.int .u8 (c.toNat : Int)] w fun e w' => e = .returned (.bool (letterB c)) ∧ w = w' := by
  by_cases h1 : 97 ≤ c.toNat ∧ c.toNat ≤ 122
  · have a1 : (97 : Int) ≤ c.toNat := by omega
    have a2 : (c.toNat : Int) ≤ 122 := by omega
    go_enter Tryd.func57, Tryd.ntmps57
    go_wp2_with fail
    go_ret
    refine ⟨?_, rfl⟩
    unfold letterB; simp [h1.1, h1.2]
  · by_cases h2 : 48 ≤ c.toNat ∧ c.toNat ≤ 57
    · have a1 : decide ((97 : Int) ≤ c.toNat) = false := by simp; omega
      have a2 : (48 : Int) ≤ c.toNat := by omega
      have a3 : (c.toNat : Int) ≤ 57 := by omega
      go_enter Tryd.func57, Tryd.ntmps57
      go_wp2_with fail
      go_ret
      refine ⟨?_, rfl⟩
      unfold letterB; simp [h2.1, h2.2]
    · have hf1 : (decide ((97 : Int) ≤ c.toNat) = true ∧ decide ((c.toNat : Int) ≤ 122) = false) ∨ decide ((97 : Int) ≤ c.toNat) = false := by simp; omega
      have hf2 : (decide ((48 : Int) ≤ c.toNat) = true ∧ decide ((c.toNat : Int) ≤ 57) = false) ∨ decide ((48 : Int) ≤ c.toNat) = false := by simp; omega
      have hi := sep_index c
      have hlet : letterB c = decide (0 ≤ Lib.indexByte [46, 95, 45] c) := by
        rw [hi]; unfold letterB
        have e1 : (decide (97 ≤ c.toNat) && decide (c.toNat ≤ 122)) = false := by simp; omega
        have e2 : (decide (48 ≤ c.toNat) && decide (c.toNat ≤ 57)) = false := by simp; omega
        rw [e1, e2]; simp
      have HL := Lib.hid hlet
      clear hi hlet
      have HX := indexByteS_any [46, 95, 45] c w
      have hst : strB [46, 95, 45] = ⟨#[46, 95, 45]⟩ := rfl
      rw [hst] at HX
      have HX := Lib.hid HX
      clear hst h1 h2
      rcases hf1 with ⟨f1, f2⟩ | f1
      all_goals rcases hf2 with ⟨f3, f4⟩ | f3
      all_goals
        go_enter Tryd.func57, Tryd.ntmps57
        go_wp2_with fail
        refine HX.out.mono ?_
        rintro e w' ⟨rfl, rfl⟩
        dsimp only
        go_wp2_with fail
        go_ret
        refine ⟨?_, rfl⟩
        rw [HL.out]
        rfl

/-- a part of a path -/
def partB (s : List UInt8) : Bool := !(decide (s = [])) && !(decide (s = [46])) && !(decide (s = [46, 46])) && decide (s.length ≤ 40) && s.all letterB
theorem list_beq {l k : List UInt8} (h : ¬ l = k) : (l == k) = false := by rw [beq_eq_false_iff_ne]; exact h
theorem strB_get (s : List UInt8) (k : Nat) : ∀ h : k < (strB s).size, (strB s)[k]'h = s.getD k 0 := fun h => by
  have h2 : k < s.length := by rw [strB_size] at h; exact h
  show (s.toArray)[k]'(by simpa using h2) = _
  simp [List.getD_eq_getElem?_getD, List.getElem?_eq_getElem h2]
set_option maxHeartbeats 2000000 in
set_option maxRecDepth 100000 in
theorem part_any (s : List UInt8) (w : World) (hs : s.length ≤ 9223372036854775807) :
    Calls Tryd.prog 51 #[.string (strB s)] w fun e w' => e = .returned (.bool (partB s)) ∧ Dr w w' := by
  have hz := strB_size s
  have hl := strB_list s
  by_cases h0 : s = []
  · subst h0
    go_enter Tryd.func51, Tryd.ntmps51
    go_wp2_with fail
    go_ret
    exact ⟨rfl, Dr.refl _⟩
  have b0 : ((strB s).toList == []) = false := by rw [hl]; exact list_beq h0
  by_cases h1 : s = [46]
  · subst h1
    go_enter Tryd.func51, Tryd.ntmps51
    go_wp2_with fail
    go_ret
    exact ⟨rfl, Dr.refl _⟩
  have b1 : ((strB s).toList == [46]) = false := by rw [hl]; exact list_beq h1
  by_cases h2 : s = [46, 46]
  · subst h2
    go_enter Tryd.func51, Tryd.ntmps51
    go_wp2_with fail
    go_ret
    exact ⟨rfl, Dr.refl _⟩
  have b2 : ((strB s).toList == [46, 46]) = false := by rw [hl]; exact list_beq h2
  have hpart : partB s = (decide (s.length ≤ 40) && s.all letterB) := by unfold partB; simp [h0, h1, h2]
  have HP := Lib.hid hpart
  obtain ⟨n, hn⟩ : ∃ n, n = s.length := ⟨_, rfl⟩
  rw [← hn] at hz hs
  have HN := Lib.hid hn; have HLs := Lib.hid hl
  clear hpart h0 h1 h2 hn hl
  by_cases h40 : 40 < n
  · have h40i : (40 : Int) < n := by omega
    go_enter Tryd.func51, Tryd.ntmps51
    go_wp2_with fail
    go_ret
    refine ⟨?_, Dr.refl _⟩
    rw [HP.out, ← HN.out]
    have : decide (n ≤ 40) = false := by simp; omega
    rw [this]; rfl
  have h40i : decide ((40 : Int) < n) = false := by simp; omega
  go_enter Tryd.func51, Tryd.ntmps51
  go_wp2_with fail
  go_loopw [21] (fun i wr => ∃ k : Nat, i = .int .i64 k ∧ k ≤ n ∧ wr = w ∧ (s.take k).all letterB = true) (fun i _ => n - (intOf i).toNat)
  case atStart => exact ⟨0, rfl, Nat.zero_le _, rfl, rfl⟩
  case round =>
    obtain ⟨k, rfl, hk, rfl, hall⟩ := hrel
    have HALL := Lib.hid hall; clear hall
    by_cases hlt : k < n
    · have hltI : (k : Int) < n := by omega
      have hgc := strB_get s k
      go_wp2_with fail
      refine (letter_any _ wr).mono ?_
      rintro e w' ⟨rfl, rfl⟩
      rw [← List.getD_eq_getElem?_getD]
      have htk : (s.take (k + 1)).all letterB = ((s.take k).all letterB && letterB (s.getD k 0)) := by
        rw [List.take_add_one, List.all_append, List.getElem?_eq_getElem (by rw [← HN.out]; exact hlt)]
        simp [List.getD_eq_getElem?_getD, List.getElem?_eq_getElem (show k < s.length by rw [← HN.out]; exact hlt)]
      have hno : letterB (s.getD k 0) = false → s.all letterB = false := fun h => by
        rw [List.all_eq_false]
        refine ⟨s.getD k 0, ?_, by rw [h]; decide⟩
        rw [List.getD_eq_getElem?_getD, List.getElem?_eq_getElem (show k < s.length by rw [← HN.out]; exact hlt)]
        exact List.getElem_mem _
      generalize letterB (s.getD k 0) = t at *
      have HTK := Lib.hid htk; have HNO := Lib.hid hno
      clear htk hno hgc
      dsimp only
      cases t
      · go_wp2_with fail
        go_ret
        refine ⟨?_, Dr.refl _⟩
        rw [HP.out, HNO.out trivial, Bool.and_false]
        rfl
      · go_wp2_with fail
        go_roundw
        case rel => exact ⟨k + 1, by go_num, by omega, by trivial, by rw [HTK.out, HALL.out]; rfl⟩
        case measure => simp [intOf]; omega
    · have hkn : n = k := by omega
      subst hkn
      go_wp2_with fail
      go_ret
      refine ⟨?_, Dr.refl _⟩
      rw [HP.out, ← HN.out]
      have h := HALL.out
      rw [List.take_of_length_le (by rw [← HN.out]; exact Nat.le_refl _)] at h
      have h2 : decide (n ≤ 40) = true := by simp; omega
      rw [h2, h]; rfl

end Go.Proofs.YtefabpgfhghpgaaDoor
end

section
/- Contracts on strings: the last separator, prefixes; path.Parent, Base, Join, Within. -/
namespace Go.Proofs.YtefabpgfhghpgaaDoor
open Go.RowKit Go.My

def lastN (l : List UInt8) : Nat → Int
  | 0 => -1
  | k + 1 => if l.getD k 0 = 47 then k else lastN l k
/-- the last separator's place, or -1 -/
def lastI (l : List UInt8) : Int := lastN l l.length
theorem lastN_bd (l : List UInt8) : ∀ k, -1 ≤ lastN l k ∧ lastN l k < k := by
  intro k
  induction k with
  | zero => exact ⟨Int.le_refl _, by show (-1 : Int) < 0; decide⟩
  | succ k ih =>
    rw [lastN]
    split
    · omega
    · omega
theorem lastI_bd (l : List UInt8) : -1 ≤ lastI l ∧ lastI l < l.length := lastN_bd l l.length

def parentL (l : List UInt8) : List UInt8 := l.take (lastI l).toNat
def baseL (l : List UInt8) : List UInt8 := l.drop (lastI l + 1).toNat
theorem strB_extract (l : List UInt8) (a b : Nat) : (strB l).extract a b = strB ((l.take b).drop a) := by
  apply ByteArray.ext
  show ((strB l).extract a b).data = ((l.take b).drop a).toArray
  rw [ByteArray.data_extract]
  show (l.toArray).extract a b = _
  rw [← Array.toList_inj]
  simp [List.extract_eq_take_drop, List.drop_take]
theorem strB_append (l k : List UInt8) : strB l ++ strB k = strB (l ++ k) := by
  apply ByteArray.ext
  rw [ByteArray.data_append]
  show l.toArray ++ k.toArray = (l ++ k).toArray
  simp
/-- is k the beginning of l? -/
def preB (l k : List UInt8) : Bool := decide (k.length ≤ l.length) && decide (l.take k.length = k)
/-- is p in a directory? -/
def withinB (p d : List UInt8) : Bool := decide (d = []) || preB p (d ++ [47])
end Go.Proofs.YtefabpgfhghpgaaDoor
end

section
/- The parts of a path; the iterator of strings.SplitSeq at a separator. -/
namespace Go.Proofs.YtefabpgfhghpgaaDoor
open Go.RowKit Go.My Go.Shelf

/-- all between two separators -/
def partsL : List UInt8 → List (List UInt8)
  | [] => [[]]
  | c :: l => if c = 47 then [] :: partsL l else match partsL l with
    | [] => [[c]]
    | p :: ps => (c :: p) :: ps
theorem partsL_ne (l : List UInt8) : partsL l ≠ [] := by
  cases l with
  | nil => simp [partsL]
  | cons c l =>
    rw [partsL]
    split
    · simp
    · split <;> simp
theorem partsL_none (l : List UInt8) (h : Lib.indexByte l 47 < 0) : partsL l = [l] := by
  induction l with
  | nil => rfl
  | cons c l ih =>
    unfold Lib.indexByte at h
    by_cases hc : c = 47
    · rw [if_pos (by simp [hc])] at h; exact absurd h (by decide)
    · rw [if_neg (by simp [hc])] at h
      rw [partsL, if_neg hc]
      by_cases h1 : Lib.indexByte l 47 < 0
      · rw [ih h1]
      · rw [if_neg (by simp; omega)] at h; omega
theorem partsL_some (l : List UInt8) (i : Nat) (h : Lib.indexByte l 47 = i) : i < l.length ∧ partsL l = l.take i :: partsL (l.drop (i + 1)) := by
  induction l generalizing i with
  | nil => unfold Lib.indexByte at h; omega
  | cons c l ih =>
    unfold Lib.indexByte at h
    by_cases hc : c = 47
    · rw [if_pos (by simp [hc])] at h
      have : i = 0 := by omega
      subst this
      rw [partsL, if_pos hc]
      exact ⟨by simp, by simp⟩
    · rw [if_neg (by simp [hc])] at h
      have hge := Lib.indexByte_ge l 47
      by_cases h1 : Lib.indexByte l 47 = -1
      · rw [if_pos (by simp [h1])] at h; omega
      · rw [if_neg (by simp [h1])] at h
        obtain ⟨j, hj⟩ : ∃ j : Nat, Lib.indexByte l 47 = j := ⟨(Lib.indexByte l 47).toNat, by omega⟩
        have hij : i = j + 1 := by omega
        subst hij
        obtain ⟨h2, h3⟩ := ih j hj
        refine ⟨by rw [List.length_cons]; omega, ?_⟩
        rw [partsL, if_neg hc, h3]
        simp

def HandedP (l : List UInt8) (k : Nat) (args : Array Value) (_ : World) : Prop := args = #[.string (strB ((partsL l).getD k []))]
/-- the length of the string in a box -/
def boxLen (b : Nat) (w : World) : Nat := match w.cell? ⟨b, 0, none⟩ with
  | some (.string s) => s.size
  | _ => 0
theorem boxLen_blk {w : World} {b : Nat} {l : List UInt8} {T : TypeId} (h : Blk w b #[.string (strB l)] T) : boxLen b w = l.length := by
  unfold boxLen
  rw [h.cell 0]
  show (strB l).size = _
  exact strB_size l

set_option maxRecDepth 100000 in
set_option maxHeartbeats 8000000 in
theorem split1_seq (l : List UInt8) (bp bs bv : Nat) (w : World) (hp : Blk w bp #[.string ⟨#[47]⟩] 9) (hs : Blk w bs #[.string (strB l)] 9) (hv : Blk w bv #[.int .i64 0] 3) (hl : l.length ≤ 1099511627776) (hn1 : bs ≠ bp) (T : World → Nat → Prop) (hT : ∀ W, ¬ T W bp ∧ ¬ T W bs ∧ ¬ T W bv) :
    SeqW Tryd.prog 65 #[.pointer (some ⟨bp, 0, none⟩), .pointer (some ⟨bs, 0, none⟩), .pointer (some ⟨bv, 0, none⟩)] (partsL l).length (HandedP l) (fun j => j = bs) T (fun _ => True) w := by
  intro y J Jx W hW hsz hJ hJx hY h0
  have hp1 := hp.ext hW (fun s => s)
  have hs1 := hs.ext hW (fun s => s)
  have hv1 := hv.ext hW (fun s => s)
  have hn2 : bs ≠ bv := Blk.ne_type hs hv (by decide)
  have hc1 := hp1.cell 0; have hc2 := hs1.cell 0; have hc3 := hv1.cell 0
  simp only [List.getElem?_toArray, List.getElem?_cons_zero] at hc1 hc2 hc3
  have HP := Lib.hid hp1; have HS := Lib.hid hs1; have HV := Lib.hid hv1; have HT := Lib.hid hT; have H0 := Lib.hid h0; have HL := Lib.hid hl; have HN := Lib.hid (And.intro hn1 hn2)
  clear hp hs hv hl hT h0 hsz hW hp1 hs1 hv1 hn1 hn2
  refine (callsIn_wide (n := 0)).1 ?_
  show CallsIn Fence.wide 0 Tryd.prog _ #[.func (.yield y) #[] #[], .pointer (some ⟨bp, 0, none⟩), .pointer (some ⟨bs, 0, none⟩), .pointer (some ⟨bv, 0, none⟩)] W _
  refine callsIn_of_wp Tryd.func65 rfl trivial ?_ rfl
  simp only [Tryd.ntmps65, List.size_toArray, List.length_cons, List.length_nil, Nat.reduceAdd, Nat.reduceSub, Array.replicate_succ, Array.replicate_zero, List.push_toArray, List.append_toArray, List.nil_append, List.cons_append]
  gi_wp2_with fail
  gi_loopw [7] (fun _ wr => ∃ (k : Nat) (r : List UInt8), k < (partsL l).length ∧ partsL r = (partsL l).drop k ∧ r.length ≤ l.length ∧ Blk wr bp #[.string ⟨#[47]⟩] 9 ∧ Blk wr bs #[.string (strB r)] 9 ∧ Blk wr bv #[.int .i64 0] 3 ∧ J k wr) (fun _ wr => boxLen bs wr)
  case atStart => exact ⟨0, l, List.length_pos_iff.2 (partsL_ne l), rfl, Nat.le_refl _, HP.out, HS.out, HV.out, H0.out⟩
  case round =>
    obtain ⟨k, r, hk, hd, hrl, hp, hs, hv, hj⟩ := hrel
    have hc1 := hp.cell 0; have hc2 := hs.cell 0; have hc3 := hv.cell 0; have hf2 := hs.free 0
    simp only [List.getElem?_toArray, List.getElem?_cons_zero] at hc1 hc2 hc3
    have hz := strB_size r
    have HK := Lib.hid (And.intro hk (And.intro hd hrl)); have HP1 := Lib.hid hp; have HS1 := Lib.hid hs; have HV1 := Lib.hid hv; have HJ := Lib.hid hj
    clear hk hd hrl hp hs hv hj
    gi_wp2_with fail
    refine ⟨trivial, rfl, (callsIn_wide.2 (index_sep r wr)).mono ?_⟩
    rintro e w2 ⟨rfl, rfl⟩
    have hge := Lib.indexByte_ge r 47
    by_cases hi : Lib.indexByte r 47 < 0
    · have hpr := partsL_none r hi
      have hone : (partsL l).drop k = [r] := by rw [← HK.out.2.1, hpr]
      have hkN : k + 1 = (partsL l).length := by
        have := congrArg List.length hone
        rw [List.length_drop, List.length_singleton] at this
        have := HK.out.1; omega
      have hget : (partsL l).getD k [] = r := by
        rw [List.drop_eq_getElem_cons HK.out.1] at hone
        rw [List.getD_eq_getElem?_getD, List.getElem?_eq_getElem HK.out.1]
        exact (List.cons.inj hone).1
      obtain ⟨fn, tmps, assign, body, hy, hR⟩ := hY k #[.string (strB r)] wr HK.out.1 HJ.out (by unfold HandedP; rw [hget])
      have HKN := Lib.hid hkN
      generalize Lib.indexByte r 47 = i at *
      clear hpr hone hkN hget
      dsimp only
      gi_wp2_with fail
      refine ⟨rfl, hR.mono ?_⟩
      clear hR hy
      rintro e w4 (⟨rfl, hj4, hx4⟩ | ⟨rfl, hj4, hx4⟩)
      · have HJ4 := Lib.hid hj4; clear hj4 hx4
        dsimp only
        gi_wp2_with fail
        go_end0
        exact ⟨⟨_, rfl⟩, .inl (HKN.out ▸ HJ4.out), trivial⟩
      · have HJ4 := Lib.hid hj4; clear hj4 hx4
        dsimp only
        gi_wp2_with fail
        go_end0
        exact ⟨⟨_, rfl⟩, .inr ⟨k + 1, by have := HKN.out; omega, HJ4.out⟩, trivial⟩
    · obtain ⟨i, hie⟩ : ∃ i : Nat, Lib.indexByte r 47 = i := ⟨(Lib.indexByte r 47).toNat, by omega⟩
      obtain ⟨hir, hpr⟩ := partsL_some r i hie
      have hdr : (partsL l).drop k = r.take i :: partsL (r.drop (i + 1)) := by rw [← HK.out.2.1, hpr]
      have hget : (partsL l).getD k [] = r.take i := by
        have e := hdr
        rw [List.drop_eq_getElem_cons HK.out.1] at e
        rw [List.getD_eq_getElem?_getD, List.getElem?_eq_getElem HK.out.1]
        exact (List.cons.inj e).1
      have hnext : partsL (r.drop (i + 1)) = (partsL l).drop (k + 1) := by
        have e := hdr
        rw [List.drop_eq_getElem_cons HK.out.1] at e
        exact (List.cons.inj e).2.symm
      have hk1 : k + 1 < (partsL l).length := by
        rcases Nat.lt_or_ge (k + 1) (partsL l).length with h | h
        · exact h
        · rw [List.drop_eq_nil_of_le h] at hnext; exact absurd hnext (partsL_ne _)
      rw [hie]
      have e1 : (strB r).extract 0 i = strB (r.take i) := by rw [strB_extract, List.drop_zero]
      have e2 : (strB r).extract (i + 1) r.length = strB (r.drop (i + 1)) := by rw [strB_extract, List.take_length]
      have hir2 : (i : Int) ≤ r.length := by omega
      have hir3 : (i : Int) + 1 ≤ r.length := by omega
      have hi63 : (i : Int) ≤ 1099511627776 := by have := HL.out; have := HK.out.2.2; omega
      have hi64 : i ≤ 1099511627776 := by omega
      obtain ⟨fn, tmps, assign, body, hy, hR⟩ := hY k #[.string (strB (r.take i))] wr HK.out.1 HJ.out (by unfold HandedP; rw [hget])
      have HN1 := Lib.hid (And.intro hnext (And.intro hk1 hir))
      clear hpr hdr hget hnext hk1 hge hi hie
      dsimp only
      gi_wp2_with fail
      refine ⟨rfl, hR.mono ?_⟩
      clear hR hy
      rintro e w4 (⟨rfl, hj4, hx4⟩ | ⟨rfl, hj4, hx4⟩)
      · have hp4 := HP1.out.ext hx4 (HT.out _).1; have hs4 := HS1.out.ext hx4 (HT.out _).2.1; have hv4 := HV1.out.ext hx4 (HT.out _).2.2
        have hd1 := hp4.cell 0; have hd2 := hs4.cell 0; have hd3 := hv4.cell 0; have hf4 := hs4.free 0
        simp only [List.getElem?_toArray, List.getElem?_cons_zero] at hd1 hd2 hd3
        have HJ4 := Lib.hid hj4; have HP4 := Lib.hid hp4; have HS4 := Lib.hid hs4; have HV4 := Lib.hid hv4
        clear hj4 hx4 hp4 hs4 hv4 hc1 hc2 hc3 hf2
        dsimp only
        gi_wp2_with fail
        go_roundw
        case rel => exact ⟨k + 1, r.drop (i + 1), HN1.out.2.1, HN1.out.1, by rw [List.length_drop]; have := HK.out.2.2; omega, HP4.out.set_other _ _ (fun e => HN.out.1 e.symm), HS4.out.set 0 _, HV4.out.set_other _ _ (fun e => HN.out.2 e.symm), hJ _ _ _ HJ4.out ((Ext.refl _ w4).setCell _ _ (fun _ => rfl))⟩
        case measure =>
          rw [boxLen_blk (HS4.out.set 0 (.string (strB (r.drop (i + 1))))), boxLen_blk HS1.out, List.length_drop]
          have := HN1.out.2.2; omega
      · have HJ4 := Lib.hid hj4; clear hj4 hx4
        dsimp only
        gi_wp2_with fail
        refine bodyPost_ret (results_none rfl _ _ _) rfl ?_
        exact ⟨⟨_, rfl⟩, .inr ⟨k + 1, by have := HN1.out.2.1; omega, HJ4.out⟩, trivial⟩

end Go.Proofs.YtefabpgfhghpgaaDoor
end

section
/- The contracts of path.Parts (the iterator handed out) and path.Check. -/
namespace Go.Proofs.YtefabpgfhghpgaaDoor
open Go.RowKit Go.My Go.Shelf

attribute [local go_sem] Oper.semAt_some

/-- what Parts hands out -/
def PartsTold (l : List UInt8) (w : World) (e : Ending) (w' : World) : Prop :=
  Ext No w w' ∧ ∃ bp bs bv, e = .returned (.func (.func 65) #[] #[.pointer (some ⟨bp, 0, none⟩), .pointer (some ⟨bs, 0, none⟩), .pointer (some ⟨bv, 0, none⟩)]) ∧
    Blk w' bp #[.string ⟨#[47]⟩] 9 ∧ Blk w' bs #[.string (strB l)] 9 ∧ Blk w' bv #[.int .i64 0] 3 ∧ bs ≠ bp ∧ w.heap.size ≤ bs ∧ w.heap.size ≤ bp ∧ w.heap.size ≤ bv
set_option maxRecDepth 100000 in
set_option maxHeartbeats 1000000 in
theorem splitSeq0_any (l : List UInt8) (w : World) : Calls Tryd.prog 59 #[.string (strB l), .string ⟨#[47]⟩, .int .i64 0] w (PartsTold l w) := by
  have h1 := (((Blk.new w #[.string (strB l)] 9).alloc (.cells #[.string ⟨#[47]⟩] 9)).alloc (.cells #[.int .i64 0] 3))
  have h2 := (Blk.new (w.alloc (.cells #[.string (strB l)] 9)) #[.string ⟨#[47]⟩] 9).alloc (.cells #[.int .i64 0] 3)
  have h3 := Blk.new ((w.alloc (.cells #[.string (strB l)] 9)).alloc (.cells #[.string ⟨#[47]⟩] 9)) #[.int .i64 0] 3
  rw [World.size_alloc] at h2
  rw [World.size_alloc, World.size_alloc] at h3
  have hx : Ext No w (((w.alloc (.cells #[.string (strB l)] 9)).alloc (.cells #[.string ⟨#[47]⟩] 9)).alloc (.cells #[.int .i64 0] 3)) := (((Ext.refl No w).alloc _).alloc _).alloc _
  have H := Lib.hid (And.intro h1 (And.intro h2 (And.intro h3 hx)))
  have hmf := mkf
  clear h1 h2 h3 hx
  go_enter Tryd.func59, Tryd.ntmps59
  go_wp2_with fail
  go_ret
  exact ⟨H.out.2.2.2, w.heap.size + 1, w.heap.size, w.heap.size + 1 + 1, rfl, H.out.2.1, H.out.1, H.out.2.2.1, by omega, by omega, by omega, by omega⟩
set_option maxRecDepth 100000 in
theorem splitSeq_any (l : List UInt8) (w : World) : Calls Tryd.prog 56 #[.string (strB l), .string ⟨#[47]⟩] w (PartsTold l w) := by
  go_enter Tryd.func56, Tryd.ntmps56
  go_wp2_with fail
  refine (splitSeq0_any l w).mono ?_
  rintro e w' ⟨hE, bp, bs, bv, rfl, h⟩
  have H := Lib.hid h; have HE := Lib.hid hE
  clear h hE
  dsimp only
  go_wp2_with fail
  go_ret
  exact ⟨HE.out, bp, bs, bv, rfl, H.out⟩
set_option maxRecDepth 100000 in
theorem parts_any (l : List UInt8) (w : World) : Calls Tryd.prog 50 #[.string (strB l)] w (PartsTold l w) := by
  go_enter Tryd.func50, Tryd.ntmps50
  go_wp2_with fail
  refine (splitSeq_any l w).mono ?_
  rintro e w' ⟨hE, bp, bs, bv, rfl, h⟩
  have H := Lib.hid h; have HE := Lib.hid hE
  clear h hE
  dsimp only
  go_wp2_with fail
  go_ret
  exact ⟨HE.out, bp, bs, bv, rfl, H.out⟩

end Go.Proofs.YtefabpgfhghpgaaDoor
end

section
/- The contract of path.Check. -/
namespace Go.Proofs.YtefabpgfhghpgaaDoor
open Go.RowKit Go.My Go.Shelf

attribute [local go_sem] Oper.semAt_some

/-- what is wrong with a path -/
def checkE (l : List UInt8) : Int := if 120 < l.length then 38 else if (partsL l).all partB then 0 else 38

theorem partsL_len (l : List UInt8) : ∀ p ∈ partsL l, p.length ≤ l.length := by
  induction l with
  | nil => intro p hp; simp [partsL] at hp; subst hp; simp
  | cons c l ih =>
    intro p hp
    rw [partsL] at hp
    split at hp
    · rcases List.mem_cons.1 hp with rfl | hp
      · simp
      · have := ih p hp; rw [List.length_cons]; omega
    · split at hp
      · simp at hp; subst hp; simp
      · rename_i q ps hq
        rw [hq] at ih
        rcases List.mem_cons.1 hp with rfl | hp
        · have := ih q (List.mem_cons_self ..); rw [List.length_cons, List.length_cons]; omega
        · have := ih p (List.mem_cons_of_mem _ hp); rw [List.length_cons]; omega
theorem parts_get (l : List UInt8) (k : Nat) (h : k < (partsL l).length) : ((partsL l).getD k []) ∈ partsL l ∧ ((partsL l).getD k []).length ≤ l.length := by
  have : (partsL l).getD k [] ∈ partsL l := by
    rw [List.getD_eq_getElem?_getD, List.getElem?_eq_getElem h]; exact List.getElem_mem _
  exact ⟨this, partsL_len l _ this⟩
theorem all_take_step {α : Type} (ls : List α) (d : α) (f : α → Bool) (k : Nat) (h : k < ls.length) : (ls.take (k + 1)).all f = ((ls.take k).all f && f (ls.getD k d)) := by
  rw [List.take_add_one, List.all_append, List.getElem?_eq_getElem h]
  simp [List.getD_eq_getElem?_getD, List.getElem?_eq_getElem h]
theorem all_false_of {α : Type} (ls : List α) (f : α → Bool) (x : α) (hx : x ∈ ls) (h : f x = false) : ls.all f = false := by
  rw [List.all_eq_false]
  exact ⟨x, hx, by rw [h]; decide⟩

def OkTo (l : List UInt8) (k : Nat) : Prop := ((partsL l).take k).all partB = true
def BadP (l : List UInt8) : Prop := (partsL l).all partB = false

set_option maxRecDepth 100000 in
set_option maxHeartbeats 4000000 in
theorem check_any (l : List UInt8) (w : World) (hl : l.length ≤ 1099511627776) :
    Calls Tryd.prog 32 #[.string (strB l)] w fun e w' => e = .returned (.int .i64 (checkE l)) ∧ Ext No w w' := by
  have hz := strB_size l
  obtain ⟨n, hn⟩ : ∃ n, n = l.length := ⟨_, rfl⟩
  rw [← hn] at hz
  have HN := Lib.hid hn; have HL := Lib.hid hl
  clear hn hl
  have hx0 : Ext No w (w.alloc (.cells #[.int .i64 0] 27)) := (Ext.refl No w).alloc _
  have hb0 := Blk.new w #[.int .i64 0] 27
  have HX0 := Lib.hid hx0; have HB0 := Lib.hid hb0
  clear hx0 hb0
  refine (callsIn_wide (n := 0)).1 ?_
  refine callsIn_of_wp_marks Tryd.func32 rfl trivial ?_ rfl
  simp only [Tryd.ntmps32, List.size_toArray, List.length_cons, List.length_nil, Nat.reduceAdd, Nat.reduceSub, Array.replicate_succ, Array.replicate_zero, List.push_toArray, List.append_toArray, List.nil_append, List.cons_append]
  by_cases h120 : 120 < n
  · have h120i : (120 : Int) < n := by omega
    have hr : (w.alloc (.cells #[.int .i64 38] 27)).cell? ⟨w.heap.size, 0, none⟩ = some (.int .i64 38) := (Blk.new w #[.int .i64 38] 27).cell 0
    have hck : checkE l = 38 := by unfold checkE; rw [if_pos (by rw [← HN.out]; exact h120)]
    rw [hck]
    gi_wp2_with fail
    exact ⟨.int .i64 38, by simp [results, Tryd.func32, Tryd.f32, go_sem, hr], rfl, (Ext.refl No w).alloc _⟩
  · have h120i : decide ((120 : Int) < n) = false := by simp; omega
    gi_wp2_with fail
    refine ⟨trivial, rfl, (callsIn_wide.2 (parts_any l _)).mono ?_⟩
    rintro e w1 ⟨hE, bp, bs, bv, rfl, hp, hs, hv, hn1, hb1, hb2, hb3⟩
    dsimp only
    gi_wp2_with fail
    have hck : checkE l = if (partsL l).all partB then 0 else 38 := by unfold checkE; rw [if_neg (by rw [← HN.out]; exact h120)]
    have hszw := hE.size
    rw [World.size_alloc] at hszw hb1 hb2 hb3
    have hrb := HB0.out.ext hE (fun s => s)
    have hX1 := HX0.out.trans' hE
    have hlt := hs.lt; have hltp := hp.lt; have hltv := hv.lt
    have hseq := split1_seq l bp bs bv w1 hp hs hv HL.out hn1 (fun _ j => j = w.heap.size ∨ j = w1.heap.size ∨ j = w1.heap.size + 1) (fun W => by
      refine ⟨?_, ?_, ?_⟩ <;> omega)
    obtain ⟨rb, hrbe⟩ : ∃ rb, w.heap.size = rb := ⟨_, rfl⟩
    rw [hrbe] at hrb hseq hszw hb1 hb2 hb3 ⊢
    have HSEQ := Lib.hid hseq; have HRB := Lib.hid hrb; have HX1 := Lib.hid hX1; have HLT := Lib.hid (And.intro hrbe (And.intro hszw (And.intro hb1 hlt))); have HCK := Lib.hid hck
    clear hseq hrb hX1 hszw hb1 hb2 hb3 hlt hltp hltv hck hp hs hv hE hn1 hrbe HX0 HB0
    refine wpIn_rangeW (gf := 65) (lb := #[.pointer (some ⟨bp, 0, none⟩), .pointer (some ⟨bs, 0, none⟩), .pointer (some ⟨bv, 0, none⟩)]) rfl (enters_of Tryd.func65 (by kernel_rfl) rfl)
      (fun _ j => j = rb) (fun j => j = bs) (N := (partsL l).length) HSEQ.out ?hUp ?hFin ?hps ?hA ?hU0 ?hU1 ?hS0 ?hS1
      (fun k W => Ext (fun j => j = bs) w1 W ∧ Blk W rb #[.int .i64 0] 27 ∧ OkTo l k) (fun c k W => c = .ret ∧ Ext (fun j => j = bs ∨ j = rb) w1 W ∧ Blk W rb #[.int .i64 38] 27 ∧ BadP l) ?hI ?hIx ⟨Ext.refl _ _, HRB.out, rfl⟩
      (fun args => { tmps := #[.string (strB l), undef, .pointer (some ⟨rb, 0, none⟩), args.getD 0 undef, .string (strB l), .int .i64 n, .bool false, .string (strB l), .func (.func 65) #[] #[.pointer (some ⟨bp, 0, none⟩), .pointer (some ⟨bs, 0, none⟩), .pointer (some ⟨bv, 0, none⟩)], args.getD 0 undef, undef, undef, undef], defers := [] })
      ?assign ?body ?done ?stop
    case hUp => intro W o r k _ h; exact .inl h
    case hFin => intro A B _ _; trivial
    case hps => rintro k args W h; unfold HandedP at h; subst h; rfl
    case hA => rintro k args W r o h hl; exact h
    case hU0 => obtain ⟨h0, h1, h2, h3⟩ := HLT.out; intro W h; omega
    case hU1 => obtain ⟨h0, h1, h2, h3⟩ := HLT.out; intro W h; omega
    case hS0 => obtain ⟨h0, h1, h2, h3⟩ := HLT.out; intro h; omega
    case hS1 => obtain ⟨h0, h1, h2, h3⟩ := HLT.out; intro h; omega
    case hI =>
      obtain ⟨h0, h1, h2, h3⟩ := HLT.out
      rintro k A B ⟨hx, hb, ha⟩ hE
      exact ⟨hx.trans hE (fun _ _ s => s) (fun j hj s => s.elim id (fun s => by omega)), hb.extN hE (fun s => by omega), ha⟩
    case hIx =>
      obtain ⟨h0, h1, h2, h3⟩ := HLT.out
      rintro c k A B ⟨hc, hx, hb, ha⟩ hE
      exact ⟨hc, hx.trans hE (fun _ _ s => s) (fun j hj s => s.elim .inl (fun s => by omega)), hb.extN hE (fun s => by omega), ha⟩
    case assign =>
      rintro y k args W K h hK
      unfold HandedP at h
      subst h
      gi_wp2_with fail
      exact hK
    case body =>
      rintro y k args W hkN ⟨hx, hb, ha⟩ h hsz
      unfold HandedP at h
      subst h
      obtain ⟨h0, h1, h2, h3⟩ := HLT.out
      have hm := parts_get l k hkN
      have hstep := all_take_step (partsL l) [] partB k hkN
      unfold OkTo at ha
      rw [ha, Bool.true_and] at hstep
      have hno := all_false_of (partsL l) partB _ hm.1
      generalize (partsL l).getD k [] = s at *
      have HS := Lib.hid hstep; have HNO := Lib.hid hno; have HX := Lib.hid hx; have HB := Lib.hid hb; have HM := Lib.hid hm
      have hcb := hb.cell 0; have hfb := hb.free 0
      simp only [List.getElem?_toArray, List.getElem?_cons_zero] at hcb
      clear hx hb ha hm hstep hno h0 h1 h2 h3
      gi_wp2_with fail
      refine ⟨trivial, rfl, (CallsIn.inRound _ (callsIn_wide.2 (part_any s W (by have := HM.out.2; have := HL.out; omega)))).mono ?_⟩
      rintro e w2 ⟨rfl, hd⟩
      have hcb2 := hcb; rw [← hd.cell] at hcb2
      have hfb2 := hfb; rw [← hd.frozen] at hfb2
      have HD := Lib.hid hd
      generalize partB s = t at *
      clear hcb hfb hd
      dsimp only
      cases t
      · gi_wp2_with fail
        have hE : Ext (fun j => j = rb) W (w2.setCell ⟨rb, 0, none⟩ (.int .i64 38)) := (HD.out.ext _).setCell _ _ (fun _ => rfl)
        exact ⟨hE, rfl, HX.out.trans hE (fun _ _ s => .inl s) (fun _ _ s => .inr s), (HB.out.ext (HD.out.ext No) (fun s => s)).set 0 (.int .i64 38), HNO.out trivial⟩
      · gi_wp2_with fail
        exact ⟨HD.out.ext _, HX.out.trans (HD.out.ext No) (fun _ _ s => s) (fun _ _ s => s.elim), HB.out.ext (HD.out.ext No) (fun s => s), HS.out⟩
    case done =>
      rintro W ⟨hx, hb, ha⟩ _ hK
      unfold OkTo at ha
      rw [List.take_length] at ha
      have hcb := hb.cell 0; have hfb := hb.free 0
      simp only [List.getElem?_toArray, List.getElem?_cons_zero] at hcb
      have HX := Lib.hid hx; have HB := Lib.hid hb; have HA := Lib.hid ha; have HK := Lib.hid hK
      clear hx hb ha hK
      gi_wp2_with fail
      obtain ⟨h0, h1, h2, h3⟩ := HLT.out
      have hs : Ext (fun j => j = rb) W (W.setCell ⟨rb, 0, none⟩ (.int .i64 0)) := (Ext.refl _ W).setCell _ _ (fun _ => rfl)
      have hE : Ext (fun j => j = bs ∨ j = rb) w1 (W.setCell ⟨rb, 0, none⟩ (.int .i64 0)) := HX.out.trans hs (fun _ _ s => .inl s) (fun _ _ s => .inr s)
      have hb4 := HB.out.set 0 (.int .i64 0)
      have hK1 := (hs.block w1.heap.size (Array.getElem?_eq_some_iff.1 HK.out).1 (by omega)).trans HK.out
      generalize W.setCell ⟨rb, 0, none⟩ (.int .i64 0) = W4 at *
      refine ⟨by simp, .inl ⟨_, _, rfl, run_takeDeferred hK1, ?_⟩⟩
      have hxp : Ext (fun j => No j ∨ (j = w1.heap.size ∧ NC W4 j)) W4 (W4.putObj w1.heap.size (.deferred none)) := Ext.putObjN _ _ _ (NC.defs hK1)
      have hr := (hb4.extN hxp (fun h => h)).cell 0
      simp at hr
      have hE2 : Ext No w (W4.putObj w1.heap.size (.deferred none)) := (HX1.out.trans hE (fun _ _ s => s) (fun j hj s => by omega)).trans hxp (fun _ _ s => s) (fun j hj s => s.elim id (fun s => by have := HX1.out.size; omega))
      rw [HCK.out, HA.out]
      exact ⟨.int .i64 0, by simp [results, Tryd.func32, Tryd.f32, go_sem, hr], rfl, hE2⟩
    case stop =>
      rintro c k W4 hk ⟨rfl, hE, hb4, hbad⟩ _ hK1
      have HB4 := Lib.hid hb4; have HE := Lib.hid hE; have HK := Lib.hid hK1; have HBAD := Lib.hid hbad
      clear hb4 hE hK1 hbad
      gi_wp2_with fail
      refine ⟨by simp, .inl ⟨_, _, rfl, run_takeDeferred HK.out, ?_⟩⟩
      obtain ⟨h0, h1, h2, h3⟩ := HLT.out
      have hE := HE.out; have hb4 := HB4.out; have hK1 := HK.out
      have hxp : Ext (fun j => No j ∨ (j = w1.heap.size ∧ NC W4 j)) W4 (W4.putObj w1.heap.size (.deferred none)) := Ext.putObjN _ _ _ (NC.defs hK1)
      have hr := (hb4.extN hxp (fun h => h)).cell 0
      simp at hr
      have hE2 : Ext No w (W4.putObj w1.heap.size (.deferred none)) := (HX1.out.trans hE (fun _ _ s => s) (fun j hj s => by omega)).trans hxp (fun _ _ s => s) (fun j hj s => s.elim id (fun s => by have := HX1.out.size; omega))
      have hbad := HBAD.out
      unfold BadP at hbad
      rw [HCK.out, hbad]
      exact ⟨.int .i64 38, by simp [results, Tryd.func32, Tryd.f32, go_sem, hr], rfl, hE2⟩

end Go.Proofs.YtefabpgfhghpgaaDoor
end

section
/- Plain laws: rows of the call's own whose elements are of several cells. No program in sight. -/
namespace Go.My
open Go.RowKit

/-- the cells of element i -/
def elC (us : List Value) (size i : Nat) : List Value := (us.drop (i * size)).take size
theorem elC_left (us news : List Value) (size i n : Nat) (h : us.length = n * size) (hi : i < n) : elC (us ++ news) size i = elC us size i := by
  unfold elC
  have h1 : i * size + size ≤ us.length := by rw [h, ← Nat.succ_mul]; exact Nat.mul_le_mul_right _ hi
  rw [List.drop_append_of_le_length (by omega), List.take_append_of_le_length (by rw [List.length_drop]; omega)]
theorem elC_last (us news : List Value) (size n : Nat) (h : us.length = n * size) (hn : news.length = size) : elC (us ++ news) size n = news := by
  unfold elC
  rw [← h, List.drop_left, List.take_of_length_le (by omega)]
theorem elC_get (us : List Value) (size i j : Nat) (hj : j < size) : (elC us size i)[j]? = us[i * size + j]? := by
  unfold elC
  rw [List.getElem?_take, if_pos hj, List.getElem?_drop]

/-- a row of the call's own; E tells what an element's cells are -/
def OwnSeq {α : Type} (w : World) (base : Nat) (T : TypeId) (size : Nat) (E : World → α → List Value → Prop) (xs : List α) (v : Value) : Prop :=
  ∃ us, w.ownsRow base T size v xs.length us ∧ ∀ i x, xs[i]? = some x → E w x (elC us size i)
section
variable {α : Type} {w w' : World} {base size : Nat} {T : TypeId} {E : World → α → List Value → Prop} {xs : List α} {v : Value}
theorem OwnSeq.nil (w : World) (base : Nat) (T : TypeId) (size : Nat) (E : World → α → List Value → Prop) : OwnSeq w base T size E [] (.slice none 0 0) :=
  ⟨[], World.ownsRow_nil w base T size, fun i x hx => by simp at hx⟩
theorem OwnSeq.ext {S : Nat → Prop} (h : OwnSeq w base T size E xs v) (x : Ext S w w') (hs : ∀ k, v.ownBlock = some k → ¬ S k) (hE : ∀ a us, E w a us → E w' a us) : OwnSeq w' base T size E xs v := by
  obtain ⟨us, h1, h2⟩ := h
  exact ⟨us, own_ext h1 x hs, fun i a ha => hE _ _ (h2 i a ha)⟩
theorem OwnSeq.app {us news : List Value} {y : α} {v' : Value} (h1 : w.ownsRow base T size v xs.length us) (h2 : ∀ i x, xs[i]? = some x → E w x (elC us size i)) (hn : news.length = size) (hy : E w' y news) (hE : ∀ a us, E w a us → E w' a us)
    (h3 : w'.ownsRow base T size v' (xs.length + 1) (us ++ news)) : OwnSeq w' base T size E (xs ++ [y]) v' := by
  refine ⟨us ++ news, by rw [List.length_append]; exact h3, fun i x hx => ?_⟩
  by_cases hi : i < xs.length
  · rw [List.getElem?_append_left hi] at hx
    rw [elC_left us news size i xs.length h1.1 hi]
    exact hE _ _ (h2 i x hx)
  · rw [List.getElem?_append_right (by omega)] at hx
    have : i = xs.length := by
      rcases Nat.eq_zero_or_pos (i - xs.length) with h0 | h0
      · omega
      · rw [List.getElem?_eq_none (by simp; omega)] at hx; cases hx
    subst this
    simp at hx
    subst hx
    rw [elC_last us news size xs.length h1.1 hn]
    exact hy
theorem OwnSeq.len (h : OwnSeq w base T size E xs v) : ∃ a c, v = .slice a xs.length c := by
  obtain ⟨us, h1, -⟩ := h; exact own_form h1
theorem OwnSeq.lt (h : OwnSeq w base T size E xs v) : ∀ k, v.ownBlock = some k → base ≤ k ∧ k < w.heap.size := by
  obtain ⟨us, h1, -⟩ := h; exact World.ownsRow.lt h1
theorem own_blkN {B n j : Nat} {us : List Value} (h : w.ownsRow B T size v n us) (hj : v.ownBlock = some j) : ∃ cs, Blk w j cs T := by
  rcases h.2 with ⟨rfl, _⟩ | ⟨g, cap, cur, rfl, -, hg, -⟩
  · cases hj
  · have : g = j := Option.some.inj hj
    subst this; exact ⟨cur, hg⟩
theorem OwnSeq.blk {j : Nat} (h : OwnSeq w base T size E xs v) (hj : v.ownBlock = some j) : ∃ cs, Blk w j cs T := by
  obtain ⟨us, h1, -⟩ := h; exact own_blkN h1 hj
/-- an element's cells, read -/
theorem OwnSeq.get {a : Option Addr} {n c : Nat} (h : OwnSeq w base T size E xs (.slice a n c)) (i : Nat) (x : α) (hx : xs[i]? = some x) :
    ∃ b us, a = some ⟨b, 0, none⟩ ∧ E w x us ∧ ∀ j, j < size → us[j]? = w.cell? ⟨b, i * size + j, none⟩ := by
  obtain ⟨us, h1, h2⟩ := h
  have hi : i < xs.length := by
    rcases Nat.lt_or_ge i xs.length with h | h
    · exact h
    · rw [List.getElem?_eq_none h] at hx; cases hx
  refine ?_
  rcases h1.2 with ⟨-, h0⟩ | ⟨g, cap, cur, he, -, hg, -, -, hsz, htk⟩
  · omega
  · simp only [Value.slice.injEq] at he
    obtain ⟨rfl, rfl, rfl⟩ := he
    refine ⟨g, _, rfl, h2 i x hx, fun j hj => ?_⟩
    rw [elC_get us size i j hj]
    have hb : Blk w g cur T := hg
    rw [hb.cell, ← htk, List.getElem?_take]
    have h4 : i * size + j < xs.length * size := by
      have : i * size + size ≤ xs.length * size := by rw [← Nat.succ_mul]; exact Nat.mul_le_mul_right _ hi
      omega
    rw [if_pos h4]
    simp
end
/-- append of one element of several cells -/
theorem wpList_appS {P : Program} {ops : Array Oper} {rest : List Oper} {o : Oper} {a : Act} {Q : Exit → Act → World → Prop} (w : World) (us : List Value) (size : Nat) (hsz : 0 < size) (hgd : o.guard = none) (s x : Operand) (t : TypeId)
    (ho : o.op = .call { callee := .builtin .append, args := #[s, x], argTypes := #[t, t] }) (base : Nat) (e : TypeId) (z : Value) (bytes : Nat)
    (hinfo : (P.info? e).map (fun i => (i.zero, i.size, i.bytes)) = some (some z, size, bytes)) (ht : P.underlying t = some (.slice e)) (hzs : z.cells.size = size)
    (v : Value) (n : Nat) (xs : List Value) (hs : a.eval s = v) (hown : w.ownsRow base e size v n xs) (b : Nat) (T : TypeId) (hx : a.eval x = .slice (some ⟨b, 0, none⟩) 1 1) (hb : Blk w b us.toArray T) (hl : us.length = size) (h1 : ∀ u ∈ us, u.oneCell' = true)
    (h63 : n + 1 ≤ 9223372036854775807) (hbytes : (n + 1) * bytes ≤ 140737488355328) (hbase : base ≤ w.heap.size)
    (h : ∀ v' w', w'.ownsRow base e size v' (n + 1) (xs ++ us) → w.grownBy w' v.ownBlock → (v'.ownBlock = v.ownBlock ∨ v'.ownBlock = some w.heap.size) → wpList P ops Q rest (a.put o.dst v') w') : wpList P ops Q (o :: rest) a w := by
  obtain ⟨i0, hi, hz0, hz1, hz2⟩ : ∃ i, P.info? e = some i ∧ i.zero = some z ∧ i.size = size ∧ i.bytes = bytes := by
    cases hi : P.info? e with
    | none => rw [hi] at hinfo; cases hinfo
    | some i => rw [hi] at hinfo; simp at hinfo; exact ⟨i, rfl, hinfo.1, hinfo.2.1, hinfo.2.2⟩
  refine wpList_append_own_at w hgd s x t ho base e i0 z size bytes ht hi hz0 hz1 hz2 hzs hsz v n xs hs hown ⟨b, 0, none⟩ 1 1 us hx (by omega) ?_ h1 (by unfold maxLen; omega) hbytes hbase fun v' w' h2 h3 _ h4 => h v' w' h2 h3 h4
  intro j y hj
  rw [addr_add, Nat.zero_add, hb.cell]
  simpa using hj
/-- append of a row, as one step of a region that draws its order -/
theorem step_appN {P : Program} {ops : Array Oper} {o : Oper} {a : Act} {K : Act → World → Prop} {Q : Exit → Act → World → Prop} {E : Prop} (w : World) (hgd : o.guard = none) (s x : Operand) (t : TypeId)
    (ho : o.op = .call { callee := .builtin .append, args := #[s, x], argTypes := #[t, t] }) (base : Nat) (e : TypeId) (z : Value) (bytes : Nat)
    (hinfo : (P.info? e).map (fun i => (i.zero, i.size, i.bytes)) = some (some z, 1, bytes)) (ht : P.underlying t = some (.slice e)) (hzs : z.cells.size = 1)
    (v : Value) (n : Nat) (xs : List Value) (hs : a.eval s = v) (hown : w.ownsRow base e 1 v n xs) (ad : Addr) (m c : Nat) (f : Nat → Value) (hx : a.eval x = .slice (some ad) m c) (hrow : IsRow w f m (.slice (some ad) m c)) (h1 : ∀ i, i < m → (f i).oneCell' = true)
    (h63 : n + m ≤ 9223372036854775807) (hbytes : (n + m) * bytes ≤ 140737488355328) (hbase : base ≤ w.heap.size)
    (h : ∀ v' w', w'.ownsRow base e 1 v' (n + m) (xs ++ (List.range m).map f) → w.grownBy w' v.ownBlock → K (a.put o.dst v') w') : if Region.wanted o (yielded ops a.tmps) = true then Oper.wp P o a w K Q else E := by
  have hw : Region.wanted o (yielded ops a.tmps) = true := by simp [Region.wanted, hgd]
  rw [if_pos hw]
  obtain ⟨i0, hi, hz0, hz1, hz2⟩ := info_parts hinfo
  refine wp_append_own w s x t ho base e i0 z 1 bytes ht hi hz0 hz1 hz2 hzs (by decide) v n xs hs hown ad m c ((List.range m).map f) hx (by simp) hrow.news ?_ (by unfold maxLen; omega) hbytes hbase fun v' w' h2 h3 _ => h v' w' h2 h3
  intro u hu
  simp only [List.mem_map, List.mem_range] at hu
  obtain ⟨i, hi, rfl⟩ := hu
  exact h1 i hi
/-- rows behind rows -/
theorem OwnBs.appL {w w' : World} {u8 sb : TypeId} {base : Nat} {ls cs : List (List UInt8)} {v v' : Value} {xs ys : List Value} (ht : u8 ≠ sb) (h1 : w.ownsRow base sb 1 v ls.length xs) (h2 : ∀ i, i < ls.length → OwnB w u8 base (ls.getD i []) (xs.getD i undef))
    (hx : ∀ i, i < cs.length → OwnB w u8 base (cs.getD i []) (ys.getD i undef)) (h3 : w'.ownsRow base sb 1 v' (ls.length + cs.length) (xs ++ ys)) (g : w.grownBy w' v.ownBlock) : OwnBs w' u8 sb base (ls ++ cs) v' := by
  have hl : xs.length = ls.length := by have := h1.1; omega
  have kept : ∀ {l : List UInt8} {y : Value}, OwnB w u8 base l y → OwnB w' u8 base l y := fun h => World.ownsRow.kept h g (own_ne_own h h1 ht)
  refine ⟨xs ++ ys, by rw [List.length_append]; exact h3, fun i hi => ?_⟩
  rw [List.length_append] at hi
  by_cases hi' : i < ls.length
  · have e1 : (ls ++ cs).getD i [] = ls.getD i [] := by simp [List.getD_eq_getElem?_getD, List.getElem?_append_left hi']
    have e2 : (xs ++ ys).getD i undef = xs.getD i undef := by simp [List.getD_eq_getElem?_getD, List.getElem?_append_left (show i < xs.length by omega)]
    rw [e1, e2]; exact kept (h2 i hi')
  · have e1 : (ls ++ cs).getD i [] = cs.getD (i - ls.length) [] := by simp [List.getD_eq_getElem?_getD, List.getElem?_append_right (show ls.length ≤ i by omega)]
    have e2 : (xs ++ ys).getD i undef = ys.getD (i - ls.length) undef := by simp [List.getD_eq_getElem?_getD, List.getElem?_append_right (show xs.length ≤ i by omega), hl]
    rw [e1, e2]; exact kept (hx _ (by omega))
/-- cells stored one behind the other -/
def putAll (w : World) (b : Nat) : Nat → List Value → World
  | _, [] => w
  | i, v :: vs => putAll (w.setCell ⟨b, i, none⟩ v) b (i + 1) vs
theorem putAll_ext (b : Nat) : ∀ (vs : List Value) (w : World) (i : Nat), Ext (fun j => j = b) w (putAll w b i vs) := by
  intro vs
  induction vs with
  | nil => intro w i; exact Ext.refl _ w
  | cons v vs ih => intro w i; exact ((Ext.refl (fun j => j = b) w).setCell ⟨b, i, none⟩ v (fun _ => rfl)).trans' (ih _ _)
theorem putAll_blk (b : Nat) (T : TypeId) : ∀ (vs : List Value) (w : World) (us ws : List Value), Blk w b (us ++ ws).toArray T → ws.length = vs.length → Blk (putAll w b us.length vs) b (us ++ vs).toArray T := by
  intro vs
  induction vs with
  | nil => intro w us ws h hl; have : ws = [] := List.length_eq_zero_iff.1 hl; subst this; exact h
  | cons v vs ih =>
    intro w us ws h hl
    cases ws with
    | nil => cases hl
    | cons x ws =>
      have h1 := h.set us.length v
      have e : (us ++ x :: ws).toArray.setIfInBounds us.length v = ((us ++ [v]) ++ ws).toArray := by simp
      rw [e] at h1
      have h2 := ih (w.setCell ⟨b, us.length, none⟩ v) (us ++ [v]) ws h1 (by simpa using hl)
      rw [List.length_append, List.append_assoc] at h2
      exact h2
theorem putAll_all {w : World} {b : Nat} {T : TypeId} {cs : Array Value} (h : Blk w b cs T) (vs : List Value) (hl : cs.size = vs.length) : Blk (putAll w b 0 vs) b vs.toArray T := by
  have := putAll_blk b T vs w [] cs.toList (by simpa using h) (by simpa using hl)
  simpa using this
end Go.My
end
