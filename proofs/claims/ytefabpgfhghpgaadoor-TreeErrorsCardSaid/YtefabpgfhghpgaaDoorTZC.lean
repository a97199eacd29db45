/-
  JOINED (3): the head of a drawn region; the contracts of the package seal; nodes in memory; the contracts of Node.check and tree.Check.
-/
import Derived.Test.YtefabpgfhghpgaaDoorTZB
import Derived.StillTail
import Derived.Deep.MidRow
import Derived.Deep.WholeRow
import Derived.ChangeKeysEq
import Derived.Deep.QuietTactic
import Derived.BigQuiet
set_option linter.unusedVariables false
set_option linter.unusedSimpArgs false

section
/- A region that draws its order and whose operations only add memory: each operation told once, in the order of the text. No program in sight. -/
namespace Go.My
open Go.RowKit

section
variable {P : Program}
/-- the temporary that operation j fills -/
def slotOf (ops : Array Oper) (j : Nat) : Nat := ((ops[j]?).bind (·.dst)).getD 0
/-- the region's form: each operation fills a temporary of its own, is unguarded, and waits for earlier ones alone -/
def monoForm (ops : Array Oper) (n : Nat) : Bool :=
  (List.range ops.size).all fun i => match ops[i]? with
    | none => false
    | some o => o.guard.isNone && (match o.dst with | none => false | some d => decide (d < n)) &&
        (List.range ops.size).all (fun j => j == i || slotOf ops j != slotOf ops i) && o.after.all (fun e => !Region.binds .any e || decide (e.on < i))

theorem monoForm_spec {ops : Array Oper} {n i : Nat} {o : Oper} (h : monoForm ops n = true) (ho : ops[i]? = some o) :
    o.guard = none ∧ (∃ d, o.dst = some d ∧ d < n ∧ d = slotOf ops i) ∧ (∀ j, j < ops.size → j ≠ i → slotOf ops j ≠ slotOf ops i) ∧ (∀ e ∈ o.after, Region.binds .any e = true → e.on < i) := by
  have hi : i < ops.size := (Array.getElem?_eq_some_iff.1 ho).1
  unfold monoForm at h
  rw [List.all_eq_true] at h
  have h1 := h i (List.mem_range.2 hi)
  simp only [ho, Bool.and_eq_true] at h1
  obtain ⟨⟨⟨h2, h3⟩, h4⟩, h5⟩ := h1
  refine ⟨by simpa using h2, ?_, ?_, ?_⟩
  · cases hd : o.dst with
    | none => rw [hd] at h3; cases h3
    | some d => rw [hd] at h3; exact ⟨d, rfl, by simpa using h3, by simp [slotOf, ho, hd]⟩
  · intro j hj hne
    rw [List.all_eq_true] at h4
    have := h4 j (List.mem_range.2 hj)
    simp only [Bool.or_eq_true, beq_iff_eq, bne_iff_ne] at this
    rcases this with h | h
    · exact absurd h hne
    · exact h
  · intro e he hb
    have := Array.all_eq_true_iff_forall_mem.1 h5 e he
    simpa [hb] using this

/-- how the region stands: the memory that was there is as it was; what is done has told its value -/
structure MonoSt (S : Nat → Prop) (ops : Array Oper) (w0 : World) (a0 : Act) (V : Nat → Value → World → Prop) (listed : Array Bool) (a : Act) (w : World) : Prop where
  ext : Ext S w0 w
  defers : a.defers = a0.defers
  size : a.tmps.size = a0.tmps.size
  same : ∀ t, (∀ j, j < ops.size → slotOf ops j ≠ t) → a.tmps.getD t undef = a0.tmps.getD t undef
  vals : ∀ i, i < ops.size → listed.getD i false = true → V i (a.tmps.getD (slotOf ops i) undef) w

/-- what an operation owes -/
def MonoStep (P : Program) (S : Nat → Prop) (ops : Array Oper) (w0 : World) (a0 : Act) (V : Nat → Value → World → Prop) (Q : Exit → Act → World → Prop) (i : Nat) (o : Oper) : Prop :=
  ∀ a w, Ext S w0 w → (∀ t, ((List.range ops.size).all fun j => slotOf ops j != t) = true → a.tmps.getD t undef = a0.tmps.getD t undef) →
    (∀ j, (o.after.any fun e => Region.binds .any e && e.on == j) = true → V j (a.tmps.getD (slotOf ops j) undef) w) →
    ∀ K : Act → World → Prop, (∀ v w', Ext S w w' → V i v w' → K (a.put o.dst v) w') → o.wp P a w K Q
theorem slots_all {ops : Array Oper} {t : Nat} (h : ((List.range ops.size).all fun j => slotOf ops j != t) = true) : ∀ j, j < ops.size → slotOf ops j ≠ t := by
  intro j hj
  rw [List.all_eq_true] at h
  simpa using h j (List.mem_range.2 hj)
/-- an act, written out -/
theorem act_lit {a : Act} {n : Nat} {ds : List Deferred} (hs : a.tmps.size = n) (hd : a.defers = ds) : a = ⟨((List.range n).map fun t => a.tmps.getD t undef).toArray, ds⟩ := by
  obtain ⟨tmps, d⟩ := a
  simp only at hs hd
  subst hd; subst hs
  congr 1
  apply Array.ext
  · simp
  · intro i h1 h2
    simp [h1]

def MonoSteps (P : Program) (S : Nat → Prop) (ops : Array Oper) (w0 : World) (a0 : Act) (V : Nat → Value → World → Prop) (Q : Exit → Act → World → Prop) : Nat → List Oper → Prop
  | _, [] => True
  | i, o :: os => MonoStep P S ops w0 a0 V Q i o ∧ MonoSteps P S ops w0 a0 V Q (i + 1) os
theorem MonoSteps.get {S : Nat → Prop} {ops : Array Oper} {w0 : World} {a0 : Act} {V : Nat → Value → World → Prop} {Q : Exit → Act → World → Prop} : ∀ (os : List Oper) (i : Nat), MonoSteps P S ops w0 a0 V Q i os → ∀ j o, os[j]? = some o → MonoStep P S ops w0 a0 V Q (i + j) o := by
  intro os
  induction os with
  | nil => intro i _ j o h; simp at h
  | cons x os ih =>
    intro i h j o hj
    cases j with
    | zero => simp at hj; subst hj; exact h.1
    | succ j => rw [show i + (j + 1) = (i + 1) + j by omega]; exact ih (i + 1) h.2 j o (by simpa using hj)

theorem getD_put {a : Act} {d t : Nat} {v : Value} (h : d < a.tmps.size) : (a.put (some d) v).tmps.getD t undef = if t = d then v else a.tmps.getD t undef := by
  simp only [Act.put]
  by_cases e : t = d
  · subst e; simp [h]
  · rw [if_neg e]
    simp [Array.getElem?_setIfInBounds_ne (Ne.symm e)]

theorem countP_lt {listed : Array Bool} {i : Nat} (h : listed.getD i true = false) : ((listed.setIfInBounds i true).toList.countP (fun b => !b)) + 1 = listed.toList.countP (fun b => !b) := by
  have hi : i < listed.size := by
    rcases Nat.lt_or_ge i listed.size with h' | h'
    · exact h'
    · simp [Array.getElem?_eq_none h'] at h
  have hv : listed.toList[i]'(by simpa using hi) = false := by simpa [hi] using h
  rw [Array.toList_setIfInBounds, List.countP_set (by simpa using hi)]
  have hpos : 0 < listed.toList.countP (fun b => !b) := List.countP_pos_iff.2 ⟨false, by rw [← hv]; exact List.getElem_mem _, rfl⟩
  have hv2 : listed[i] = false := by simpa using hv
  simp [hv2]
  have : 0 < listed.toList.countP (fun b => !b) := hpos
  rw [← Array.countP_toList]
  omega

theorem wpAny_mono {S : Nat → Prop} {ops : Array Oper} {w0 : World} {a0 : Act} {V : Nat → Value → World → Prop} {Q : Exit → Act → World → Prop} (hform : monoForm ops a0.tmps.size = true)
    (hV : ∀ i v w w', V i v w → Ext S w w' → V i v w') (hstep : MonoSteps P S ops w0 a0 V Q 0 ops.toList)
    (hend : ∀ a w, Ext S w0 w → a.defers = a0.defers → a.tmps.size = a0.tmps.size → (∀ t, (∀ j, j < ops.size → slotOf ops j ≠ t) → a.tmps.getD t undef = a0.tmps.getD t undef) → (∀ i, i < ops.size → V i (a.tmps.getD (slotOf ops i) undef) w) → Q .normal a w) :
    ∀ (fuel : Nat) (listed : Array Bool) (a : Act) (w : World), MonoSt S ops w0 a0 V listed a w → listed.size = ops.size → listed.toList.countP (fun b => !b) ≤ fuel → wpAny P .any ops Q fuel listed a w := by
  have hdone : ∀ listed : Array Bool, listed.size = ops.size → Region.ready .any ops listed = [] → ∀ i, i < ops.size → listed.getD i false = true := by
    intro listed hsz hr i
    induction i using Nat.strongRecOn with
    | _ i ih =>
      intro hi
      by_cases hl : listed.getD i false = true
      · exact hl
      · exfalso
        have hlt : listed.getD i true = false := by
          have h1 : i < listed.size := by omega
          have h2 : listed.getD i false = false := by simpa using hl
          simpa [h1] using h2
        obtain ⟨o, ho⟩ : ∃ o, ops[i]? = some o := ⟨ops[i], by simp [hi]⟩
        have hm : i ∈ Region.ready .any ops listed := by
          rw [mem_ready]
          exact ⟨hlt, o, ho, fun e he hb => by
            have hlt' := (monoForm_spec hform ho).2.2.2 e he hb
            exact ih e.on hlt' (by omega)⟩
        rw [hr] at hm; cases hm
  intro fuel
  induction fuel with
  | zero =>
    intro listed a w h hsz hc
    have hall : ∀ i, i < ops.size → listed.getD i false = true := by
      intro i hi
      have h0 : listed.toList.countP (fun b => !b) = 0 := by omega
      rw [List.countP_eq_zero] at h0
      have h1 : i < listed.size := by omega
      have := h0 (listed[i]) (by simp)
      simpa [h1] using this
    refine ⟨?_, hend a w h.ext h.defers h.size h.same (fun i hi => h.vals i hi (hall i hi))⟩
    cases hr : Region.ready .any ops listed with
    | nil => rfl
    | cons i is =>
      have hm : i ∈ Region.ready .any ops listed := by rw [hr]; exact List.mem_cons_self ..
      obtain ⟨h1, o, ho, -⟩ := mem_ready.1 hm
      have hi : i < ops.size := (Array.getElem?_eq_some_iff.1 ho).1
      have h2 := hall i hi
      have h3 : i < listed.size := by omega
      simp [h3] at h1 h2
      rw [h1] at h2; cases h2
  | succ fuel ih =>
    intro listed a w h hsz hc
    refine ⟨fun hr => hend a w h.ext h.defers h.size h.same (fun i hi => h.vals i hi (hdone listed hsz hr i hi)), fun i hm => ?_⟩
    obtain ⟨hlt, o, ho, hdep⟩ := mem_ready.1 hm
    have hi : i < ops.size := (Array.getElem?_eq_some_iff.1 ho).1
    obtain ⟨hgd, ⟨d, hd, hdn, hds⟩, hother, hbefore⟩ := monoForm_spec hform ho
    have hst : MonoStep P S ops w0 a0 V Q i o := by
      have := MonoSteps.get ops.toList 0 hstep i o (by simpa using ho)
      rwa [Nat.zero_add] at this
    unfold wpOp
    rw [ho]
    have hw : Region.wanted o (yielded ops a.tmps) = true := by simp [Region.wanted, hgd]
    simp only [hw, if_true]
    refine .inl (hst a w h.ext (fun t ht => h.same t (slots_all ht)) (fun j hj => ?_) _ ?_)
    rotate_left
    · intro v w' hx hv
      rw [hd]
      have hda : d < a.tmps.size := by rw [h.size]; exact hdn
      refine ih _ _ _ ⟨h.ext.trans' hx, by simp [Act.put, h.defers], by simp [Act.put, h.size], fun t ht => ?_, fun j hj hl => ?_⟩ (by simp [hsz]) (by have := countP_lt hlt; omega)
      · rw [getD_put hda, if_neg (fun e => ht i hi (by rw [e, hds]))]
        exact h.same t ht
      · rw [getD_put hda]
        by_cases e : j = i
        · subst e; rw [if_pos hds.symm]; exact hv
        · rw [if_neg (fun e2 => hother j hj e (by rw [e2, hds]))]
          refine hV j _ w w' (h.vals j hj ?_) hx
          rw [getD_set_ne false (Ne.symm e)] at hl
          exact hl
    · obtain ⟨e, he, hb⟩ := Array.any_eq_true'.1 hj
      simp only [Bool.and_eq_true, beq_iff_eq] at hb
      obtain ⟨hb1, rfl⟩ := hb
      have h1 := hdep e he hb1
      exact h.vals e.on (by
        rcases Nat.lt_or_ge e.on listed.size with h' | h'
        · omega
        · simp [Array.getElem?_eq_none h'] at h1) h1

theorem wp_region_mono {ops : Array Oper} {id : Nat} {a : Act} {w : World} {Q : Exit → Act → World → Prop} (S : Nat → Prop) (V : Nat → Value → World → Prop) (hm : P.follows .mixedOrders = true) (hform : monoForm ops a.tmps.size = true)
    (hV : ∀ i v w w', V i v w → Ext S w w' → V i v w') (hstep : MonoSteps P S ops w.drew a V Q 0 ops.toList)
    (hend : ∀ a' w', Ext S w w' → a'.defers = a.defers → a'.tmps.size = a.tmps.size → (∀ t, ((List.range ops.size).all fun j => slotOf ops j != t) = true → a'.tmps.getD t undef = a.tmps.getD t undef) → (∀ i, i < ops.size → V i (a'.tmps.getD (slotOf ops i) undef) w') → Q .normal a' w') :
    (Code.region id ops true).wp P Q a w := by
  refine wp_region_any hm (wpAny_mono (w0 := w.drew) (a0 := a) hform hV hstep (fun a' w' hx hd hz hsm => hend a' w' ((Ext.refl S w).drew.trans' hx) hd hz (fun t ht => hsm t (slots_all ht))) _ _ _ _ ⟨Ext.refl S _, rfl, rfl, fun _ _ => rfl, fun i hi hl => ?_⟩ (by simp) ?_)
  · have h0 : (Array.replicate ops.size false).getD i false = false := by simp [Array.getElem?_replicate, hi]
    rw [h0] at hl; cases hl
  · exact Nat.le_trans List.countP_le_length (by simp)
/-- the head of a region: each operation fills a temporary of its own and is unguarded -/
def headForm (ops : Array Oper) (h n : Nat) : Bool :=
  (List.range h).all fun i => match ops[i]? with
    | none => false
    | some o => o.guard.isNone && (match o.dst with | none => false | some d => decide (d < n)) && (List.range h).all (fun j => j == i || slotOf ops j != slotOf ops i) && o.after.all (fun e => !Region.binds .any e || decide (e.on < i))
theorem headForm_spec {ops : Array Oper} {h n i : Nat} {o : Oper} (hf : headForm ops h n = true) (hi : i < h) (ho : ops[i]? = some o) :
    o.guard = none ∧ (∃ d, o.dst = some d ∧ d < n ∧ d = slotOf ops i) ∧ (∀ j, j < h → j ≠ i → slotOf ops j ≠ slotOf ops i) ∧ (∀ e ∈ o.after, Region.binds .any e = true → e.on < i) := by
  unfold headForm at hf
  rw [List.all_eq_true] at hf
  have h1 := hf i (List.mem_range.2 hi)
  simp only [ho, Bool.and_eq_true] at h1
  obtain ⟨⟨⟨h2, h3⟩, h4⟩, h5⟩ := h1
  refine ⟨by simpa using h2, ?_, ?_, ?_⟩
  · cases hd : o.dst with
    | none => rw [hd] at h3; cases h3
    | some d => rw [hd] at h3; exact ⟨d, rfl, by simpa using h3, by simp [slotOf, ho, hd]⟩
  · intro j hj hne
    rw [List.all_eq_true] at h4
    have := h4 j (List.mem_range.2 hj)
    simp only [Bool.or_eq_true, beq_iff_eq, bne_iff_ne] at this
    rcases this with h | h
    · exact absurd h hne
    · exact h
  · intro e he hb
    have := Array.all_eq_true_iff_forall_mem.1 h5 e he
    simpa [hb] using this
structure HeadSt (S : Nat → Prop) (ops : Array Oper) (h : Nat) (w0 : World) (a0 : Act) (V : Nat → Value → World → Prop) (listed : Array Bool) (a : Act) (w : World) : Prop where
  ext : Ext S w0 w
  defers : a.defers = a0.defers
  size : a.tmps.size = a0.tmps.size
  same : ∀ t, ((List.range h).all fun j => slotOf ops j != t) = true → a.tmps.getD t undef = a0.tmps.getD t undef
  vals : ∀ i, i < h → listed.getD i false = true → V i (a.tmps.getD (slotOf ops i) undef) w
def HeadStep (P : Program) (S : Nat → Prop) (ops : Array Oper) (h : Nat) (w0 : World) (a0 : Act) (V : Nat → Value → World → Prop) (Q : Exit → Act → World → Prop) (i : Nat) (o : Oper) : Prop :=
  ∀ a w, Ext S w0 w → (∀ t, ((List.range h).all fun j => slotOf ops j != t) = true → a.tmps.getD t undef = a0.tmps.getD t undef) →
    (∀ j, (decide (j < h) && o.after.any fun e => Region.binds .any e && e.on == j) = true → V j (a.tmps.getD (slotOf ops j) undef) w) →
    ∀ K : Act → World → Prop, (∀ v w', Ext S w w' → V i v w' → K (a.put o.dst v) w') → o.wp P a w K Q
def HeadSteps (P : Program) (S : Nat → Prop) (ops : Array Oper) (h : Nat) (w0 : World) (a0 : Act) (V : Nat → Value → World → Prop) (Q : Exit → Act → World → Prop) : Nat → List Oper → Prop
  | _, [] => True
  | i, o :: os => HeadStep P S ops h w0 a0 V Q i o ∧ HeadSteps P S ops h w0 a0 V Q (i + 1) os
theorem HeadSteps.get {S : Nat → Prop} {ops : Array Oper} {h : Nat} {w0 : World} {a0 : Act} {V : Nat → Value → World → Prop} {Q : Exit → Act → World → Prop} : ∀ (os : List Oper) (i : Nat), HeadSteps P S ops h w0 a0 V Q i os → ∀ j o, os[j]? = some o → HeadStep P S ops h w0 a0 V Q (i + j) o := by
  intro os
  induction os with
  | nil => intro i _ j o h; simp at h
  | cons x os ih =>
    intro i hh j o hj
    cases j with
    | zero => simp at hj; subst hj; exact hh.1
    | succ j => rw [show i + (j + 1) = (i + 1) + j by omega]; exact ih (i + 1) hh.2 j o (by simpa using hj)
theorem HeadSteps.nil {S : Nat → Prop} {ops : Array Oper} {h : Nat} {w0 : World} {a0 : Act} {V : Nat → Value → World → Prop} {Q : Exit → Act → World → Prop} {i : Nat} : HeadSteps P S ops h w0 a0 V Q i [] := trivial
theorem HeadSteps.cons {S : Nat → Prop} {ops : Array Oper} {h : Nat} {w0 : World} {a0 : Act} {V : Nat → Value → World → Prop} {Q : Exit → Act → World → Prop} {i : Nat} {o : Oper} {os : List Oper} (h1 : HeadStep P S ops h w0 a0 V Q i o) (h2 : HeadSteps P S ops h w0 a0 V Q (i + 1) os) : HeadSteps P S ops h w0 a0 V Q i (o :: os) := ⟨h1, h2⟩
/-- the head is done, the tail is not -/
def headDone (h m : Nat) : Array Bool := ((List.range m).map fun i => decide (i < h)).toArray
theorem headDone_eq {ops : Array Oper} {h : Nat} {listed : Array Bool} (inv : HeadInv .any ops h listed) (hall : ∀ i, i < h → i < ops.size → listed.getD i false = true) : listed = headDone h ops.size := by
  apply Array.ext
  · simp [headDone, inv.size]
  · intro i h1 h2
    have hi : i < ops.size := by rw [← inv.size]; exact h1
    simp only [headDone, List.getElem_toArray, List.getElem_map, List.getElem_range]
    by_cases hh : i < h
    · have := hall i hh hi
      simpa [h1, hh] using this
    · have := inv.tail i (by omega) hi
      simpa [h1, hh] using this

theorem wpAny_headM {S : Nat → Prop} {l : List Oper} {h : Nat} {w0 : World} {a0 : Act} {V : Nat → Value → World → Prop} {Q : Exit → Act → World → Prop} (hform : headForm l.toArray h a0.tmps.size = true)
    (hs : Region.sinkB .any l.toArray h = true) (hc : Region.chainB .any l.toArray h = true) (hlt : h < l.length) (hq : Region.seqB .any l.toArray (l.length - h) h (headDone h l.length) = true)
    (hV : ∀ i v w w', V i v w → Ext S w w' → V i v w') (hstep : HeadSteps P S l.toArray h w0 a0 V Q 0 (l.take h))
    (hend : ∀ a w, Ext S w0 w → a.defers = a0.defers → a.tmps.size = a0.tmps.size → (∀ t, ((List.range h).all fun j => slotOf l.toArray j != t) = true → a.tmps.getD t undef = a0.tmps.getD t undef) → (∀ i, i < h → V i (a.tmps.getD (slotOf l.toArray i) undef) w) → wpList P l.toArray Q (l.drop h) a w) :
    ∀ (f : Nat) (listed : Array Bool) (a : Act) (w : World), HeadSt S l.toArray h w0 a0 V listed a w → HeadInv .any l.toArray h listed → listed.toList.countP (fun b => !b) = f + (l.length - h) → wpAny P .any l.toArray Q (f + (l.length - h)) listed a w := by
  have hsz : l.toArray.size = l.length := by simp
  -- how many of the tail are not done
  have hcnt : (headDone h l.length).toList.countP (fun b => !b) = l.length - h := by
    simp only [headDone, List.countP_map]
    have e : ∀ m, h ≤ m → (List.range m).countP ((fun b => !b) ∘ fun i => decide (i < h)) = m - h := by
      intro m hm
      induction m with
      | zero => simp
      | succ m ih =>
        rw [List.range_succ, List.countP_append]
        by_cases hmh : h ≤ m
        · rw [ih hmh]
          have : ¬ m < h := by omega
          simp [this]; omega
        · have e1 : m + 1 = h := by omega
          have : (List.range m).countP ((fun b => !b) ∘ fun i => decide (i < h)) = 0 := by
            rw [List.countP_eq_zero]
            intro x hx
            have := List.mem_range.1 hx
            simp; omega
          rw [this]
          have : m < h := by omega
          simp [this]; omega
    exact e l.length (by omega)
  intro f
  induction f with
  | zero =>
    intro listed a w st inv hcn
    have hall : ∀ i, i < h → i < l.toArray.size → listed.getD i false = true := by
      intro i hi hi2
      cases hv : listed.getD i false with
      | true => rfl
      | false =>
        exfalso
        have hil : i < listed.size := by rw [inv.size]; exact hi2
        have hpos : ∀ (L : List Bool) (k : Nat), k < h → h ≤ L.length → L[k]? = some false → (∀ t, h ≤ t → t < L.length → L[t]? = some false) → L.length - h < L.countP (fun b => !b) := by
          intro L k hk hL hkf ht
          have e1 : L = L.take h ++ L.drop h := (List.take_append_drop h L).symm
          rw [e1, List.countP_append]
          have c2 : (L.drop h).countP (fun b => !b) = L.length - h := by
            rw [List.countP_eq_length.2, List.length_drop]
            intro b hb
            obtain ⟨j, hj, rfl⟩ := List.getElem_of_mem hb
            rw [List.length_drop] at hj
            have := ht (h + j) (by omega) (by omega)
            rw [List.getElem_drop]
            rw [List.getElem?_eq_getElem (by omega)] at this
            simpa using this
          have c1 : 0 < (L.take h).countP (fun b => !b) := by
            rw [List.countP_pos_iff]
            refine ⟨false, ?_, rfl⟩
            rw [List.mem_iff_getElem?]
            exact ⟨k, by rw [List.getElem?_take, if_pos hk]; exact hkf⟩
          rw [← e1, c2]; omega
        have := hpos listed.toList i hi (by simp [inv.size]; omega) (by
          have : listed[i] = false := by simpa [hil] using hv
          simp [hil, this]) (fun t ht1 ht2 => by
          have ht3 : t < l.toArray.size := by rw [← inv.size]; simpa using ht2
          have := inv.tail t ht1 ht3
          have ht4 : t < listed.size := by simpa using ht2
          have h5 : listed[t] = false := by simpa [ht4] using this
          simp [ht4, h5])
        have hl : listed.toList.length = l.length := by simp [inv.size]
        rw [hl] at this
        omega
    have e := headDone_eq inv hall
    rw [hsz] at e
    rw [Nat.zero_add]
    have hdl : (l.drop h).length = l.length - h := by simp
    have := wpAny_of_seq (P := P) (ops := l.toArray) (md := .any) (Q' := Q) (l.drop h) h listed a w (fun j => by simp) (by rw [hdl, e]; exact hq)
      (hend a w st.ext st.defers st.size st.same (fun i hi => st.vals i hi (hall i hi (by rw [hsz]; omega))))
    rw [hdl] at this
    exact this
  | succ f ih =>
    intro listed a w st inv hcn
    -- some operation of the head is not done
    obtain ⟨i0, hi0, hi0f⟩ : ∃ i, i < h ∧ listed.getD i true = false := by
      by_cases hex : ∃ i, i < h ∧ listed.getD i true = false
      · exact hex
      · exfalso
        have hall : ∀ i, i < h → i < l.toArray.size → listed.getD i false = true := by
          intro i hi hi2
          have hil : i < listed.size := by rw [inv.size]; exact hi2
          cases hv : listed.getD i false with
          | true => rfl
          | false => exact absurd ⟨i, hi, getD_in hil hv⟩ hex
        have e := headDone_eq inv hall
        rw [hsz] at e
        rw [e, hcnt] at hcn
        omega
    have hntail := tail_waits hs hc (by rw [hsz]; exact hlt) inv _ i0 rfl hi0 hi0f
    rw [show f + 1 + (l.length - h) = (f + (l.length - h)) + 1 by omega]
    refine ⟨fun hr => ?_, fun i hm => ?_⟩
    · exfalso
      -- the least operation that is not done may come up
      have hleast : ∀ i, i < h → listed.getD i true = false → ∃ j, j ∈ Region.ready .any l.toArray listed := by
        intro i
        induction i using Nat.strongRecOn with
        | _ i ihi =>
          intro hi hf
          obtain ⟨o, ho⟩ : ∃ o, l.toArray[i]? = some o := ⟨l[i]'(by omega), by simp⟩
          have hsp := headForm_spec hform hi ho
          by_cases hall : ∀ e ∈ o.after, Region.binds .any e = true → listed.getD e.on false = true
          · exact ⟨i, mem_ready.2 ⟨hf, o, ho, hall⟩⟩
          · simp only [Classical.not_forall] at hall
            obtain ⟨e, he, hb, hl⟩ := hall
            have hon := hsp.2.2.2 e he hb
            refine ihi e.on hon (by omega) (getD_in (by rw [inv.size, hsz]; omega) (by simpa using hl))
      obtain ⟨j, hj⟩ := hleast i0 hi0 hi0f
      rw [hr] at hj; cases hj
    · have hih : i < h := by
        rcases Nat.lt_or_ge i h with h' | h'
        · exact h'
        · exact absurd hm (hntail i h')
      obtain ⟨hun, o, ho, hdep⟩ := mem_ready.1 hm
      obtain ⟨hgd, ⟨d, hd, hdn, hds⟩, hother, -⟩ := headForm_spec hform hih ho
      have hst : HeadStep P S l.toArray h w0 a0 V Q i o := by
        have := HeadSteps.get (l.take h) 0 hstep i o (by rw [List.getElem?_take, if_pos hih]; simpa using ho)
        rwa [Nat.zero_add] at this
      unfold wpOp
      rw [ho]
      have hw : Region.wanted o (yielded l.toArray a.tmps) = true := by simp [Region.wanted, hgd]
      simp only [hw, if_true]
      refine .inl (hst a w st.ext st.same (fun j hj => ?_) _ ?_)
      · simp only [Bool.and_eq_true, decide_eq_true_eq] at hj
        obtain ⟨hjh, hj⟩ := hj
        obtain ⟨e, he, hb⟩ := Array.any_eq_true'.1 hj
        simp only [Bool.and_eq_true, beq_iff_eq] at hb
        obtain ⟨hb1, rfl⟩ := hb
        exact st.vals e.on hjh (hdep e he hb1)
      · intro v w' hx hv
        rw [hd]
        have hda : d < a.tmps.size := by rw [st.size]; exact hdn
        refine ih _ _ _ ⟨st.ext.trans' hx, by simp [Act.put, st.defers], by simp [Act.put, st.size], fun t ht => ?_, fun j hj hl => ?_⟩ (inv.set hm hih) (by have := countP_lt hun; omega)
        · rw [getD_put hda, if_neg (fun e => by
            rw [List.all_eq_true] at ht
            have := ht i (List.mem_range.2 hih)
            simp only [bne_iff_ne] at this
            exact this (by rw [← hds, e]))]
          exact st.same t ht
        · rw [getD_put hda]
          by_cases e : j = i
          · subst e; rw [if_pos hds.symm]; exact hv
          · rw [if_neg (fun e2 => hother j hj e (by rw [e2, hds]))]
            refine hV j _ w w' (st.vals j hj ?_) hx
            rw [getD_set_ne false (Ne.symm e)] at hl
            exact hl
theorem wp_region_head {l : List Oper} {id : Nat} {a : Act} {w : World} {Q : Exit → Act → World → Prop} (h : Nat) (S : Nat → Prop) (V : Nat → Value → World → Prop) (hm : P.follows .mixedOrders = true)
    (hform : headForm l.toArray h a.tmps.size = true)
    (hs : (Region.sinkB .any l.toArray h && Region.chainB .any l.toArray h && decide (h < l.length) && Region.seqB .any l.toArray (l.length - h) h (headDone h l.length)) = true)
    (hV : ∀ i v w w', V i v w → Ext S w w' → V i v w') (hstep : HeadSteps P S l.toArray h w.drew a V Q 0 (l.take h))
    (hend : ∀ a' w', Ext S w w' → a'.defers = a.defers → a'.tmps.size = a.tmps.size → (∀ t, ((List.range h).all fun j => slotOf l.toArray j != t) = true → a'.tmps.getD t undef = a.tmps.getD t undef) → (∀ i, i < h → V i (a'.tmps.getD (slotOf l.toArray i) undef) w') → wpList P l.toArray Q (l.drop h) a' w') :
    (Code.region id l.toArray true).wp P Q a w := by
  simp only [Bool.and_eq_true, decide_eq_true_eq] at hs
  obtain ⟨⟨⟨h1, h2⟩, h3⟩, h4⟩ := hs
  refine wp_region_any hm ?_
  have hsz : l.toArray.size = h + (l.length - h) := by simp; omega
  rw [hsz]
  have hrep : ∀ i, (Array.replicate l.toArray.size false).getD i false = false := fun i => getD_replicate_false _ _
  have := wpAny_headM (w0 := w.drew) (a0 := a) hform h1 h2 h3 h4 hV hstep (fun a' w' hx => hend a' w' ((Ext.refl S w).drew.trans' hx)) h (Array.replicate l.toArray.size false) a w.drew
    ⟨Ext.refl S _, rfl, rfl, fun _ _ => rfl, fun i _ hl => by rw [hrep] at hl; cases hl⟩
    ⟨by simp, fun j oj _ hl => absurd hl (by rw [hrep]; decide), fun t _ ht => getD_in (by simpa using ht) (hrep t)⟩
    (by
      rw [Array.toList_replicate, List.countP_replicate]
      simp; omega)
  rw [hsz] at this
  exact this
end
end Go.My
end

section
/- The head of a region that draws its order and whose operations only add memory and may be guarded: each operation told once. No program in sight. Printed by wip/mkmonog.py. -/
namespace Go.My
open Go.RowKit

section
variable {P : Program}
/-- the head of a region: each operation fills a temporary of its own; a guarded one waits for its guard; D tells which are done -/
def headFormG (ops : Array Oper) (h n : Nat) (D : Nat → Bool) : Bool :=
  (List.range h).all fun i => match ops[i]? with
    | none => false
    | some o => (match o.guard with | none => D i | some gb => decide (gb.1 < h) && o.after.any (fun e => Region.binds .any e && e.on == gb.1)) && (match o.dst with | none => false | some d => decide (d < n)) && (List.range h).all (fun j => j == i || slotOf ops j != slotOf ops i) && o.after.all (fun e => !Region.binds .any e || decide (e.on < i))
theorem headFormG_spec {ops : Array Oper} {h n i : Nat} {o : Oper} {D : Nat → Bool} (hf : headFormG ops h n D = true) (hi : i < h) (ho : ops[i]? = some o) :
    (o.guard = none ∧ D i = true ∨ ∃ g b, o.guard = some (g, b) ∧ g < h ∧ ∃ e ∈ o.after, Region.binds .any e = true ∧ e.on = g) ∧ (∃ d, o.dst = some d ∧ d < n ∧ d = slotOf ops i) ∧ (∀ j, j < h → j ≠ i → slotOf ops j ≠ slotOf ops i) ∧ (∀ e ∈ o.after, Region.binds .any e = true → e.on < i) := by
  unfold headFormG at hf
  rw [List.all_eq_true] at hf
  have h1 := hf i (List.mem_range.2 hi)
  simp only [ho, Bool.and_eq_true] at h1
  obtain ⟨⟨⟨h2, h3⟩, h4⟩, h5⟩ := h1
  refine ⟨?_, ?_, ?_, ?_⟩
  · cases hg : o.guard with
    | none => rw [hg] at h2; exact .inl ⟨rfl, h2⟩
    | some gb =>
      obtain ⟨g, b⟩ := gb
      rw [hg] at h2
      simp only [Bool.and_eq_true, decide_eq_true_eq] at h2
      obtain ⟨e, he, hb⟩ := Array.any_eq_true'.1 h2.2
      simp only [Bool.and_eq_true, beq_iff_eq] at hb
      exact .inr ⟨g, b, rfl, h2.1, e, he, hb.1, hb.2⟩
  · cases hd : o.dst with
    | none => rw [hd] at h3; cases h3
    | some d => rw [hd] at h3; exact ⟨d, rfl, by simpa using h3, by simp [slotOf, ho, hd]⟩
  · intro j hj hne
    rw [List.all_eq_true] at h4
    have := h4 j (List.mem_range.2 hj)
    simp only [Bool.or_eq_true, beq_iff_eq, bne_iff_ne] at this
    rcases this with h | h
    · exact absurd h hne
    · exact h
  · intro e he hb
    have := Array.all_eq_true_iff_forall_mem.1 h5 e he
    simpa [hb] using this
/-- what a guard has told -/
def GuardOk (V : Nat → Value → World → Prop) (d : Bool) (o : Oper) : Prop :=
  match o.guard with
  | none => True
  | some gb => ∀ v w, V gb.1 v w → v = .bool (if d then gb.2 else !gb.2)
theorem yielded_of {ops : Array Oper} {tmps : Array Value} {g d : Nat} {o : Oper} {c : Bool} (ho : ops[g]? = some o) (hd : o.dst = some d) (h : tmps.getD (slotOf ops g) undef = .bool c) : yielded ops tmps g = some c := by
  have hs : slotOf ops g = d := by simp [slotOf, ho, hd]
  rw [hs] at h
  unfold yielded
  rw [ho, Option.bind_some, hd, Option.bind_some]
  rw [Array.getD_eq_getD_getElem?] at h
  cases ht : tmps[d]? with
  | none => rw [ht] at h; cases h
  | some v => rw [ht] at h; simp only [Option.getD_some] at h; subst h; rfl
def HeadStepsG (P : Program) (D : Nat → Bool) (S : Nat → Prop) (ops : Array Oper) (h : Nat) (w0 : World) (a0 : Act) (V : Nat → Value → World → Prop) (Q : Exit → Act → World → Prop) : Nat → List Oper → Prop
  | _, [] => True
  | i, o :: os => ((D i = true → HeadStep P S ops h w0 a0 V Q i o) ∧ (D i = false → ∀ w, V i undef w) ∧ GuardOk V (D i) o) ∧ HeadStepsG P D S ops h w0 a0 V Q (i + 1) os
theorem HeadStepsG.get {D : Nat → Bool} {S : Nat → Prop} {ops : Array Oper} {h : Nat} {w0 : World} {a0 : Act} {V : Nat → Value → World → Prop} {Q : Exit → Act → World → Prop} : ∀ (os : List Oper) (i : Nat), HeadStepsG P D S ops h w0 a0 V Q i os → ∀ j o, os[j]? = some o → (D (i + j) = true → HeadStep P S ops h w0 a0 V Q (i + j) o) ∧ (D (i + j) = false → ∀ w, V (i + j) undef w) ∧ GuardOk V (D (i + j)) o := by
  intro os
  induction os with
  | nil => intro i _ j o h; simp at h
  | cons x os ih =>
    intro i hh j o hj
    cases j with
    | zero => simp at hj; subst hj; exact hh.1
    | succ j => rw [show i + (j + 1) = (i + 1) + j by omega]; exact ih (i + 1) hh.2 j o (by simpa using hj)
theorem HeadStepsG.nil {D : Nat → Bool} {S : Nat → Prop} {ops : Array Oper} {h : Nat} {w0 : World} {a0 : Act} {V : Nat → Value → World → Prop} {Q : Exit → Act → World → Prop} {i : Nat} : HeadStepsG P D S ops h w0 a0 V Q i [] := trivial
/-- an operation that is done -/
theorem HeadStepsG.cons {D : Nat → Bool} {S : Nat → Prop} {ops : Array Oper} {h : Nat} {w0 : World} {a0 : Act} {V : Nat → Value → World → Prop} {Q : Exit → Act → World → Prop} {i : Nat} {o : Oper} {os : List Oper} (hD : D i = true) (hG : GuardOk V true o) (h1 : HeadStep P S ops h w0 a0 V Q i o) (h2 : HeadStepsG P D S ops h w0 a0 V Q (i + 1) os) : HeadStepsG P D S ops h w0 a0 V Q i (o :: os) :=
  ⟨⟨fun _ => h1, fun h => (by rw [hD] at h; cases h), by rw [hD]; exact hG⟩, h2⟩
/-- an operation that its guard leaves out -/
theorem HeadStepsG.skip {D : Nat → Bool} {S : Nat → Prop} {ops : Array Oper} {h : Nat} {w0 : World} {a0 : Act} {V : Nat → Value → World → Prop} {Q : Exit → Act → World → Prop} {i : Nat} {o : Oper} {os : List Oper} (hD : D i = false) (hG : GuardOk V false o) (h1 : ∀ w, V i undef w) (h2 : HeadStepsG P D S ops h w0 a0 V Q (i + 1) os) : HeadStepsG P D S ops h w0 a0 V Q i (o :: os) :=
  ⟨⟨fun h => (by rw [hD] at h; cases h), fun _ => h1, by rw [hD]; exact hG⟩, h2⟩
theorem wpAny_headMG {D : Nat → Bool} {S : Nat → Prop} {l : List Oper} {h : Nat} {w0 : World} {a0 : Act} {V : Nat → Value → World → Prop} {Q : Exit → Act → World → Prop} (hform : headFormG l.toArray h a0.tmps.size D = true)
    (hs : Region.sinkB .any l.toArray h = true) (hc : Region.chainB .any l.toArray h = true) (hlt : h < l.length) (hq : Region.seqB .any l.toArray (l.length - h) h (headDone h l.length) = true)
    (hV : ∀ i v w w', V i v w → Ext S w w' → V i v w') (hstep : HeadStepsG P D S l.toArray h w0 a0 V Q 0 (l.take h))
    (hend : ∀ a w, Ext S w0 w → a.defers = a0.defers → a.tmps.size = a0.tmps.size → (∀ t, ((List.range h).all fun j => slotOf l.toArray j != t) = true → a.tmps.getD t undef = a0.tmps.getD t undef) → (∀ i, i < h → V i (a.tmps.getD (slotOf l.toArray i) undef) w) → wpList P l.toArray Q (l.drop h) a w) :
    ∀ (f : Nat) (listed : Array Bool) (a : Act) (w : World), HeadSt S l.toArray h w0 a0 V listed a w → HeadInv .any l.toArray h listed → listed.toList.countP (fun b => !b) = f + (l.length - h) → wpAny P .any l.toArray Q (f + (l.length - h)) listed a w := by
  have hsz : l.toArray.size = l.length := by simp
  -- how many of the tail are not done
  have hcnt : (headDone h l.length).toList.countP (fun b => !b) = l.length - h := by
    simp only [headDone, List.countP_map]
    have e : ∀ m, h ≤ m → (List.range m).countP ((fun b => !b) ∘ fun i => decide (i < h)) = m - h := by
      intro m hm
      induction m with
      | zero => simp
      | succ m ih =>
        rw [List.range_succ, List.countP_append]
        by_cases hmh : h ≤ m
        · rw [ih hmh]
          have : ¬ m < h := by omega
          simp [this]; omega
        · have e1 : m + 1 = h := by omega
          have : (List.range m).countP ((fun b => !b) ∘ fun i => decide (i < h)) = 0 := by
            rw [List.countP_eq_zero]
            intro x hx
            have := List.mem_range.1 hx
            simp; omega
          rw [this]
          have : m < h := by omega
          simp [this]; omega
    exact e l.length (by omega)
  intro f
  induction f with
  | zero =>
    intro listed a w st inv hcn
    have hall : ∀ i, i < h → i < l.toArray.size → listed.getD i false = true := by
      intro i hi hi2
      cases hv : listed.getD i false with
      | true => rfl
      | false =>
        exfalso
        have hil : i < listed.size := by rw [inv.size]; exact hi2
        have hpos : ∀ (L : List Bool) (k : Nat), k < h → h ≤ L.length → L[k]? = some false → (∀ t, h ≤ t → t < L.length → L[t]? = some false) → L.length - h < L.countP (fun b => !b) := by
          intro L k hk hL hkf ht
          have e1 : L = L.take h ++ L.drop h := (List.take_append_drop h L).symm
          rw [e1, List.countP_append]
          have c2 : (L.drop h).countP (fun b => !b) = L.length - h := by
            rw [List.countP_eq_length.2, List.length_drop]
            intro b hb
            obtain ⟨j, hj, rfl⟩ := List.getElem_of_mem hb
            rw [List.length_drop] at hj
            have := ht (h + j) (by omega) (by omega)
            rw [List.getElem_drop]
            rw [List.getElem?_eq_getElem (by omega)] at this
            simpa using this
          have c1 : 0 < (L.take h).countP (fun b => !b) := by
            rw [List.countP_pos_iff]
            refine ⟨false, ?_, rfl⟩
            rw [List.mem_iff_getElem?]
            exact ⟨k, by rw [List.getElem?_take, if_pos hk]; exact hkf⟩
          rw [← e1, c2]; omega
        have := hpos listed.toList i hi (by simp [inv.size]; omega) (by
          have : listed[i] = false := by simpa [hil] using hv
          simp [hil, this]) (fun t ht1 ht2 => by
          have ht3 : t < l.toArray.size := by rw [← inv.size]; simpa using ht2
          have := inv.tail t ht1 ht3
          have ht4 : t < listed.size := by simpa using ht2
          have h5 : listed[t] = false := by simpa [ht4] using this
          simp [ht4, h5])
        have hl : listed.toList.length = l.length := by simp [inv.size]
        rw [hl] at this
        omega
    have e := headDone_eq inv hall
    rw [hsz] at e
    rw [Nat.zero_add]
    have hdl : (l.drop h).length = l.length - h := by simp
    have := wpAny_of_seq (P := P) (ops := l.toArray) (md := .any) (Q' := Q) (l.drop h) h listed a w (fun j => by simp) (by rw [hdl, e]; exact hq)
      (hend a w st.ext st.defers st.size st.same (fun i hi => st.vals i hi (hall i hi (by rw [hsz]; omega))))
    rw [hdl] at this
    exact this
  | succ f ih =>
    intro listed a w st inv hcn
    -- some operation of the head is not done
    obtain ⟨i0, hi0, hi0f⟩ : ∃ i, i < h ∧ listed.getD i true = false := by
      by_cases hex : ∃ i, i < h ∧ listed.getD i true = false
      · exact hex
      · exfalso
        have hall : ∀ i, i < h → i < l.toArray.size → listed.getD i false = true := by
          intro i hi hi2
          have hil : i < listed.size := by rw [inv.size]; exact hi2
          cases hv : listed.getD i false with
          | true => rfl
          | false => exact absurd ⟨i, hi, getD_in hil hv⟩ hex
        have e := headDone_eq inv hall
        rw [hsz] at e
        rw [e, hcnt] at hcn
        omega
    have hntail := tail_waits hs hc (by rw [hsz]; exact hlt) inv _ i0 rfl hi0 hi0f
    rw [show f + 1 + (l.length - h) = (f + (l.length - h)) + 1 by omega]
    refine ⟨fun hr => ?_, fun i hm => ?_⟩
    · exfalso
      -- the least operation that is not done may come up
      have hleast : ∀ i, i < h → listed.getD i true = false → ∃ j, j ∈ Region.ready .any l.toArray listed := by
        intro i
        induction i using Nat.strongRecOn with
        | _ i ihi =>
          intro hi hf
          obtain ⟨o, ho⟩ : ∃ o, l.toArray[i]? = some o := ⟨l[i]'(by omega), by simp⟩
          have hsp := headFormG_spec hform hi ho
          by_cases hall : ∀ e ∈ o.after, Region.binds .any e = true → listed.getD e.on false = true
          · exact ⟨i, mem_ready.2 ⟨hf, o, ho, hall⟩⟩
          · simp only [Classical.not_forall] at hall
            obtain ⟨e, he, hb, hl⟩ := hall
            have hon := hsp.2.2.2 e he hb
            refine ihi e.on hon (by omega) (getD_in (by rw [inv.size, hsz]; omega) (by simpa using hl))
      obtain ⟨j, hj⟩ := hleast i0 hi0 hi0f
      rw [hr] at hj; cases hj
    · have hih : i < h := by
        rcases Nat.lt_or_ge i h with h' | h'
        · exact h'
        · exact absurd hm (hntail i h')
      obtain ⟨hun, o, ho, hdep⟩ := mem_ready.1 hm
      obtain ⟨hgd, ⟨d, hd, hdn, hds⟩, hother, -⟩ := headFormG_spec hform hih ho
      have hst := HeadStepsG.get (l.take h) 0 hstep i o (by rw [List.getElem?_take, if_pos hih]; simpa using ho)
      rw [Nat.zero_add] at hst
      have hda : d < a.tmps.size := by rw [st.size]; exact hdn
      have hput : ∀ v w', Ext S w w' → V i v w' → wpAny P .any l.toArray Q (f + (l.length - h)) (listed.setIfInBounds i true) (a.put (some d) v) w' := by
        intro v w' hx hv
        refine ih _ _ _ ⟨st.ext.trans' hx, by simp [Act.put, st.defers], by simp [Act.put, st.size], fun t ht => ?_, fun j hj hl => ?_⟩ (inv.set hm hih) (by have := countP_lt hun; omega)
        · rw [getD_put hda, if_neg (fun e => by
            rw [List.all_eq_true] at ht
            have := ht i (List.mem_range.2 hih)
            simp only [bne_iff_ne] at this
            exact this (by rw [← hds, e]))]
          exact st.same t ht
        · rw [getD_put hda]
          by_cases e : j = i
          · subst e; rw [if_pos hds.symm]; exact hv
          · rw [if_neg (fun e2 => hother j hj e (by rw [e2, hds]))]
            refine hV j _ w w' (st.vals j hj ?_) hx
            rw [getD_set_ne false (Ne.symm e)] at hl
            exact hl
      have hw : Region.wanted o (yielded l.toArray a.tmps) = D i := by
        rcases hgd with ⟨hn, hD⟩ | ⟨g, b, hgb, hgh, e, he, hbe, heg⟩
        · simp [Region.wanted, hn, hD]
        · have hv := st.vals g hgh (by rw [← heg]; exact hdep e he hbe)
          have hok := hst.2.2
          unfold GuardOk at hok
          rw [hgb] at hok
          have hvv := hok _ _ hv
          obtain ⟨og, hog⟩ : ∃ og, l.toArray[g]? = some og := ⟨l[g]'(by omega), by simp⟩
          obtain ⟨-, ⟨dg, hdg, -, -⟩, -, -⟩ := headFormG_spec hform hgh hog
          have hy := yielded_of hog hdg hvv
          simp only [Region.wanted, hgb, hy]
          cases D i <;> cases b <;> rfl
      unfold wpOp
      rw [ho]
      simp only [hw]
      cases hDi : D i with
      | false =>
        simp only [Bool.false_eq_true, if_false]
        rw [hd]
        exact hput _ _ (Ext.refl _ _) (hst.2.1 hDi _)
      | true =>
      have hst := hst.1 hDi
      simp only [if_true]
      refine .inl (hst a w st.ext st.same (fun j hj => ?_) _ ?_)
      · simp only [Bool.and_eq_true, decide_eq_true_eq] at hj
        obtain ⟨hjh, hj⟩ := hj
        obtain ⟨e, he, hb⟩ := Array.any_eq_true'.1 hj
        simp only [Bool.and_eq_true, beq_iff_eq] at hb
        obtain ⟨hb1, rfl⟩ := hb
        exact st.vals e.on hjh (hdep e he hb1)
      · intro v w' hx hv
        rw [hd]
        exact hput v w' hx hv
theorem wp_region_headG {l : List Oper} {id : Nat} {a : Act} {w : World} {Q : Exit → Act → World → Prop} (h : Nat) (D : Nat → Bool) (S : Nat → Prop) (V : Nat → Value → World → Prop) (hm : P.follows .mixedOrders = true)
    (hform : headFormG l.toArray h a.tmps.size D = true)
    (hs : (Region.sinkB .any l.toArray h && Region.chainB .any l.toArray h && decide (h < l.length) && Region.seqB .any l.toArray (l.length - h) h (headDone h l.length)) = true)
    (hV : ∀ i v w w', V i v w → Ext S w w' → V i v w') (hstep : HeadStepsG P D S l.toArray h w.drew a V Q 0 (l.take h))
    (hend : ∀ a' w', Ext S w w' → a'.defers = a.defers → a'.tmps.size = a.tmps.size → (∀ t, ((List.range h).all fun j => slotOf l.toArray j != t) = true → a'.tmps.getD t undef = a.tmps.getD t undef) → (∀ i, i < h → V i (a'.tmps.getD (slotOf l.toArray i) undef) w') → wpList P l.toArray Q (l.drop h) a' w') :
    (Code.region id l.toArray true).wp P Q a w := by
  simp only [Bool.and_eq_true, decide_eq_true_eq] at hs
  obtain ⟨⟨⟨h1, h2⟩, h3⟩, h4⟩ := hs
  refine wp_region_any hm ?_
  have hsz : l.toArray.size = h + (l.length - h) := by simp; omega
  rw [hsz]
  have hrep : ∀ i, (Array.replicate l.toArray.size false).getD i false = false := fun i => getD_replicate_false _ _
  have := wpAny_headMG (w0 := w.drew) (a0 := a) hform h1 h2 h3 h4 hV hstep (fun a' w' hx => hend a' w' ((Ext.refl S w).drew.trans' hx)) h (Array.replicate l.toArray.size false) a w.drew
    ⟨Ext.refl S _, rfl, rfl, fun _ _ => rfl, fun i _ hl => by rw [hrep] at hl; cases hl⟩
    ⟨by simp, fun j oj _ hl => absurd hl (by rw [hrep]; decide), fun t _ ht => getD_in (by simpa using ht) (hrep t)⟩
    (by
      rw [Array.toList_replicate, List.countP_replicate]
      simp; omega)
  rw [hsz] at this
  exact this
end
end Go.My
end

section
/- The contract of seal.Sum (CRC-32C, bit by bit). -/
namespace Go.Proofs.YtefabpgfhghpgaaDoor
open Go.RowKit Go.My

/-- one bit of the sum -/
def crc1 (n : BitVec 32) : BitVec 32 := (n >>> 1) ^^^ (2197175160#32 &&& (-(n &&& 1#32)))
def crcK : Nat → BitVec 32 → BitVec 32
  | 0, n => n
  | k + 1, n => crc1 (crcK k n)
/-- one byte of the sum -/
def crcB (n : BitVec 32) (c : UInt8) : BitVec 32 := crcK 8 (n ^^^ BitVec.ofNat 32 c.toNat)
def crcL (l : List UInt8) (n : BitVec 32) : BitVec 32 := l.foldl crcB n
def sumW (l : List UInt8) : BitVec 32 := ~~~ (crcL l 4294967295#32)
theorem crcL_snoc (l : List UInt8) (c : UInt8) (n : BitVec 32) : crcL (l ++ [c]) n = crcB (crcL l n) c := by simp [crcL]
theorem crcL_append (l k : List UInt8) (n : BitVec 32) : crcL (l ++ k) n = crcL k (crcL l n) := by simp [crcL]
theorem w32_half (x : BitVec 32) : w32 x / (2 : Int) = w32 (x >>> 1) := by
  have := w32_shr x 1
  rw [Int.natCast_pow] at this
  exact this
theorem w32_byte (n : Nat) (h : n < 256) : (n : Int) = w32 (BitVec.ofNat 32 n) := w32_lit n (by omega)
theorem w32_one (x : BitVec 32) : bits .and .u32 (w32 x) 1 = w32 (x &&& 1#32) := w32_and_int x 1
theorem w32_neg (x : BitVec 32) : IntKind.u32.wrap (-(w32 x)) = w32 (-x) := by
  have h := w32_sub 0#32 x
  rw [show w32 0#32 = 0 by rw [w32_def]; rfl, Int.zero_sub] at h
  rw [BitVec.zero_sub] at h
  exact h
theorem w32_poly (x : BitVec 32) : bits .and .u32 2197175160 (w32 x) = w32 (2197175160#32 &&& x) := by
  rw [show (2197175160 : Int) = w32 2197175160#32 by rw [w32_def]; rfl, w32_and]
theorem w32_selfm (x : BitVec 32) : w32 x % (4294967296 : Int) = w32 x := by have := w32_bd x; omega
theorem w32_not (x : BitVec 32) : bits .xor .u32 IntKind.u32.max (w32 x) = w32 (~~~ x) := by
  rw [show IntKind.u32.max = w32 4294967295#32 by rw [w32_def]; rfl, w32_xor]
  exact congrArg w32 (BitVec.allOnes_xor (x := x))
attribute [local go_sem] w32_selfm w32_not w32_half w32_one w32_neg w32_poly w32_xor
set_option maxRecDepth 100000 in
set_option maxHeartbeats 2000000 in
theorem sum_any (l : List UInt8) (v : Value) (w : World) (hv : IsBytes w l v) :
    Calls Tryd.prog 42 #[v] w fun e w' => e = .returned (.int .u32 (w32 (sumW l))) ∧ w = w' := by
  obtain ⟨a, c, rfl, hc1, hc2, -⟩ := id hv
  obtain ⟨n, hn⟩ : ∃ n, n = l.length := ⟨_, rfl⟩
  rw [← hn] at hv hc1 ⊢
  have H := Lib.hid hv; have HN := Lib.hid hn
  clear hv hn
  go_enter Tryd.func42, Tryd.ntmps42
  go_wp2_with fail
  go_loopw [3, 8] (fun s i wr => ∃ k : Nat, i = .int .i64 k ∧ k ≤ n ∧ s = .int .u32 (w32 (crcL (l.take k) 4294967295#32)) ∧ wr = w) (fun _ i _ => n - (intOf i).toNat)
  case atStart => exact ⟨0, rfl, Nat.zero_le _, by rw [List.take_zero, crcL, List.foldl_nil, w32_def]; rfl, rfl⟩
  case round =>
    obtain ⟨k, rfl, hk, rfl, rfl⟩ := hrel
    by_cases hlt : k < n
    · have hltI : (k : Int) < n := by omega
      obtain ⟨b1, o1, rfl, e1⟩ := IsRow.get H.out k hlt
      unfold byt at e1
      have hsn : crcL (l.take (k + 1)) 4294967295#32 = crcB (crcL (l.take k) 4294967295#32) (l.getD k 0) := by
        rw [List.take_add_one, List.getElem?_eq_getElem (by rw [← HN.out]; exact hlt)]
        simp only [Option.toList_some, crcL_snoc]
        congr 1
        simp [List.getD_eq_getElem?_getD, List.getElem?_eq_getElem (show k < l.length by rw [← HN.out]; exact hlt)]
      generalize hs2 : crcL (l.take (k + 1)) 4294967295#32 = s2 at *
      have HS2 := Lib.hid hs2
      generalize crcL (l.take k) 4294967295#32 = s1 at *
      have hx := (l.getD k 0).toNat_lt
      have hx2 := w32_byte _ hx
      generalize l.getD k 0 = x at *
      unfold crcB at hsn
      have HSN := Lib.hid hsn
      rw [hx2] at e1
      generalize BitVec.ofNat 32 x.toNat = xb at *
      clear hsn hx hx2 hs2
      go_wp2_with fail
      go_loopw [3, 16] (fun s i wz => ∃ j : Nat, i = .int .i64 j ∧ j ≤ 8 ∧ s = .int .u32 (w32 (crcK j (s1 ^^^ xb))) ∧ wz = wr) (fun _ i _ => 8 - (intOf i).toNat)
      case atStart => exact ⟨0, rfl, Nat.zero_le _, rfl, rfl⟩
      case round =>
        obtain ⟨j, rfl, hj, rfl, rfl⟩ := hrel
        by_cases hlt8 : j < 8
        · have hlt8I : (j : Int) < 8 := by omega
          have hst : crcK (j + 1) (s1 ^^^ xb) = (crcK j (s1 ^^^ xb) >>> 1) ^^^ (2197175160#32 &&& (-(crcK j (s1 ^^^ xb) &&& 1#32))) := rfl
          generalize ht2 : crcK (j + 1) (s1 ^^^ xb) = t2 at *
          have HT2 := Lib.hid ht2
          generalize crcK j (s1 ^^^ xb) = t1 at *
          have HST := Lib.hid hst
          clear hst ht2
          go_wp2_with fail
          go_roundw
          case rel => exact ⟨j + 1, by go_num, by omega, by rw [HT2.out, HST.out, ← w32_xor, ← w32_half], by trivial⟩
          case measure => simp [intOf]; omega
        · have hj8 : j = 8 := by omega
          subst hj8
          rw [← HSN.out]
          go_wp2_with fail
          go_roundw
          case rel => exact ⟨k + 1, by go_num, by omega, by rw [HS2.out], by trivial⟩
          case measure => simp [intOf]; omega
    · have hkn : n = k := by omega
      subst hkn
      rw [HN.out, List.take_length]
      go_wp2_with fail
      go_ret
      exact ⟨rfl, rfl⟩
end Go.Proofs.YtefabpgfhghpgaaDoor
end

section
/- The contract of seal.Seal. -/
namespace Go.Proofs.YtefabpgfhghpgaaDoor
open Go.RowKit Go.My

/-- a kind, bytes, and their sum -/
def sealB (k : UInt8) (b : List UInt8) : List UInt8 := (k :: b) ++ numB (sumW (k :: b)).toNat 4
theorem sealB_length (k : UInt8) (b : List UInt8) : (sealB k b).length = b.length + 5 := by
  unfold sealB; rw [List.length_append, numB_length, List.length_cons]
/-- what a writer of this call's own does is seen in new memory alone -/
theorem wrote_new {w w1 w2 : World} {wb : Nat} {l : List UInt8} {v v' : Value} (E : Ext (fun j => wb ≤ j) w w1) (hW : WrT w1 wb wb l v) (ht : Wrote wb w1 w2 v v') : Ext (fun j => wb ≤ j) w w2 :=
  E.trans ht.ext (fun _ _ s => s) (fun j hj s => by
    rcases s with s | s
    · omega
    · exact (hW.own.lt j s).1)
theorem new_no {w w2 : World} {wb : Nat} (E : Ext (fun j => wb ≤ j) w w2) (h : w.heap.size ≤ wb) : Ext No w w2 := E.mono (fun j hj s => by omega)
theorem bytes_new {w w2 : World} {wb : Nat} {l : List UInt8} {v : Value} (E : Ext (fun j => wb ≤ j) w w2) (h : w.heap.size ≤ wb) (hv : IsBytes w l v) : IsBytes w2 l v :=
  hv.ext0 (new_no E h)
theorem bytes_one (w : World) (c : UInt8) (b : Nat) (h : w.cell? ⟨b, 0, none⟩ = some (.int .u8 (c.toNat : Int))) : IsBytes w [c] (.slice (some ⟨b, 0, none⟩) 1 1) :=
  ⟨_, 1, rfl, Nat.le_refl _, by decide, fun i hi => by
    have : i = 0 := by simp at hi; omega
    subst this
    exact ⟨b, 0, rfl, h⟩⟩

set_option maxRecDepth 100000 in
set_option maxHeartbeats 4000000 in
theorem seal_any (k : UInt8) (b : List UInt8) (a : Option Addr) (n c : Nat) (w : World) (hv : IsBytes w b (.slice a n c)) (hn : NilOk (.slice a n c)) (hl : b.length + 100 ≤ 1099511627776) :
    Calls Tryd.prog 22 #[.int .u8 (k.toNat : Int), .slice a n c] w fun e w' => ∃ x, e = .returned x ∧ OwnB w' 5 w.heap.size (sealB k b) x ∧ Ext No w w' := by
  have hbx := Blk.new w #[.slice none 0 0] 54
  have hx0 : Ext No w (w.alloc (.cells #[.slice none 0 0] 54)) := (Ext.refl No w).alloc _
  have hw0 : WrT (w.alloc (.cells #[.slice none 0 0] 54)) w.heap.size w.heap.size [] (.slice none 0 0) := ⟨hbx, ⟨rfl, .inl ⟨rfl, rfl⟩⟩⟩
  obtain ⟨wb, hwb⟩ : ∃ wb, w.heap.size = wb := ⟨_, rfl⟩
  obtain ⟨w0, hw0e⟩ : ∃ w0, w.alloc (.cells #[.slice none 0 0] 54) = w0 := ⟨_, rfl⟩
  rw [hw0e, hwb] at hw0
  rw [hw0e] at hx0
  have hz0 : w0.heap.size = wb + 1 := by rw [← hw0e, World.size_alloc, hwb]
  obtain ⟨w1, hw1e⟩ : ∃ w1, w0.alloc (.cells #[.int .u8 (k.toNat : Int)] 5) = w1 := ⟨_, rfl⟩
  have hx1 : Ext No w0 w1 := by rw [← hw1e]; exact (Ext.refl No w0).alloc _
  have hB1 : Blk w1 (wb + 1) #[.int .u8 (k.toNat : Int)] 5 := by rw [← hw1e, ← hz0]; exact Blk.new w0 _ _
  have hb1 : IsBytes w1 [k] (.slice (some ⟨wb + 1, 0, none⟩) 1 1) := bytes_one w1 k _ (hB1.cell 0)
  have hw1 : WrT w1 wb wb [] (.slice none 0 0) := ⟨hw0.box.ext hx1 (fun s => s), hw0.own.ext hx1 (fun _ _ s => s)⟩
  have HE1 := Lib.hid (show Ext (fun j => wb ≤ j) w w1 from (hx0.trans' hx1).mono (fun _ _ s => s.elim))
  have HW1 := Lib.hid hw1; have HB1 := Lib.hid hb1; have HV := Lib.hid hv; have HN := Lib.hid hn; have HL := Lib.hid hl; have HWB := Lib.hid hwb; have H0 := Lib.hid hw0e; have H1 := Lib.hid hw1e; have HZ0 := Lib.hid (show wb ≤ w1.heap.size by have := hx1.size; omega)
  clear hv hn hl hbx hx0 hw0 hwb hw0e hw1e hx1 hB1 hb1 hw1 hz0
  go_enter Tryd.func22, Tryd.ntmps22
  go_wp2_with fail
  rw [HWB.out, H0.out, H1.out]
  refine (raw_any [k] (some ⟨wb + 1, 0, none⟩) 1 1 wb wb [] (.slice none 0 0) w1 HW1.out HB1.out (NilOk.some _ _ _) (by simp) HZ0.out).mono ?_
  rintro e w2 ⟨rfl, v2, hw2, ht2⟩
  have HE2 := Lib.hid (wrote_new HE1.out HW1.out ht2); have HW2 := Lib.hid hw2
  clear hw2 ht2 HE1 HW1 HB1 HZ0 H1 H0
  dsimp only
  go_wp2_with fail
  refine (raw_any b a n c wb wb ([] ++ [k]) v2 w2 HW2.out (bytes_new HE2.out (Nat.le_of_eq HWB.out) HV.out) HN.out (by have := HL.out; simp; omega) (by have := HW2.out.box.lt; omega)).mono ?_
  rintro e w3 ⟨rfl, v3, hw3, ht3⟩
  rw [show ([] ++ [k]) ++ b = k :: b from rfl] at hw3
  have HE3 := Lib.hid (wrote_new HE2.out HW2.out ht3); have HW3 := Lib.hid hw3
  clear hw3 ht3 HE2 HW2
  dsimp only
  go_wp2_with fail
  refine (done_any wb wb (k :: b) v3 w3 HW3.out (by have := HL.out; rw [List.length_cons]; omega)).mono ?_
  rintro e w4 ⟨x4, rfl, ho4, hx4⟩
  have HE4 := Lib.hid (HE3.out.trans hx4 (fun _ _ s => s) (fun j hj s => s.elim)); have HW4 := Lib.hid (show WrT w4 wb wb (k :: b) v3 from ⟨HW3.out.box.ext hx4 (fun s => s), HW3.out.own.ext hx4 (fun _ _ s => s)⟩)
  have HO4 := Lib.hid ho4.bytes
  clear ho4 hx4 HE3 HW3
  dsimp only
  go_wp2_with fail
  refine (sum_any (k :: b) x4 w4 HO4.out).mono ?_
  rintro e w5 ⟨rfl, rfl⟩
  obtain ⟨m, hm, hm2⟩ : ∃ m : Nat, w32 (sumW (k :: b)) = (m : Int) ∧ m = (sumW (k :: b)).toNat := ⟨_, w32_def _, rfl⟩
  have hm3 : m < 4294967296 := by rw [hm2]; exact (sumW (k :: b)).isLt
  rw [hm]
  have HM := Lib.hid hm2
  clear hm hm2 HO4
  dsimp only
  go_wp2_with fail
  refine (num_any m 4 (by omega) (by decide) (by decide) wb wb (k :: b) v3 w4 HW4.out (by have := HL.out; rw [List.length_cons]; omega) (by have := HW4.out.box.lt; omega)).mono ?_
  rintro e w6 ⟨rfl, v6, hw6, ht6⟩
  have hs : k :: b ++ numB m 4 = sealB k b := by rw [HM.out]; rfl
  rw [hs] at hw6
  have HE6 := Lib.hid (wrote_new HE4.out HW4.out ht6); have HW6 := Lib.hid hw6
  clear hw6 ht6 HE4 HW4 hs HM
  dsimp only
  go_wp2_with fail
  refine (done_any wb wb (sealB k b) v6 w6 HW6.out (by have := HL.out; rw [sealB_length]; omega)).mono ?_
  rintro e w7 ⟨x7, rfl, ho7, hx7⟩
  have HO7 := Lib.hid ho7; have HX7 := Lib.hid hx7
  clear ho7 hx7
  dsimp only
  go_wp2_with fail
  go_ret
  have hsz := HE6.out.size
  exact ⟨x7, rfl, own_le HO7.out hsz, (new_no HE6.out (Nat.le_of_eq HWB.out)).trans' HX7.out⟩
end Go.Proofs.YtefabpgfhghpgaaDoor
end

section
/- The contract of seal.Unseal. Printed by wip/mkunseal.py. -/
namespace Go.Proofs.YtefabpgfhghpgaaDoor
open Go.RowKit Go.My

theorem Dr.extN {w w' : World} (h : Ext No w.drew w') : Ext No w w' := (Ext.refl No w).drew.trans' h
/-- what lies between the kind and the sum -/
def innerB (l : List UInt8) : List UInt8 := (l.take (l.length - 4)).drop 1
/-- the error's number of Unseal -/
def unsC (kd : UInt8) (l : List UInt8) : Int :=
  if l.length < 5 then 20 else if sealB (l.getD 0 0) (innerB l) = l then (if l.getD 0 0 = kd then 0 else 21) else 36
def UnsTold (kd : UInt8) (l : List UInt8) (w : World) (e : Ending) (w' : World) : Prop :=
  Ext No w w' ∧ ((unsC kd l = 0 ∧ ∃ x, e = .returned (.tuple #[x, .int .i64 0]) ∧ OwnB w' 5 w.heap.size (innerB l) x) ∨ (unsC kd l ≠ 0 ∧ e = .returned (.tuple #[.slice none 0 0, .int .i64 (unsC kd l)])))
def UnsV (kd x0 : UInt8) (S l : List UInt8) (bb o m c : Nat) (t : Bool) : Nat → Value → World → Prop
  | 0, v, w => v = .slice (some ⟨bb, o, none⟩) (m + 5) c
  | 1, v, w => v = .pointer (some ⟨bb, o, none⟩)
  | 2, v, w => v = .int .u8 (x0.toNat : Int)
  | 3, v, w => v = .slice (some ⟨bb, o, none⟩) (m + 1) c
  | 4, v, w => v = .slice (some ⟨bb, o + 1, none⟩) m (c - 1)
  | 5, v, w => ∃ a n c, v = .slice a n c ∧ IsBytes w S (.slice a n c)
  | 6, v, w => v = .string (strB S)
  | 7, v, w => v = .slice (some ⟨bb, o, none⟩) (m + 5) c
  | 8, v, w => v = .string (strB l)
  | 9, v, w => v = .bool (!t)
  | _, _, _ => True
theorem UnsV_ext (kd x0 : UInt8) (S l : List UInt8) (bb o m c : Nat) (t : Bool) : ∀ i v w w', UnsV kd x0 S l bb o m c t i v w → Ext No w w' → UnsV kd x0 S l bb o m c t i v w'
  | 0, _, _, _, h, _ => h
  | 1, _, _, _, h, _ => h
  | 2, _, _, _, h, _ => h
  | 3, _, _, _, h, _ => h
  | 4, _, _, _, h, _ => h
  | 5, _, _, _, h, x => let ⟨a, n, c, h1, h2⟩ := h; ⟨a, n, c, h1, h2.ext0 x⟩
  | 6, _, _, _, h, _ => h
  | 7, _, _, _, h, _ => h
  | 8, _, _, _, h, _ => h
  | 9, _, _, _, h, _ => h
  | _ + 10, _, _, _, _, _ => trivial

set_option maxRecDepth 100000 in
set_option maxHeartbeats 4000000 in
theorem unseal_any (kd : UInt8) (l : List UInt8) (v : Value) (w : World) (hv : IsBytes w l v) (hl : l.length + 100 ≤ 1099511627776) :
    Calls Tryd.prog 24 #[.int .u8 (kd.toNat : Int), v] w (UnsTold kd l w) := by
  obtain ⟨a, c, rfl, hc1, hc2, -⟩ := id hv
  obtain ⟨n, hn⟩ : ∃ n, n = l.length := ⟨_, rfl⟩
  have HU := Lib.hid (show unsC kd l = if n < 5 then 20 else if sealB (l.getD 0 0) (innerB l) = l then (if l.getD 0 0 = kd then 0 else 21) else 36 by rw [hn]; rfl)
  rw [← hn] at hv hc1 hl ⊢
  have HN := Lib.hid hn
  clear hn
  by_cases h5 : n < 5
  · have h5i : (n : Int) < 5 := by omega
    have HU5 := Lib.hid (show unsC kd l = 20 by rw [HU.out, if_pos h5])
    clear hv HU h5
    go_enter Tryd.func24, Tryd.ntmps24
    go_wp2_with fail
    go_ret2
    refine ⟨Ext.refl _ _, .inr ⟨by rw [HU5.out]; decide, ?_⟩⟩
    rw [HU5.out]; rfl
  obtain ⟨m, rfl⟩ : ∃ m, n = m + 5 := ⟨n - 5, by omega⟩
  have hu := HU.out
  rw [if_neg h5] at hu
  obtain ⟨bb, o, rfl, hcell⟩ := IsBytes.get hv 0 (by omega)
  have hin : IsBytes w (innerB l) (.slice (some ⟨bb, o + 1, none⟩) m (c - 1)) := by
    have h := (hv.take (m + 1) (by omega)).drop 1 (by omega)
    unfold innerB
    rw [← HN.out]
    exact h
  have hlin : (innerB l).length = m := hin.len.symm
  have h5i : decide ((m : Int) + 5 < 5) = false := by simp; omega
  have hmc : m + 1 ≤ c := by omega
  have h0m : (0 : Int) < (m : Int) + 5 := by omega
  have hm4 : (m : Int) + 1 ≤ c := by omega
  have hc0 : ¬ c = 1 := by omega
  have htk := fun wx => run_takeS (P := Tryd.prog) Tryd.underlying23 size8 (some ⟨bb, o, none⟩) .i64 (m + 1) (m + 5) c hmc wx
  have hdr : ∀ wx, (Instr.sliceAt 23 (.slice (some ⟨bb, o, none⟩) (m + 1) c) (some (.int .i64 1)) none none).run Tryd.prog wx = .ok (.slice (some ⟨bb, o + 1, none⟩) m (c - 1)) wx := fun wx => by
    have h := run_dropS (P := Tryd.prog) Tryd.underlying23 size8 (some ⟨bb, o, none⟩) .i64 1 (m + 1) c (by omega) wx
    rw [dropS_eq, dropA, if_neg hc0] at h
    exact h
  obtain ⟨x0, hx0⟩ : ∃ x, x = l.getD 0 0 := ⟨_, rfl⟩
  rw [Nat.add_zero] at hcell
  rw [← hx0] at hu hcell
  obtain ⟨S, hS⟩ : ∃ s, s = sealB x0 (innerB l) := ⟨_, rfl⟩
  have HQ : Hid (∀ W, Ext No w W → Calls Tryd.prog 22 #[.int .u8 (x0.toNat : Int), .slice (some ⟨bb, o + 1, none⟩) m (c - 1)] W fun e w' => ∃ x, e = .returned x ∧ OwnB w' 5 W.heap.size S x ∧ Ext No W w') := Lib.hid fun W hW => by
    rw [hS]
    exact seal_any x0 (innerB l) _ m (c - 1) W (hin.ext0 hW) (NilOk.some _ _ _) (by omega)
  have HCL : Hid (∀ W, Ext No w W → Calls Tryd.prog 43 #[.slice (some ⟨bb, o + 1, none⟩) m (c - 1)] W fun e w' => ∃ v', e = .returned v' ∧ OwnB w' 5 W.heap.size (innerB l) v' ∧ Ext No W w') := Lib.hid fun W hW =>
    sclone_any (innerB l) _ m (c - 1) W (hin.ext0 hW) (by omega)
  have HC : Hid (∀ W, Ext No w W → W.cell? ⟨bb, o, none⟩ = some (.int .u8 (x0.toNat : Int))) := Lib.hid fun W hW => by
    rw [hW.cell (World.block_lt_of_cell? w ⟨bb, o, none⟩ hcell) (fun s => s)]; exact hcell
  rw [← hS] at hu
  have heq := strB_eq S l
  have HV := Lib.hid hv; have HUU := Lib.hid hu
  obtain ⟨t, ht⟩ : ∃ t, t = decide (S = l) := ⟨_, rfl⟩
  rw [← ht] at heq
  have HT := Lib.hid ht
  clear hin hlin hS hx0 hv hu HU h5 ht hl
  go_enter Tryd.func24, Tryd.ntmps24
  go_wp2_with fail
  refine wp_region_head 10 No (UnsV kd x0 S l bb o m c t) (by kernel_rfl) (by kernel_rfl) (by kernel_rfl) (UnsV_ext kd x0 S l bb o m c t) (HeadSteps.cons ?_ (HeadSteps.cons ?_ (HeadSteps.cons ?_ (HeadSteps.cons ?_ (HeadSteps.cons ?_ (HeadSteps.cons ?_ (HeadSteps.cons ?_ (HeadSteps.cons ?_ (HeadSteps.cons ?_ (HeadSteps.cons ?_ HeadSteps.nil)))))))))) ?_
  · -- slot 16
    intro ac wk hx hsame hdep K hK
    have d1 : ac.tmps.getD 1 undef = .slice (some ⟨bb, o, none⟩) (m + 5) c := hsame 1 (by kernel_rfl)
    have e1 := d1
    rw [Array.getD_eq_getD_getElem?] at e1
    clear hsame hdep
    go_simp
    exact hK _ _ (Ext.refl _ wk) rfl
  · -- slot 17
    intro ac wk hx hsame hdep K hK
    have d16 : ac.tmps.getD 16 undef = .slice (some ⟨bb, o, none⟩) (m + 5) c := hdep 0 (by kernel_rfl)
    have e16 := d16
    rw [Array.getD_eq_getD_getElem?] at e16
    clear hsame hdep
    go_simp
    exact hK _ _ (Ext.refl _ wk) rfl
  · -- slot 18
    intro ac wk hx hsame hdep K hK
    have d17 : ac.tmps.getD 17 undef = .pointer (some ⟨bb, o, none⟩) := hdep 1 (by kernel_rfl)
    have e17 := d17
    rw [Array.getD_eq_getD_getElem?] at e17
    clear hsame hdep
    have hc := HC.out wk (Dr.extN hx)
    go_simp
    exact hK _ _ (Ext.refl _ wk) rfl
  · -- slot 19
    intro ac wk hx hsame hdep K hK
    have d6 : ac.tmps.getD 6 undef = .slice (some ⟨bb, o, none⟩) (m + 1) c := hsame 6 (by kernel_rfl)
    have e6 := d6
    rw [Array.getD_eq_getD_getElem?] at e6
    clear hsame hdep
    go_simp
    exact hK _ _ (Ext.refl _ wk) rfl
  · -- slot 20
    intro ac wk hx hsame hdep K hK
    have d19 : ac.tmps.getD 19 undef = .slice (some ⟨bb, o, none⟩) (m + 1) c := hdep 3 (by kernel_rfl)
    have e19 := d19
    rw [Array.getD_eq_getD_getElem?] at e19
    clear hsame hdep
    go_simp
    exact hK _ _ (Ext.refl _ wk) rfl
  · -- slot 21
    intro ac wk hx hsame hdep K hK
    have d18 : ac.tmps.getD 18 undef = .int .u8 (x0.toNat : Int) := hdep 2 (by kernel_rfl)
    have e18 := d18
    rw [Array.getD_eq_getD_getElem?] at e18
    have d20 : ac.tmps.getD 20 undef = .slice (some ⟨bb, o + 1, none⟩) m (c - 1) := hdep 4 (by kernel_rfl)
    have e20 := d20
    rw [Array.getD_eq_getD_getElem?] at e20
    clear hsame hdep
    go_simp
    refine (HQ.out wk (Dr.extN hx)).mono ?_
    rintro e w' ⟨y, rfl, ho, hx'⟩
    have hb := ho.bytes
    obtain ⟨a6, c6, rfl⟩ := own_form ho
    exact hK _ _ hx' ⟨_, _, _, rfl, hb⟩
  · -- slot 22
    intro ac wk hx hsame hdep K hK
    have p21 : ∃ a n c, (ac.tmps.getD 21 undef) = .slice a n c ∧ IsBytes wk S (.slice a n c) := hdep 5 (by kernel_rfl)
    obtain ⟨sa, sn, sc, d21, q21⟩ := p21
    have e21 := d21
    rw [Array.getD_eq_getD_getElem?] at e21
    clear hsame hdep
    have hcv := conv_bytes S sa sn sc wk q21
    go_simp
    exact hK _ _ (Ext.refl _ wk) rfl
  · -- slot 23
    intro ac wk hx hsame hdep K hK
    have d1 : ac.tmps.getD 1 undef = .slice (some ⟨bb, o, none⟩) (m + 5) c := hsame 1 (by kernel_rfl)
    have e1 := d1
    rw [Array.getD_eq_getD_getElem?] at e1
    clear hsame hdep
    go_simp
    exact hK _ _ (Ext.refl _ wk) rfl
  · -- slot 24
    intro ac wk hx hsame hdep K hK
    have d23 : ac.tmps.getD 23 undef = .slice (some ⟨bb, o, none⟩) (m + 5) c := hdep 7 (by kernel_rfl)
    have e23 := d23
    rw [Array.getD_eq_getD_getElem?] at e23
    clear hsame hdep
    have hcv := conv_bytes l _ _ _ wk (HV.out.ext0 (Dr.extN hx))
    go_simp
    exact hK _ _ (Ext.refl _ wk) rfl
  · -- slot 25
    intro ac wk hx hsame hdep K hK
    have d22 : ac.tmps.getD 22 undef = .string (strB S) := hdep 6 (by kernel_rfl)
    have e22 := d22
    rw [Array.getD_eq_getD_getElem?] at e22
    have d24 : ac.tmps.getD 24 undef = .string (strB l) := hdep 8 (by kernel_rfl)
    have e24 := d24
    rw [Array.getD_eq_getD_getElem?] at e24
    clear hsame hdep
    go_simp
    exact hK _ _ (Ext.refl _ wk) rfl
  · intro ac wk hx hdf hsz hsame hvals
    have f0 : ac.tmps.getD 0 undef = .int .u8 (kd.toNat : Int) := hsame 0 (by kernel_rfl)
    have f1 : ac.tmps.getD 1 undef = .slice (some ⟨bb, o, none⟩) (m + 5) c := hsame 1 (by kernel_rfl)
    obtain ⟨u2, f2⟩ : ∃ u, ac.tmps.getD 2 undef = u := ⟨_, rfl⟩
    obtain ⟨u3, f3⟩ : ∃ u, ac.tmps.getD 3 undef = u := ⟨_, rfl⟩
    have f4 : ac.tmps.getD 4 undef = .slice none 0 0 := hsame 4 (by kernel_rfl)
    have f5 : ac.tmps.getD 5 undef = .int .i64 0 := hsame 5 (by kernel_rfl)
    have f6 : ac.tmps.getD 6 undef = .slice (some ⟨bb, o, none⟩) (m + 1) c := hsame 6 (by kernel_rfl)
    obtain ⟨u7, f7⟩ : ∃ u, ac.tmps.getD 7 undef = u := ⟨_, rfl⟩
    obtain ⟨u8, f8⟩ : ∃ u, ac.tmps.getD 8 undef = u := ⟨_, rfl⟩
    obtain ⟨u9, f9⟩ : ∃ u, ac.tmps.getD 9 undef = u := ⟨_, rfl⟩
    obtain ⟨u10, f10⟩ : ∃ u, ac.tmps.getD 10 undef = u := ⟨_, rfl⟩
    obtain ⟨u11, f11⟩ : ∃ u, ac.tmps.getD 11 undef = u := ⟨_, rfl⟩
    obtain ⟨u12, f12⟩ : ∃ u, ac.tmps.getD 12 undef = u := ⟨_, rfl⟩
    obtain ⟨u13, f13⟩ : ∃ u, ac.tmps.getD 13 undef = u := ⟨_, rfl⟩
    obtain ⟨u14, f14⟩ : ∃ u, ac.tmps.getD 14 undef = u := ⟨_, rfl⟩
    obtain ⟨u15, f15⟩ : ∃ u, ac.tmps.getD 15 undef = u := ⟨_, rfl⟩
    have f16 : ac.tmps.getD 16 undef = .slice (some ⟨bb, o, none⟩) (m + 5) c := hvals 0 (by decide)
    have f17 : ac.tmps.getD 17 undef = .pointer (some ⟨bb, o, none⟩) := hvals 1 (by decide)
    have f18 : ac.tmps.getD 18 undef = .int .u8 (x0.toNat : Int) := hvals 2 (by decide)
    have f19 : ac.tmps.getD 19 undef = .slice (some ⟨bb, o, none⟩) (m + 1) c := hvals 3 (by decide)
    have f20 : ac.tmps.getD 20 undef = .slice (some ⟨bb, o + 1, none⟩) m (c - 1) := hvals 4 (by decide)
    obtain ⟨u21, f21⟩ : ∃ u, ac.tmps.getD 21 undef = u := ⟨_, rfl⟩
    have f22 : ac.tmps.getD 22 undef = .string (strB S) := hvals 6 (by decide)
    have f23 : ac.tmps.getD 23 undef = .slice (some ⟨bb, o, none⟩) (m + 5) c := hvals 7 (by decide)
    have f24 : ac.tmps.getD 24 undef = .string (strB l) := hvals 8 (by decide)
    have f25 : ac.tmps.getD 25 undef = .bool (!t) := hvals 9 (by decide)
    obtain ⟨u26, f26⟩ : ∃ u, ac.tmps.getD 26 undef = u := ⟨_, rfl⟩
    obtain ⟨u27, f27⟩ : ∃ u, ac.tmps.getD 27 undef = u := ⟨_, rfl⟩
    obtain ⟨u28, f28⟩ : ∃ u, ac.tmps.getD 28 undef = u := ⟨_, rfl⟩
    obtain ⟨u29, f29⟩ : ∃ u, ac.tmps.getD 29 undef = u := ⟨_, rfl⟩
    obtain ⟨u30, f30⟩ : ∃ u, ac.tmps.getD 30 undef = u := ⟨_, rfl⟩
    obtain ⟨u31, f31⟩ : ∃ u, ac.tmps.getD 31 undef = u := ⟨_, rfl⟩
    obtain ⟨u32, f32⟩ : ∃ u, ac.tmps.getD 32 undef = u := ⟨_, rfl⟩
    obtain ⟨u33, f33⟩ : ∃ u, ac.tmps.getD 33 undef = u := ⟨_, rfl⟩
    obtain ⟨u34, f34⟩ : ∃ u, ac.tmps.getD 34 undef = u := ⟨_, rfl⟩
    have hlit : ac = ⟨#[.int .u8 (kd.toNat : Int), .slice (some ⟨bb, o, none⟩) (m + 5) c, u2, u3, .slice none 0 0, .int .i64 0, .slice (some ⟨bb, o, none⟩) (m + 1) c, u7, u8, u9, u10, u11, u12, u13, u14, u15, .slice (some ⟨bb, o, none⟩) (m + 5) c, .pointer (some ⟨bb, o, none⟩), .int .u8 (x0.toNat : Int), .slice (some ⟨bb, o, none⟩) (m + 1) c, .slice (some ⟨bb, o + 1, none⟩) m (c - 1), u21, .string (strB S), .slice (some ⟨bb, o, none⟩) (m + 5) c, .string (strB l), .bool (!t), u26, u27, u28, u29, u30, u31, u32, u33, u34], []⟩ := by
      refine (act_lit hsz hdf).trans ?_
      rw [show List.range _ = [0, 1, 2, 3, 4, 5, 6, 7, 8, 9, 10, 11, 12, 13, 14, 15, 16, 17, 18, 19, 20, 21, 22, 23, 24, 25, 26, 27, 28, 29, 30, 31, 32, 33, 34] from rfl]
      simp only [List.map_cons, List.map_nil, f0, f1, f2, f3, f4, f5, f6, f7, f8, f9, f10, f11, f12, f13, f14, f15, f16, f17, f18, f19, f20, f21, f22, f23, f24, f25, f26, f27, f28, f29, f30, f31, f32, f33, f34]
    clear hvals hsame hdf hsz f0 f1 f2 f3 f4 f5 f6 f7 f8 f9 f10 f11 f12 f13 f14 f15 f16 f17 f18 f19 f20 f21 f22 f23 f24 f25 f26 f27 f28 f29 f30 f31 f32 f33 f34
    subst hlit
    simp only [List.drop_succ_cons, List.drop_zero]
    have hcw := HC.out wk hx
    have HX := Lib.hid hx
    cases t
    · go_wp2_with fail
      go_ret2
      have e : unsC kd l = 36 := by rw [HUU.out, if_neg (of_decide_eq_false HT.out.symm)]
      refine ⟨HX.out, .inr ⟨by rw [e]; decide, ?_⟩⟩
      rw [e]; rfl
    · have hq : ∃ q, decide (x0 = kd) = q ∧ ((x0.toNat : Int) == (kd.toNat : Int)) = q ∧ decide ((x0.toNat : Int) = (kd.toNat : Int)) = q ∧ decide (x0.toNat = kd.toNat) = q := by
        refine ⟨_, rfl, ?_, ?_, ?_⟩
        · rw [Bool.eq_iff_iff, beq_iff_eq, decide_eq_true_eq, ← UInt8.toNat_inj]; omega
        · rw [Bool.eq_iff_iff, decide_eq_true_eq, decide_eq_true_eq, ← UInt8.toNat_inj]; omega
        · rw [Bool.eq_iff_iff, decide_eq_true_eq, decide_eq_true_eq, ← UInt8.toNat_inj]
      obtain ⟨q, q1, q2, q3, q4⟩ := hq
      have Q1 := Lib.hid q1
      clear q1
      cases q
      · have hne : ¬ x0.toNat = kd.toNat := of_decide_eq_false q4
        go_wp2_with fail
        go_ret2
        have e : unsC kd l = 21 := by rw [HUU.out, if_pos (of_decide_eq_true HT.out.symm), if_neg (of_decide_eq_false Q1.out)]
        refine ⟨HX.out, .inr ⟨by rw [e]; decide, ?_⟩⟩
        rw [e]; rfl
      · have hne : x0.toNat = kd.toNat := of_decide_eq_true q4
        go_wp2_with fail
        refine (HCL.out _ HX.out).mono ?_
        rintro e w' ⟨v', rfl, ho, hx'⟩
        have HO := Lib.hid ho; have HX' := Lib.hid hx'
        clear ho hx'
        dsimp only
        go_wp2_with fail
        go_ret2
        have e : unsC kd l = 0 := by rw [HUU.out, if_pos (of_decide_eq_true HT.out.symm), if_pos (of_decide_eq_true Q1.out)]
        exact ⟨HX.out.trans' HX'.out, .inl ⟨e, v', rfl, own_le HO.out HX.out.size⟩⟩
end Go.Proofs.YtefabpgfhghpgaaDoor
end

section
/- Nodes in memory; the contract of Node.check. -/
namespace Go.Proofs.YtefabpgfhghpgaaDoor
open Go.RowKit Go.My

structure NodeL where
  name : List UInt8
  dir : Bool
  size : Int
  parts : List (List UInt8)
  sub : List UInt8
deriving DecidableEq
def zero32 : List UInt8 := List.replicate 32 0
def node0 : NodeL := ⟨[], false, 0, [], zero32⟩
/-- a node's cells -/
def nodeV (n : NodeL) (pv : Value) : List Value := .string (strB n.name) :: .bool n.dir :: .int .i64 n.size :: pv :: byts n.sub
/-- the error's number of a node -/
def nodeE (n : NodeL) : Int :=
  if (n.dir = true ∧ (n.size ≠ 0 ∨ n.parts ≠ [])) ∨ (n.dir = false ∧ (n.size < 0 ∨ n.sub ≠ zero32)) then 21 else if 4096 < n.parts.length then 3 else 0

theorem rangeAt.ext {S : Nat → Prop} {w w' : World} {b o : Nat} {cs : List Value} (h : w.rangeAt b o cs) (e : Ext S w w') (hs : ¬ S b) : w'.rangeAt b o cs := fun j v hv => by
  have hc := h j v hv
  rw [e.cell (p := ⟨b, o + j, none⟩) (World.block_lt_of_cell? w _ hc) hs]
  exact hc
theorem rangeAt.ext0 {w w' : World} {b o : Nat} {cs : List Value} (h : w.rangeAt b o cs) (e : Ext No w w') : w'.rangeAt b o cs := rangeAt.ext h e (fun s => s)
theorem rangeAt.blk {w : World} {b : Nat} {cs : List Value} {T : TypeId} (h : Blk w b cs.toArray T) (o : Nat) : w.rangeAt b o (cs.drop o) := fun j v hv => by
  rw [h.cell]
  simpa using hv

structure IDsAt (w : World) (ids : List (List UInt8)) (a : Option Addr) : Prop where
  len : ∀ p ∈ ids, p.length = 32
  at_ : ∀ i, i < ids.length → ∃ b off, a = some ⟨b, off, none⟩ ∧ w.rangeAt b (off + i * 32) (byts (ids.getD i []))
/-- a slice of sums -/
def IsIDs (w : World) (ids : List (List UInt8)) (v : Value) : Prop := ∃ a cap, v = .slice a ids.length cap ∧ ids.length ≤ cap ∧ cap ≤ 9223372036854775807 ∧ IDsAt w ids a
theorem IsIDs.ext0 {w w' : World} {ids : List (List UInt8)} {v : Value} (h : IsIDs w ids v) (e : Ext No w w') : IsIDs w' ids v := by
  obtain ⟨a, cap, h1, h2, h3, h4⟩ := h
  exact ⟨a, cap, h1, h2, h3, h4.len, fun i hi => by
    obtain ⟨b, off, h5, h6⟩ := h4.at_ i hi
    exact ⟨b, off, h5, rangeAt.ext0 h6 e⟩⟩
/-- a node's value -/
structure IsNode (w : World) (n : NodeL) (cs : List Value) : Prop where
  cells : ∃ pv, cs = nodeV n pv ∧ IsIDs w n.parts pv
  sub : n.sub.length = 32
  lo : -9223372036854775808 ≤ n.size
  hi : n.size ≤ 9223372036854775807
theorem IsNode.ext0 {w w' : World} {n : NodeL} {cs : List Value} (h : IsNode w n cs) (e : Ext No w w') : IsNode w' n cs := by
  obtain ⟨⟨pv, h1, h2⟩, h3, h4, h5⟩ := h
  exact ⟨⟨pv, h1, h2.ext0 e⟩, h3, h4, h5⟩
theorem IsNode.length {w : World} {n : NodeL} {cs : List Value} (h : IsNode w n cs) : cs.length = 36 := by
  obtain ⟨⟨pv, rfl, -⟩, h3, -, -⟩ := h
  simp [nodeV, byts_length, h3]
theorem IsNode.one {w : World} {n : NodeL} {cs : List Value} (h : IsNode w n cs) : cs.toArray.all (·.oneCell') = true := by
  obtain ⟨⟨pv, rfl, ⟨a, c, rfl, -⟩⟩, h3, -, -⟩ := h
  refine all_oneCell_toArray fun v hv => ?_
  simp only [nodeV, List.mem_cons] at hv
  rcases hv with rfl | rfl | rfl | rfl | hv
  · rfl
  · rfl
  · rfl
  · rfl
  · unfold byts at hv
    obtain ⟨x, -, rfl⟩ := List.mem_map.1 hv
    rfl

section
variable {P : Program} {ops : Array Oper} {rest : List Oper} {op : Oper} {a : Act} {w : World} {Q : Exit → Act → World → Prop}
/-- a load whose value is known -/
theorem wpList_load_at (hw : Region.wanted op (yielded ops a.tmps) = true) (ty : TypeId) (x : Operand) (ho : op.op = .load ty x) {u v : Value} (hx : a.eval x = u)
    (hl : (Instr.loadAt ty u).run P w = .ok v w) (h : wpList P ops Q rest (a.put op.dst v) w) : wpList P ops Q (op :: rest) a w :=
  BigFrame.wpList_want hw fun K hK => by
    unfold Oper.wp execOp
    simp only [ho, hx, Sem.run_bind, hl, Result.andThen_ok, Sem.run_pure]
    exact hK _ _ h
/-- a store whose world is known -/
theorem wpList_store_at (hw : Region.wanted op (yielded ops a.tmps) = true) (ty : TypeId) (x y : Operand) (ho : op.op = .store ty x y) {u v : Value} {w2 : World} (hx : a.eval x = u) (hy : a.eval y = v)
    (hl : (Instr.storeAt ty u v).run P w = .ok () w2) (h : wpList P ops Q rest (a.put op.dst undef) w2) : wpList P ops Q (op :: rest) a w :=
  BigFrame.wpList_want hw fun K hK => by
    unfold Oper.wp execOp
    simp only [ho, hx, hy, Sem.run_bind, hl, Result.andThen_ok, Sem.run_pure]
    exact hK _ _ h
end
theorem info42 : (Tryd.prog.info? 42).map (·.size) = some 36 := by kernel_rfl
theorem info40 : (Tryd.prog.info? 40).map (·.size) = some 32 := by kernel_rfl

theorem byts_get (x : List UInt8) (i : Nat) (h : i < x.length) : (byts x).toArray[i]? = some (.int .u8 ((x.getD i 0).toNat : Int)) := by
  simp [byts, List.getD_eq_getElem?_getD, List.getElem?_eq_getElem h]
theorem plain8 : Tryd.prog.plainKey 5 = true := by kernel_rfl
theorem cells8 : Tryd.prog.cellsOf 5 = 1 := by kernel_rfl
theorem id_items (x y : List UInt8) (w : World) (d : Nat) : ∀ is : List Nat, (∀ i ∈ is, i < x.length ∧ i < y.length) →
    (Op.eqItems (d + 1) 5 1 (byts x).toArray (byts y).toArray is).run Tryd.prog w = .ok (is.all fun i => x.getD i 0 == y.getD i 0) w := by
  intro is
  induction is with
  | nil => intro _; simp [Op.eqItems]
  | cons i is ih =>
    intro h
    obtain ⟨h1, h2⟩ := h i (List.mem_cons_self ..)
    have p1 := run_part_plain (P := Tryd.prog) w plain8 (byts_get x i h1)
    have p2 := run_part_plain (P := Tryd.prog) w plain8 (byts_get y i h2)
    have p3 := run_equalIn_int (P := Tryd.prog) w d 5 .u8 .u8 ((x.getD i 0).toNat : Int) ((y.getD i 0).toNat : Int) Tryd.underlying5
    simp only [Op.eqItems, Nat.mul_one, Sem.run_bind, p1, p2, p3, Result.andThen_ok]
    have e : (((x.getD i 0).toNat : Int) == ((y.getD i 0).toNat : Int)) = (x.getD i 0 == y.getD i 0) := by
      rw [Bool.eq_iff_iff, beq_iff_eq, beq_iff_eq, ← UInt8.toNat_inj]; omega
    rw [e, List.all_cons]
    cases hxy : (x.getD i 0 == y.getD i 0)
    · simp
    · simpa using ih (fun j hj => h j (List.mem_cons_of_mem _ hj))
theorem id_eq (x y : List UInt8) (hx : x.length = 32) (hy : y.length = 32) (w : World) :
    (Op.equalIn 10000 40 (.agg (byts x).toArray) (.agg (byts y).toArray)).run Tryd.prog w = .ok (decide (x = y)) w := by
  obtain ⟨i8, hi8⟩ : ∃ i, Tryd.prog.info? 5 = some i := by
    cases h : Tryd.prog.info? 5 with
    | none => have := u8_info; rw [h] at this; cases this
    | some i => exact ⟨i, rfl⟩
  rw [run_equalIn_array (P := Tryd.prog) w 9999 _ _ Tryd.underlying40 hi8, cells8, id_items x y w 9998 _ (fun i hi => by have := List.mem_range.1 hi; omega)]
  congr 1
  rw [Bool.eq_iff_iff, List.all_eq_true, decide_eq_true_eq]
  constructor
  · intro h
    apply List.ext_getElem (by omega)
    intro i h1 h2
    have := h i (List.mem_range.2 (by omega))
    simpa [List.getD_eq_getElem?_getD, List.getElem?_eq_getElem h1, List.getElem?_eq_getElem h2] using this
  · rintro rfl i _
    simp

theorem id_zero (x : List UInt8) (hx : x.length = 32) (w : World) :
    (Op.equalIn 10000 40 (.agg (byts x).toArray) (.agg #[.int .u8 0, .int .u8 0, .int .u8 0, .int .u8 0, .int .u8 0, .int .u8 0, .int .u8 0, .int .u8 0, .int .u8 0, .int .u8 0, .int .u8 0, .int .u8 0, .int .u8 0, .int .u8 0, .int .u8 0, .int .u8 0, .int .u8 0, .int .u8 0, .int .u8 0, .int .u8 0, .int .u8 0, .int .u8 0, .int .u8 0, .int .u8 0, .int .u8 0, .int .u8 0, .int .u8 0, .int .u8 0, .int .u8 0, .int .u8 0, .int .u8 0, .int .u8 0])).run Tryd.prog w = .ok (decide (x = zero32)) w :=
  id_eq x zero32 hx rfl w

set_option maxRecDepth 100000 in
set_option maxHeartbeats 4000000 in
theorem ncheck_any (n : NodeL) (cs : List Value) (w : World) (h : IsNode w n cs) :
    Calls Tryd.prog 35 #[.agg cs.toArray] w fun e w' => Ext No w w' ∧ ((nodeE n = 0 ∧ e = .returned (.tuple #[])) ∨ (nodeE n ≠ 0 ∧ e = .panicked (thrown (nodeE n)))) := by
  have h0 := h
  obtain ⟨⟨pv, hcs, hids⟩, hsub, hlo, hhi⟩ := h
  obtain ⟨pa, pc, rfl, hpc, hpc2, hat⟩ := hids
  have c0 : cs[0]? = some (.string (strB n.name)) := by rw [hcs]; rfl
  have c1 : cs[1]? = some (.bool n.dir) := by rw [hcs]; rfl
  have c2 : cs[2]? = some (.int .i64 n.size) := by rw [hcs]; rfl
  have c3 : cs[3]? = some (.slice pa n.parts.length pc) := by rw [hcs]; rfl
  have HE := Lib.hid (show nodeE n = if (n.dir = true ∧ (n.size ≠ 0 ∨ n.parts ≠ [])) ∨ (n.dir = false ∧ (n.size < 0 ∨ n.sub ≠ zero32)) then 21 else if 4096 < n.parts.length then 3 else 0 from rfl)
  have HCS := Lib.hid hcs
  clear hcs h0
  obtain ⟨nm, dir, sz, parts, sub⟩ := n
  dsimp only at *
  obtain ⟨np, hnp⟩ : ∃ m, m = parts.length := ⟨_, rfl⟩
  have hr : w.alloc (.cells cs.toArray 42) = w.alloc (.cells cs.toArray 42) := rfl
  have HNP := Lib.hid hnp
  rw [← hnp] at c3 hpc
  have HX : Hid (Ext No w (w.alloc (.cells cs.toArray 42))) := Lib.hid ((Ext.refl No w).alloc _)
  have hra : (w.alloc (.cells cs.toArray 42)).rangeAt w.heap.size 4 (byts sub) := by
    have h := rangeAt.blk (Blk.new w cs.toArray 42) 4
    rw [HCS.out] at h ⊢
    exact h
  have HL40 := Lib.hid (run_loadAt_mid (P := Tryd.prog) (w.alloc (.cells cs.toArray 42)) w.heap.size 4 40 (byts sub) _ hra Tryd.underlying40 rfl (by rw [byts_length, hsub]; exact info40))
  clear hra hnp hr
  have hz := id_zero sub hsub
  obtain ⟨t, ht⟩ : ∃ t, t = decide (sub = zero32) := ⟨_, rfl⟩
  rw [← ht] at hz
  have HT := Lib.hid ht
  clear hat ht
  have hp0 : parts = [] ↔ np = 0 := by rw [HNP.out]; exact List.length_eq_zero_iff.symm
  have HP0 := Lib.hid hp0
  clear hp0
  cases dir
  · by_cases hs0 : sz < 0
    · go_enter Tryd.func35, Tryd.ntmps35
      go_wp2_with fail
      refine (must_no 21 (by decide) _).mono ?_
      rintro e w2 ⟨rfl, rfl⟩
      dsimp only
      have e21 : nodeE ⟨nm, false, sz, parts, sub⟩ = 21 := by rw [HE.out, if_pos (.inr ⟨by trivial, .inl hs0⟩)]
      exact ⟨rfl, HX.out, .inr ⟨by rw [e21]; decide, by rw [e21]⟩⟩
    · have hs0d : decide (sz < 0) = false := by simp; omega
      cases t
      · go_enter Tryd.func35, Tryd.ntmps35
        go_wp2_with ((with_reducible refine wpList_load_at ?_ 40 _ rfl ?_ HL40.out ?_); rfl; rfl)
        refine (must_no 21 (by decide) _).mono ?_
        rintro e w2 ⟨rfl, rfl⟩
        dsimp only
        have e21 : nodeE ⟨nm, false, sz, parts, sub⟩ = 21 := by rw [HE.out, if_pos (.inr ⟨by trivial, .inr (of_decide_eq_false HT.out.symm)⟩)]
        exact ⟨rfl, HX.out, .inr ⟨by rw [e21]; decide, by rw [e21]⟩⟩
      · have hne : ¬ ((false = true ∧ (sz ≠ 0 ∨ parts ≠ [])) ∨ (false = false ∧ (sz < 0 ∨ sub ≠ zero32))) := by
          rintro (⟨h, -⟩ | ⟨-, h | h⟩)
          · cases h
          · exact hs0 h
          · exact h (of_decide_eq_true HT.out.symm)
        have he := HE.out
        rw [if_neg hne, ← HNP.out] at he
        have HE2 := Lib.hid he
        clear he hne HE
        by_cases h4 : 4096 < np
        · have h4i : (4096 : Int) < np := by omega
          go_enter Tryd.func35, Tryd.ntmps35
          go_wp2_with ((with_reducible refine wpList_load_at ?_ 40 _ rfl ?_ HL40.out ?_); rfl; rfl)
          refine (must_no 3 (by decide) _).mono ?_
          rintro e w2 ⟨rfl, rfl⟩
          dsimp only
          have e21 : nodeE ⟨nm, false, sz, parts, sub⟩ = 3 := by rw [HE2.out, if_pos h4]
          exact ⟨rfl, HX.out, .inr ⟨by rw [e21]; decide, by rw [e21]⟩⟩
        · have h4i : decide ((4096 : Int) < np) = false := by simp; omega
          go_enter Tryd.func35, Tryd.ntmps35
          go_wp2_with ((with_reducible refine wpList_load_at ?_ 40 _ rfl ?_ HL40.out ?_); rfl; rfl)
          go_end0
          have e0 : nodeE ⟨nm, false, sz, parts, sub⟩ = 0 := by rw [HE2.out, if_neg h4]
          exact ⟨HX.out, .inl ⟨e0, rfl⟩⟩
  · by_cases hs0 : sz = 0
    · by_cases h0 : np = 0
      · have h0d : decide (0 < np) = false := by simp; omega
        have h0n : ¬ 0 < np := by omega
        have h4i : decide ((4096 : Int) < np) = false := by simp; omega
        have hne : ¬ ((true = true ∧ (sz ≠ 0 ∨ parts ≠ [])) ∨ (true = false ∧ (sz < 0 ∨ sub ≠ zero32))) := by
          rintro (⟨-, h | h⟩ | ⟨h, -⟩)
          · exact h hs0
          · exact h (HP0.out.2 h0)
          · cases h
        have he := HE.out
        rw [if_neg hne, ← HNP.out, if_neg (by omega)] at he
        have HE2 := Lib.hid he
        clear he hne HE
        go_enter Tryd.func35, Tryd.ntmps35
        go_wp2_with fail
        go_end0
        exact ⟨HX.out, .inl ⟨HE2.out, rfl⟩⟩
      · have h0n : 0 < np := by omega
        go_enter Tryd.func35, Tryd.ntmps35
        go_wp2_with fail
        refine (must_no 21 (by decide) _).mono ?_
        rintro e w2 ⟨rfl, rfl⟩
        dsimp only
        have e21 : nodeE ⟨nm, true, sz, parts, sub⟩ = 21 := by rw [HE.out, if_pos (.inl ⟨by trivial, .inr (fun h => h0 (HP0.out.1 h))⟩)]
        exact ⟨rfl, HX.out, .inr ⟨by rw [e21]; decide, by rw [e21]⟩⟩
    · go_enter Tryd.func35, Tryd.ntmps35
      go_wp2_with fail
      refine (must_no 21 (by decide) _).mono ?_
      rintro e w2 ⟨rfl, rfl⟩
      dsimp only
      have e21 : nodeE ⟨nm, true, sz, parts, sub⟩ = 21 := by rw [HE.out, if_pos (.inl ⟨by trivial, .inl hs0⟩)]
      exact ⟨rfl, HX.out, .inr ⟨by rw [e21]; decide, by rw [e21]⟩⟩
end Go.Proofs.YtefabpgfhghpgaaDoor
end

section
/- Texts in their order (Op.bytesLess), plain. -/
namespace Go.Proofs.YtefabpgfhghpgaaDoor
open Go.RowKit Go.My

theorem bl_irrefl (l : List UInt8) : Op.bytesLess l l = false := by
  induction l with
  | nil => rfl
  | cons c l ih => unfold Op.bytesLess; rw [ih]; simp
theorem bl_tri (l k : List UInt8) : Op.bytesLess l k = true ∨ l = k ∨ Op.bytesLess k l = true := by
  induction l generalizing k with
  | nil => cases k with
    | nil => exact .inr (.inl rfl)
    | cons => exact .inl rfl
  | cons c l ih => cases k with
    | nil => exact .inr (.inr rfl)
    | cons d k =>
      unfold Op.bytesLess
      rcases Nat.lt_trichotomy c.toNat d.toNat with h | h | h
      · left; simp [UInt8.lt_iff_toNat_lt.2 h]
      · have hcd : c = d := UInt8.toNat_inj.1 h
        subst hcd
        rcases ih k with h1 | h1 | h1
        · left; simp [h1]
        · right; left; rw [h1]
        · right; right; simp [h1]
      · right; right; simp [UInt8.lt_iff_toNat_lt.2 h]
theorem bl_trans (l k m : List UInt8) (h1 : Op.bytesLess l k = true) (h2 : Op.bytesLess k m = true) : Op.bytesLess l m = true := by
  induction l generalizing k m with
  | nil =>
    cases m with
    | nil => cases k <;> cases h2
    | cons => rfl
  | cons c l ih =>
    cases k with
    | nil => cases h1
    | cons d k =>
      cases m with
      | nil => cases h2
      | cons f m =>
        unfold Op.bytesLess at h1 h2 ⊢
        simp only [Bool.or_eq_true, decide_eq_true_eq, Bool.and_eq_true, beq_iff_eq] at h1 h2 ⊢
        rcases h1 with h1 | ⟨rfl, h1⟩
        · rcases h2 with h2 | ⟨rfl, h2⟩
          · left; exact UInt8.lt_iff_toNat_lt.2 (Nat.lt_trans (UInt8.lt_iff_toNat_lt.1 h1) (UInt8.lt_iff_toNat_lt.1 h2))
          · left; exact h1
        · rcases h2 with h2 | ⟨rfl, h2⟩
          · left; exact h2
          · right; exact ⟨rfl, ih k m h1 h2⟩
theorem bl_asymm (l k : List UInt8) (h1 : Op.bytesLess l k = true) : Op.bytesLess k l = false := by
  cases h : Op.bytesLess k l with
  | false => rfl
  | true => have := bl_trans l k l h1 h; rw [bl_irrefl] at this; cases this
theorem bl_leq (a b : List UInt8) : (Op.bytesLess a b || a == b) = !(Op.bytesLess b a) := by
  rcases bl_tri a b with h | h | h
  · rw [h, bl_asymm a b h]; rfl
  · subst h; rw [bl_irrefl]; simp
  · have h1 := bl_asymm b a h
    have hne : ¬ a = b := by rintro rfl; rw [bl_irrefl] at h; cases h
    rw [h, h1, Bool.false_or, beq_eq_false_iff_ne.2 hne]; rfl
end Go.Proofs.YtefabpgfhghpgaaDoor
end

section
/- The contract of tree.Check. -/
namespace Go.Proofs.YtefabpgfhghpgaaDoor
open Go.RowKit Go.My

structure NodesAt (w : World) (ns : List NodeL) (a : Option Addr) : Prop where
  at_ : ∀ i, i < ns.length → ∃ b off cs, a = some ⟨b, off, none⟩ ∧ w.rangeAt b (off + i * 36) cs ∧ IsNode w (ns.getD i node0) cs
/-- a slice of nodes -/
def IsNodes (w : World) (ns : List NodeL) (v : Value) : Prop := ∃ a cap, v = .slice a ns.length cap ∧ ns.length ≤ cap ∧ cap ≤ 9223372036854775807 ∧ NodesAt w ns a
theorem IsNodes.ext0 {w w' : World} {ns : List NodeL} {v : Value} (h : IsNodes w ns v) (e : Ext No w w') : IsNodes w' ns v := by
  obtain ⟨a, cap, h1, h2, h3, h4⟩ := h
  exact ⟨a, cap, h1, h2, h3, ⟨fun i hi => by
    obtain ⟨b, off, cs, h5, h6, h7⟩ := h4.at_ i hi
    exact ⟨b, off, cs, h5, rangeAt.ext0 h6 e, h7.ext0 e⟩⟩⟩
theorem drop_get {α : Type} (ls : List α) (d : α) (k : Nat) (h : k < ls.length) : ls.drop k = ls.getD k d :: ls.drop (k + 1) := by
  rw [List.drop_eq_getElem_cons h, List.getD_eq_getElem?_getD, List.getElem?_eq_getElem h]; rfl

/-- does a name stand the wrong way? -/
def badB : Option (List UInt8) → List UInt8 → Bool
  | none, _ => false
  | some p, x => !(Op.bytesLess p x)
/-- the error's number of nodes, behind a name -/
def chkL : Option (List UInt8) → List NodeL → Int
  | _, [] => 0
  | p, n :: ns => if partB n.name = false then 38 else if badB p n.name = true then 24 else if nodeE n = 0 then chkL (some n.name) ns else nodeE n
def nodesE (ns : List NodeL) : Int := if 512 < ns.length then 3 else chkL none ns
theorem chk_cons (p : Option (List UInt8)) (n : NodeL) (ns : List NodeL) : chkL p (n :: ns) = if partB n.name = false then 38 else if badB p n.name = true then 24 else if nodeE n = 0 then chkL (some n.name) ns else nodeE n := rfl

set_option maxRecDepth 100000 in
set_option maxHeartbeats 1000000 in
theorem contains_any (l : List UInt8) (w : World) : Calls Tryd.prog 33 #[.string (strB l), .string ⟨#[47]⟩] w fun e w' => e = .returned (.bool (decide (0 ≤ Lib.indexByte l 47))) ∧ w = w' := by
  go_enter Tryd.func33, Tryd.ntmps33
  go_wp2_with fail
  refine (index_sep l w).mono ?_
  rintro e w' ⟨rfl, rfl⟩
  dsimp only
  go_wp2_with fail
  go_ret
  exact ⟨rfl, rfl⟩
theorem checkE_or (l : List UInt8) : checkE l = 0 ∨ checkE l = 38 := by
  unfold checkE; split
  · exact .inr rfl
  · split
    · exact .inl rfl
    · exact .inr rfl
theorem index_mem (l : List UInt8) (h : 0 ≤ Lib.indexByte l 47) : (47 : UInt8) ∈ l := by
  induction l with
  | nil => unfold Lib.indexByte at h; exact absurd h (by decide)
  | cons c l ih =>
    by_cases hc : c = 47
    · rw [hc]; exact List.mem_cons_self ..
    · unfold Lib.indexByte at h
      rw [if_neg (by simp [hc])] at h
      refine List.mem_cons_of_mem _ (ih ?_)
      by_cases h1 : Lib.indexByte l 47 < 0
      · simp [h1] at h
        split at h <;> omega
      · omega
theorem letter_sep : letterB 47 = false := by decide
/-- a name's test, told by path.Check and strings.Contains -/
theorem name_test (l : List UInt8) : (partB l = true → checkE l = 0 ∧ Lib.indexByte l 47 < 0) ∧ (checkE l = 0 → Lib.indexByte l 47 < 0 → partB l = true) := by
  constructor
  · intro h
    have hi : Lib.indexByte l 47 < 0 := by
      rcases Int.lt_or_le (Lib.indexByte l 47) 0 with h1 | h1
      · exact h1
      · exfalso
        have hm := index_mem l h1
        unfold partB at h
        simp only [Bool.and_eq_true] at h
        have := List.all_eq_true.1 h.2 47 hm
        rw [letter_sep] at this
        cases this
    refine ⟨?_, hi⟩
    unfold checkE
    rw [partsL_none l hi]
    have h4 : l.length ≤ 40 := by
      unfold partB at h
      simp only [Bool.and_eq_true, decide_eq_true_eq] at h
      exact h.1.2
    rw [if_neg (by omega)]
    simp [h]
  · intro h hi
    unfold checkE at h
    rw [partsL_none l hi] at h
    by_cases h1 : 120 < l.length
    · rw [if_pos h1] at h; cases h
    · rw [if_neg h1] at h
      by_cases h2 : partB l = true
      · exact h2
      · simp [h2] at h

/-- a node goes into a variable that was made for it -/
theorem store_node (w : World) (cs : List Value) (hl : cs.length = 36) (h1 : cs.toArray.all (·.oneCell') = true) : ∀ Z : Array Value, Z.size = 36 →
    (Instr.storeAt 42 (.pointer (some ⟨w.heap.size, 0, none⟩)) (.agg cs.toArray)).run Tryd.prog (w.alloc (.cells Z 42)) = .ok () (w.alloc (.cells cs.toArray 42)) := fun Z hZ =>
  run_storeAt_new (P := Tryd.prog) w 42 Z cs.toArray (by rw [List.size_toArray, hl]; exact info42) (by simp [hZ, hl]) h1

set_option maxRecDepth 100000 in
set_option maxHeartbeats 8000000 in
theorem tcheck1_any (ns : List NodeL) (a : Option Addr) (n c pb : Nat) (w : World) (hp : Blk w pb #[.slice a n c] 22) (hv : IsNodes w ns (.slice a n c)) (hlen : ∀ m ∈ ns, m.name.length ≤ 1000000000) :
    Calls Tryd.prog 31 #[.pointer (some ⟨pb, 0, none⟩)] w (Body No w (fun r _ => r = chkL none ns)) := by
  obtain ⟨a', c', hh, hc1, hc2, hat⟩ := id hv
  simp only [Value.slice.injEq] at hh
  obtain ⟨rfl, hn, rfl⟩ := hh
  have hcp := hp.cell 0
  simp only [List.getElem?_toArray, List.getElem?_cons_zero] at hcp
  have HV := Lib.hid hat; have HN := Lib.hid hn; have HLEN := Lib.hid hlen
  rw [← hn] at hc1
  have HP := Lib.hid hp
  clear hv hat hn hp hlen
  go_enter Tryd.func31, Tryd.ntmps31
  go_wp2_with fail
  go_loopw [5] (fun i wr => ∃ k : Nat, i = .int .i64 k ∧ k ≤ n ∧ Ext No w wr ∧ chkL (if k = 0 then none else some (ns.getD (k - 1) node0).name) (ns.drop k) = chkL none ns) (fun i _ => n - (intOf i).toNat)
  case atStart => exact ⟨0, rfl, Nat.zero_le _, Ext.refl _ _, rfl⟩
  case round =>
    obtain ⟨k, rfl, hk, hx, hch⟩ := hrel
    have HX := Lib.hid hx; have HCH := Lib.hid hch
    clear hx hch
    by_cases hlt : k < n
    · have hltI : (k : Int) < n := by omega
      obtain ⟨b, off, cs, rfl, hra, hnd⟩ := HV.out.at_ k (by rw [← HN.out]; exact hlt)
      have hd := drop_get ns node0 k (by rw [← HN.out]; exact hlt)
      have hln := HLEN.out (ns.getD k node0) (by rw [List.getD_eq_getElem?_getD, List.getElem?_eq_getElem (by rw [← HN.out]; exact hlt)]; exact List.getElem_mem _)
      generalize hne : ns.getD k node0 = nd at *
      have HNE := Lib.hid hne
      have hnd2 := hnd
      have hl36 := hnd.length
      have h1 := hnd.one
      obtain ⟨⟨pv, hcs, hids⟩, hsub, hlo, hhi⟩ := hnd2
      have hcp' : wr.cell? ⟨pb, 0, none⟩ = some (.slice (some ⟨b, off, none⟩) n c) := by rw [HX.out.cell (World.block_lt_of_cell? w _ hcp) (fun s => s)]; exact hcp
      have c0 : cs[0]? = some (.string (strB nd.name)) := by rw [hcs]; rfl
      have HL42 := Lib.hid (run_loadAt_mid (P := Tryd.prog) wr b (off + k * 36) 42 cs _ (rangeAt.ext0 hra HX.out) Tryd.underlying42 rfl (by rw [hl36]; exact info42))
      have HS42 := Lib.hid (store_node wr cs hl36 h1)
      have HB := Lib.hid (Blk.new wr cs.toArray 42)
      have HX1 := Lib.hid (HX.out.alloc (.cells cs.toArray 42))
      have HCK := Lib.hid (fun W => check_any nd.name W (by omega))
      have HND := Lib.hid hnd; have HD := Lib.hid hd
      have hc0 : (wr.alloc (.cells cs.toArray 42)).cell? ⟨wr.heap.size, 0, none⟩ = some (.string (strB nd.name)) := by rw [HB.out.cell]; simpa using c0
      clear hra hnd hd hne hcs hids hsub hlo hhi h1 hln hcp
      go_wp2_with (first | ((with_reducible refine wpList_load_at ?_ 42 _ rfl ?_ HL42.out ?_); rfl; rfl) | ((with_reducible refine wpList_store_at ?_ 42 _ _ rfl ?_ ?_ (HS42.out _ ?_) ?_); rfl; rfl; rfl; rfl))
      refine (HCK.out _).mono ?_
      rintro e w2 ⟨rfl, hx2⟩
      have HX2 := Lib.hid (HX1.out.trans' hx2)
      have HB2 := Lib.hid (HB.out.ext hx2 (fun s => s))
      have hcb : w2.cell? ⟨wr.heap.size, 0, none⟩ = some (.string (strB nd.name)) := by rw [HB2.out.cell]; simpa using c0
      have hcpw : w2.cell? ⟨pb, 0, none⟩ = some (.slice (some ⟨b, off, none⟩) n c) := by rw [HX2.out.cell HP.out.lt (fun s => s), HP.out.cell]; rfl
      have HND2 := Lib.hid (HND.out.ext0 HX2.out)
      have hnm := name_test nd.name
      have hci := checkE_or nd.name
      have hch := HCH.out
      rw [HD.out, chk_cons] at hch
      clear hx2 hc0 hcp' HL42 HS42
      dsimp only
      by_cases hpb : partB nd.name = true
      case neg =>
        have hpf : partB nd.name = false := by simpa using hpb
        rw [if_pos hpf] at hch
        have HCH2 := Lib.hid hch
        have hwhy : checkE nd.name = 38 ∨ (checkE nd.name = 0 ∧ decide (0 ≤ Lib.indexByte nd.name 47) = true) := by
          rcases hci with h | h
          · refine .inr ⟨h, ?_⟩
            rw [decide_eq_true_eq]
            rcases Int.lt_or_le (Lib.indexByte nd.name 47) 0 with h1 | h1
            · exact absurd (hnm.2 h h1) hpb
            · exact h1
          · exact .inl h
        clear hnm hci hch hpb hpf hcpw
        rcases hwhy with h | ⟨h, h'⟩
        · rw [h]
          go_wp2_with fail
          refine (must_no 38 (by decide) _).mono ?_
          rintro e w3 ⟨rfl, rfl⟩
          dsimp only
          exact ⟨rfl, 38, .inr ⟨rfl, by decide⟩, HX2.out, HCH2.out⟩
        · rw [h]
          go_wp2_with fail
          refine (contains_any nd.name w2).mono ?_
          rintro e w3 ⟨rfl, rfl⟩
          dsimp only
          rw [h']
          go_wp2_with fail
          refine (must_no 38 (by decide) _).mono ?_
          rintro e w3 ⟨rfl, rfl⟩
          dsimp only
          exact ⟨rfl, 38, .inr ⟨rfl, by decide⟩, HX2.out, HCH2.out⟩
      case pos =>
        obtain ⟨h, h'⟩ := hnm.1 hpb
        have h2 : decide (0 ≤ Lib.indexByte nd.name 47) = false := by simp; omega
        rw [if_neg (by rw [hpb]; decide)] at hch
        rw [h]
        clear hnm hci h h'
        go_wp2_with fail
        refine (contains_any nd.name w2).mono ?_
        rintro e w3 ⟨rfl, rfl⟩
        dsimp only
        rw [h2]
        have hra2 : w2.rangeAt wr.heap.size 0 cs := rangeAt.blk HB2.out 0
        have HLD := Lib.hid (fun i => run_loadAt_mid (P := Tryd.prog) (w2.drewN i) wr.heap.size 0 42 cs _ (rangeAt.ext0 hra2 ((Dr.mk _ _).ext No)) Tryd.underlying42 rfl (by rw [hl36]; exact info42))
        clear hra2
        go_wp2_with fail
        by_cases hk0 : k = 0
        · rw [if_pos hk0, if_neg (by intro h; exact Bool.noConfusion h)] at hch
          have HCH2 := Lib.hid hch
          have h0i : decide ((0 : Int) < k) = false := by simp; omega
          have h0n : ¬ 0 < k := by omega
          clear hch
          go_quiet (fail)
          go_wp2_with ((with_reducible refine wpList_load_at ?_ 42 _ rfl ?_ (HLD.out _) ?_); rfl; rfl)
          refine (ncheck_any nd cs _ (HND2.out.ext0 ((Dr.mk _ _).ext No))).mono ?_
          rintro e w4 ⟨hx4, ⟨he, rfl⟩ | ⟨he, rfl⟩⟩
          · have HX4 := Lib.hid ((HX2.out.trans' ((Dr.mk _ _).ext No)).trans' hx4); have HE4 := Lib.hid he
            clear hx4 he
            dsimp only
            go_wp2_with fail
            go_roundw
            case rel =>
              refine ⟨k + 1, by go_num, by omega, HX4.out, ?_⟩
              rw [← HCH2.out, if_pos HE4.out, if_neg (by omega)]
              congr 2
              exact congrArg NodeL.name HNE.out
            case measure => simp [intOf]; omega
          · have HX4 := Lib.hid ((HX2.out.trans' ((Dr.mk _ _).ext No)).trans' hx4); have HE4 := Lib.hid he
            clear hx4 he
            dsimp only
            refine ⟨rfl, nodeE nd, .inr ⟨rfl, HE4.out⟩, HX4.out, ?_⟩
            rw [← HCH2.out, if_neg HE4.out]
        · obtain ⟨j, rfl⟩ : ∃ j, k = j + 1 := ⟨k - 1, by omega⟩
          have hpr : (if j + 1 = 0 then none else some (ns.getD (j + 1 - 1) node0).name) = some (ns.getD j node0).name := by rw [if_neg (by omega)]; rfl
          rw [hpr] at hch
          clear hpr
          obtain ⟨b', off', cs', he', hra', hnd'⟩ := HV.out.at_ j (by rw [← HN.out]; omega)
          cases he'
          obtain ⟨⟨pv', hcs', -⟩, -, -, -⟩ := hnd'
          have hcj : w2.cell? ⟨b, off + j * 36, none⟩ = some (.string (strB (ns.getD j node0).name)) := rangeAt.ext0 hra' HX2.out 0 _ (by rw [hcs']; rfl)
          generalize (ns.getD j node0).name = pn at *
          have hqs : (Op.bytesLess (strB nd.name).toList (strB pn).toList || (strB nd.name).toList == (strB pn).toList) = !(Op.bytesLess pn nd.name) := by rw [strB_list, strB_list]; exact bl_leq _ _
          have hjn : (j : Int) < n := by omega
          cases hq : Op.bytesLess pn nd.name
          · rw [hq, Bool.not_false] at hqs
            rw [if_pos (show badB (some pn) nd.name = true by show (!(Op.bytesLess pn nd.name)) = true; rw [hq]; rfl)] at hch
            have HCH2 := Lib.hid hch
            clear hch hq hra' hcs'
            go_quiet (fail)
            go_wp2_with fail
            refine (must_no 24 (by decide) _).mono ?_
            rintro e w3 ⟨rfl, rfl⟩
            dsimp only
            exact ⟨rfl, 24, .inr ⟨rfl, by decide⟩, HX2.out.trans' ((Dr.mk _ _).ext No), HCH2.out⟩
          · rw [hq, Bool.not_true] at hqs
            rw [if_neg (show ¬ badB (some pn) nd.name = true by show ¬ (!(Op.bytesLess pn nd.name)) = true; rw [hq]; decide)] at hch
            have HCH2 := Lib.hid hch
            clear hch hq hra' hcs'
            go_quiet (fail)
            go_wp2_with ((with_reducible refine wpList_load_at ?_ 42 _ rfl ?_ (HLD.out _) ?_); rfl; rfl)
            refine (ncheck_any nd cs _ (HND2.out.ext0 ((Dr.mk _ _).ext No))).mono ?_
            rintro e w4 ⟨hx4, ⟨he, rfl⟩ | ⟨he, rfl⟩⟩
            · have HX4 := Lib.hid ((HX2.out.trans' ((Dr.mk _ _).ext No)).trans' hx4); have HE4 := Lib.hid he
              clear hx4 he
              dsimp only
              go_wp2_with fail
              go_roundw
              case rel =>
                refine ⟨j + 1 + 1, by go_num, by omega, HX4.out, ?_⟩
                rw [← HCH2.out, if_pos HE4.out, if_neg (by omega)]
                congr 2
                exact congrArg NodeL.name HNE.out
              case measure => simp [intOf]; omega
            · have HX4 := Lib.hid ((HX2.out.trans' ((Dr.mk _ _).ext No)).trans' hx4); have HE4 := Lib.hid he
              clear hx4 he
              dsimp only
              refine ⟨rfl, nodeE nd, .inr ⟨rfl, HE4.out⟩, HX4.out, ?_⟩
              rw [← HCH2.out, if_neg HE4.out]
    · have hkn : n = k := by omega
      subst hkn
      go_wp2_with fail
      go_end0
      refine ⟨0, .inl ⟨rfl, rfl⟩, HX.out, ?_⟩
      have h := HCH.out
      rw [List.drop_eq_nil_of_le (by rw [← HN.out]; exact Nat.le_refl _)] at h
      rw [← h]
      split <;> rfl

set_option maxRecDepth 100000 in
set_option maxHeartbeats 2000000 in
theorem tcheck_any (ns : List NodeL) (v : Value) (w : World) (hv : IsNodes w ns v) (hlen : ∀ m ∈ ns, m.name.length ≤ 1000000000) :
    Calls Tryd.prog 14 #[v] w fun e w' => e = .returned (.int .i64 (nodesE ns)) ∧ Ext No w w' := by
  obtain ⟨a, c, rfl, hc1, hc2, -⟩ := id hv
  obtain ⟨n, hn⟩ : ∃ n, n = ns.length := ⟨_, rfl⟩
  have HE := Lib.hid (show nodesE ns = if 512 < n then 3 else chkL none ns by rw [hn]; rfl)
  rw [← hn] at hv hc1 ⊢
  have HN := Lib.hid hn
  have hx : Ext No w (w.alloc (.cells #[.slice a n c] 22)) := (Ext.refl No w).alloc _
  have HX := Lib.hid hx
  have HR := Lib.hid (run_ext No 31 #[.pointer (some ⟨w.heap.size, 0, none⟩)] (w.alloc (.cells #[.slice a n c] 22)) (fun r _ => r = chkL none ns) (fun _ => by kernel_rfl) (fun s => s) (fun _ _ h => h)
    (tcheck1_any ns a n c w.heap.size _ ((Blk.new w _ _).alloc _) ((hv.ext0 hx).ext0 ((Ext.refl No _).alloc _)) hlen))
  have hmf := mkf
  clear hv hn hx hlen
  by_cases h5 : 512 < n
  · have h5i : (512 : Int) < n := by omega
    go_enter Tryd.func14, Tryd.ntmps14
    go_wp2_with fail
    go_ret
    refine ⟨?_, HX.out⟩
    rw [HE.out, if_pos h5]; rfl
  · have h5i : decide ((512 : Int) < n) = false := by simp; omega
    go_enter Tryd.func14, Tryd.ntmps14
    go_wp2_with fail
    refine HR.out.mono ?_
    rintro e w2 ⟨r, rfl, hx2, hr⟩
    have HX2 := Lib.hid hx2; have HRR := Lib.hid hr
    clear hx2 hr
    dsimp only
    go_wp2_with fail
    go_ret
    refine ⟨?_, HX.out.trans' HX2.out⟩
    rw [HE.out, if_neg h5, ← HRR.out]; rfl
end Go.Proofs.YtefabpgfhghpgaaDoor
end
