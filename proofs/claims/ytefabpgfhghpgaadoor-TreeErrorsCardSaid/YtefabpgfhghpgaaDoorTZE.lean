/-
  JOINED (5): the contracts of few, as, SameIDs, Alike, Same; of tree.Blobs and blobs.
-/
import Derived.Test.YtefabpgfhghpgaaDoorTZD
set_option linter.unusedVariables false
set_option linter.unusedSimpArgs false

section
/- The statements' few and as. -/
namespace Go.Proofs.YtefabpgfhghpgaaDoor
open Go.RowKit Go.My

def okN (n : NodeL) : Bool := (decide (n.parts.length ≤ 10) || (decide (4096 < n.parts.length) && decide (n.parts.length ≤ 4200))) && decide (n.name.length ≤ 200)
/-- few nodes, of few parts -/
def fewB (ns : List NodeL) : Bool := ns.all okN && (decide (ns.length ≤ 30) || (decide (512 < ns.length) && decide (ns.length < 600)))
theorem all_step {α : Type} (ls : List α) (d : α) (f : α → Bool) (k : Nat) (h : k < ls.length) : (ls.take (k + 1)).all f = ((ls.take k).all f && f (ls.getD k d)) := all_take_step ls d f k h

set_option maxRecDepth 100000 in
set_option maxHeartbeats 8000000 in
theorem few_any (ns : List NodeL) (v : Value) (w : World) (hv : IsNodes w ns v) (hl : ∀ m ∈ ns, m.name.length ≤ 9223372036854775807) :
    Calls Tryd.prog 8 #[v] w fun e w' => e = .returned (.bool (fewB ns)) ∧ Ext No w w' := by
  obtain ⟨a, c, rfl, hc1, hc2, hat⟩ := id hv
  obtain ⟨n, hn⟩ : ∃ n, n = ns.length := ⟨_, rfl⟩
  have HF := Lib.hid (show fewB ns = (ns.all okN && (decide (n ≤ 30) || (decide (512 < n) && decide (n < 600)))) by rw [hn]; rfl)
  rw [← hn] at hc1 ⊢
  have HAT := Lib.hid hat; have HN := Lib.hid hn; have HL := Lib.hid hl
  clear hv hat hn hl
  go_enter Tryd.func8, Tryd.ntmps8
  go_wp2_with fail
  go_loopw [7] (fun i wr => ∃ k : Nat, i = .int .i64 k ∧ k ≤ n ∧ Ext No w wr ∧ (ns.take k).all okN = true) (fun i _ => n - (intOf i).toNat)
  case atStart => exact ⟨0, rfl, Nat.zero_le _, Ext.refl _ _, rfl⟩
  case round =>
    obtain ⟨k, rfl, hk, hx, hall⟩ := hrel
    have HX := Lib.hid hx; have HALL := Lib.hid hall
    clear hx hall
    by_cases hlt : k < n
    · have hltI : (k : Int) < n := by omega
      have hlt' : k < ns.length := by rw [← HN.out]; exact hlt
      obtain ⟨b, off, cs, rfl, hra, hnd⟩ := HAT.out.at_ k hlt'
      have hst := all_step ns node0 okN k hlt'
      have hmem : ns.getD k node0 ∈ ns := by rw [List.getD_eq_getElem?_getD, List.getElem?_eq_getElem hlt']; exact List.getElem_mem _
      have hno : okN (ns.getD k node0) = false → ns.all okN = false := fun h => all_false_of ns okN _ hmem h
      have hln := HL.out _ hmem
      generalize ns.getD k node0 = nd at *
      have hl36 := hnd.length
      have h1 := hnd.one
      obtain ⟨⟨pv, hcs, ⟨pa, pc, rfl, hp1, hp2, -⟩⟩, -, -, -⟩ := hnd
      have c0 : cs[0]? = some (.string (strB nd.name)) := by rw [hcs]; rfl
      have c3 : cs[3]? = some (.slice pa nd.parts.length pc) := by rw [hcs]; rfl
      have HL42 := Lib.hid (run_loadAt_mid (P := Tryd.prog) wr b (off + k * 36) 42 cs _ (rangeAt.ext0 hra HX.out) Tryd.underlying42 rfl (by rw [hl36]; exact info42))
      have HS42 := Lib.hid (store_node wr cs hl36 h1)
      have HXA := Lib.hid (HX.out.alloc (.cells cs.toArray 42))
      have hb := Blk.new wr cs.toArray 42
      have d0 : (wr.alloc (.cells cs.toArray 42)).cell? ⟨wr.heap.size, 0, none⟩ = some (.string (strB nd.name)) := by rw [hb.cell]; simpa using c0
      have d3 : (wr.alloc (.cells cs.toArray 42)).cell? ⟨wr.heap.size, 3, none⟩ = some (.slice pa nd.parts.length pc) := by rw [hb.cell]; simpa using c3
      have hok : okN nd = ((decide (nd.parts.length ≤ 10) || (decide (4096 < nd.parts.length) && decide (nd.parts.length ≤ 4200))) && decide (nd.name.length ≤ 200)) := rfl
      have zs := strB_size nd.name
      obtain ⟨np, hnp⟩ : ∃ m, m = nd.parts.length := ⟨_, rfl⟩
      obtain ⟨nl, hnl⟩ : ∃ m, m = nd.name.length := ⟨_, rfl⟩
      rw [← hnp] at c3 d3 hp1 hok; rw [← hnl] at zs hln hok
      have HST := Lib.hid hst; have HNO := Lib.hid hno; have HOK := Lib.hid hok
      clear hra hst hmem hno hcs c0 c3 hb hok hlt' h1 hl36 hnp hnl
      have hcase : (okN nd = true ∧ nl ≤ 200 ∧ (np ≤ 10 ∨ (4096 < np ∧ np ≤ 4200))) ∨ (okN nd = false ∧ ((10 < np ∧ np ≤ 4096) ∨ 4200 < np ∨ ((np ≤ 10 ∨ (4096 < np ∧ np ≤ 4200)) ∧ 200 < nl))) := by
        have e : okN nd = decide ((np ≤ 10 ∨ (4096 < np ∧ np ≤ 4200)) ∧ nl ≤ 200) := by rw [HOK.out]; simp [Bool.decide_and, Bool.decide_or]
        rw [e]
        by_cases h : (np ≤ 10 ∨ (4096 < np ∧ np ≤ 4200)) ∧ nl ≤ 200
        · exact .inl ⟨decide_eq_true h, h.2, h.1⟩
        · exact .inr ⟨decide_eq_false h, by omega⟩
      rcases hcase with ⟨ht, h1, h2⟩ | ⟨ht, h2⟩
      · have HT := Lib.hid ht
        have e1 : decide ((200 : Int) < nl) = false := by simp; omega
        have hor : (decide ((10 : Int) < np) = false ∧ decide ((4200 : Int) < np) = false) ∨ (decide ((10 : Int) < np) = true ∧ decide ((np : Int) ≤ 4096) = false ∧ decide ((4200 : Int) < np) = false) := by
          rcases h2 with h2 | h2
          · exact .inl ⟨by simp; omega, by simp; omega⟩
          · exact .inr ⟨by simp; omega, by simp; omega, by simp; omega⟩
        clear ht h1 h2
        rcases hor with ⟨e2, e3⟩ | ⟨e2, e4, e3⟩
        all_goals go_wp2_with (first | ((with_reducible refine wpList_load_at ?_ 42 _ rfl ?_ HL42.out ?_); rfl; rfl) | ((with_reducible refine wpList_store_at ?_ 42 _ _ rfl ?_ ?_ (HS42.out _ ?_) ?_); rfl; rfl; rfl; rfl))
        all_goals go_roundw
        all_goals first | exact ⟨k + 1, by go_num, by omega, HXA.out, by rw [HST.out, HALL.out, HT.out]; rfl⟩ | (simp [intOf]; omega)
      · have HT := Lib.hid (show fewB ns = false by rw [HF.out, HNO.out ht]; rfl)
        have hor : (decide ((10 : Int) < np) = true ∧ decide ((np : Int) ≤ 4096) = true) ∨ (decide ((10 : Int) < np) = true ∧ decide ((np : Int) ≤ 4096) = false ∧ decide ((4200 : Int) < np) = true) ∨ (decide ((10 : Int) < np) = false ∧ decide ((4200 : Int) < np) = false ∧ decide ((200 : Int) < nl) = true) ∨ (decide ((10 : Int) < np) = true ∧ decide ((np : Int) ≤ 4096) = false ∧ decide ((4200 : Int) < np) = false ∧ decide ((200 : Int) < nl) = true) := by
          rcases h2 with h2 | h2 | ⟨h2 | h2, h3⟩
          · exact .inl ⟨by simp; omega, by simp; omega⟩
          · exact .inr (.inl ⟨by simp; omega, by simp; omega, by simp; omega⟩)
          · exact .inr (.inr (.inl ⟨by simp; omega, by simp; omega, by simp; omega⟩))
          · exact .inr (.inr (.inr ⟨by simp; omega, by simp; omega, by simp; omega, by simp; omega⟩))
        clear ht h2
        rcases hor with ⟨e1, e2⟩ | ⟨e1, e2, e3⟩ | ⟨e1, e2, e3⟩ | ⟨e1, e2, e3, e4⟩
        all_goals go_wp2_with (first | ((with_reducible refine wpList_load_at ?_ 42 _ rfl ?_ HL42.out ?_); rfl; rfl) | ((with_reducible refine wpList_store_at ?_ 42 _ _ rfl ?_ ?_ (HS42.out _ ?_) ?_); rfl; rfl; rfl; rfl))
        all_goals go_ret
        all_goals exact ⟨by rw [HT.out]; rfl, HXA.out⟩
    · have hkn : n = k := by omega
      subst hkn
      have hall := HALL.out
      rw [List.take_of_length_le (by rw [← HN.out]; exact Nat.le_refl _)] at hall
      have hf := HF.out
      rw [hall, Bool.true_and] at hf
      have HF2 := Lib.hid hf
      clear hall hf
      by_cases h30 : n ≤ 30
      · have h30i : (n : Int) ≤ 30 := by omega
        go_wp2_with fail
        go_ret
        refine ⟨?_, HX.out⟩
        rw [HF2.out, decide_eq_true h30]; rfl
      · have h30i : decide ((n : Int) ≤ 30) = false := by simp; omega
        by_cases h5 : 512 < n
        · have h5i : (512 : Int) < n := by omega
          by_cases h6 : n < 600
          · have h6i : (n : Int) < 600 := by omega
            go_wp2_with fail
            go_ret
            refine ⟨?_, HX.out⟩
            rw [HF2.out, decide_eq_false h30, decide_eq_true h5, decide_eq_true h6]; rfl
          · have h6i : decide ((n : Int) < 600) = false := by simp; omega
            go_wp2_with fail
            go_ret
            refine ⟨?_, HX.out⟩
            rw [HF2.out, decide_eq_false h30, decide_eq_true h5, decide_eq_false h6]; rfl
        · have h5i : decide ((512 : Int) < n) = false := by simp; omega
          go_wp2_with fail
          go_ret
          refine ⟨?_, HX.out⟩
          rw [HF2.out, decide_eq_false h30, decide_eq_false h5]; rfl
end Go.Proofs.YtefabpgfhghpgaaDoor
end

section
/- The statements' as. -/
namespace Go.Proofs.YtefabpgfhghpgaaDoor
open Go.RowKit Go.My

theorem node_infoR : (Tryd.prog.info? 51).map (fun i => (i.zero, i.size, i.bytes)) = some (some (.agg (nodeV node0 (.slice none 0 0)).toArray), 36, 88) := by kernel_rfl
theorem ownseq_nodes {w wo : World} {B : Nat} {T : TypeId} {ns : List NodeL} {v : Value} (h : OwnSeq w B T 36 (fun _ n cs => IsNode wo n cs) ns v) (e : Ext No wo w) : IsNodes w ns v := by
  obtain ⟨a, c, rfl⟩ := OwnSeq.len h
  have hc : ns.length ≤ c ∧ c ≤ 9223372036854775807 := by
    obtain ⟨us, h1, -⟩ := h
    rcases h1.2 with ⟨he, h0⟩ | ⟨g, cap, cur, he, -, -, h2, h3, -⟩
    · simp only [Value.slice.injEq] at he; omega
    · simp only [Value.slice.injEq] at he; unfold maxLen at h3; omega
  refine ⟨a, c, rfl, hc.1, hc.2, ⟨fun i hi => ?_⟩⟩
  obtain ⟨b, us, rfl, hn, hcs⟩ := OwnSeq.get h i _ (List.getElem?_eq_getElem hi)
  have e1 : ns.getD i node0 = ns[i] := by simp [List.getD_eq_getElem?_getD, List.getElem?_eq_getElem hi]
  rw [e1]
  refine ⟨b, 0, us, rfl, fun j v hv => ?_, hn.ext0 e⟩
  have hj : j < 36 := by have := (List.getElem?_eq_some_iff.1 hv).1; rw [hn.length] at this; exact this
  rw [Nat.zero_add, ← hcs j hj]
  exact hv
theorem one_of {cs : List Value} (h : cs.toArray.all (·.oneCell') = true) : ∀ u ∈ cs, u.oneCell' = true := fun u hu => (Array.all_eq_true_iff_forall_mem.1 h) u (by simpa using hu)

set_option maxRecDepth 100000 in
set_option maxHeartbeats 8000000 in
theorem as_any (ns : List NodeL) (v : Value) (w : World) (hv : IsNodes w ns v) (hl : ns.length ≤ 1000000000) :
    Calls Tryd.prog 12 #[v] w fun e w' => ∃ v', e = .returned v' ∧ IsNodes w' ns v' ∧ Ext No w w' := by
  obtain ⟨a, c, rfl, hc1, hc2, hat⟩ := id hv
  obtain ⟨n, hn⟩ : ∃ n, n = ns.length := ⟨_, rfl⟩
  rw [← hn] at hc1 hl ⊢
  have HAT := Lib.hid hat; have HN := Lib.hid hn
  have HX0 := Lib.hid (show Ext No w (w.alloc (.cells #[] 51)) from (Ext.refl No w).alloc _)
  have HO0 := Lib.hid (show OwnSeq (w.alloc (.cells #[] 51)) w.heap.size 51 36 (fun _ n cs => IsNode w n cs) [] (.slice (some ⟨w.heap.size, 0, none⟩) 0 0) from ⟨[], World.ownsRow_made w #[] 0 (Nat.le_refl _) (by decide) rfl, fun i x hx => by simp at hx⟩)
  have HZ36 := Lib.hid (show (Value.agg (nodeV node0 (.slice none 0 0)).toArray).cells.size = 36 by rfl)
  have HP36 := Lib.hid (show 0 < 36 by decide)
  clear hv hat hn
  go_enter Tryd.func12, Tryd.ntmps12
  go_wp2_with fail
  go_loopw [3, 9] (fun out i wr => ∃ k : Nat, i = .int .i64 k ∧ k ≤ n ∧ Ext No w wr ∧ OwnSeq wr w.heap.size 51 36 (fun _ n cs => IsNode w n cs) (ns.take k) out) (fun _ i _ => n - (intOf i).toNat)
  case atStart => exact ⟨0, rfl, Nat.zero_le _, HX0.out, HO0.out⟩
  case round =>
    obtain ⟨k, rfl, hk, hx, hown⟩ := hrel
    have HX := Lib.hid hx
    obtain ⟨oa, oc, rfl⟩ := OwnSeq.len hown
    have hlk : (ns.take k).length = k := by rw [List.length_take, ← HN.out]; omega
    rw [hlk] at hown ⊢
    have HOW := Lib.hid hown; have HLK := Lib.hid hlk
    clear hx hown hlk HX0 HO0
    by_cases hlt : k < n
    · have hltI : (k : Int) < n := by omega
      have hlt' : k < ns.length := by rw [← HN.out]; exact hlt
      obtain ⟨b, off, cs, rfl, hra, hnd⟩ := HAT.out.at_ k hlt'
      have htk : ns.take (k + 1) = ns.take k ++ [ns.getD k node0] := by
        rw [List.take_add_one, List.getElem?_eq_getElem hlt']
        simp [List.getD_eq_getElem?_getD, List.getElem?_eq_getElem hlt']
      generalize ns.getD k node0 = nd at *
      have hbl := hnd.length
      have h1 := hnd.one
      have HL42 := Lib.hid (run_loadAt_mid (P := Tryd.prog) wr b (off + k * 36) 42 cs _ (rangeAt.ext0 hra HX.out) Tryd.underlying42 rfl (by rw [hbl]; exact info42))
      have HS42 := Lib.hid (store_node wr cs hbl h1)
      have HLN := Lib.hid (run_loadAt_mid (P := Tryd.prog) (wr.alloc (.cells cs.toArray 42)) wr.heap.size 0 42 cs _ (rangeAt.blk (Blk.new wr cs.toArray 42) 0) Tryd.underlying42 rfl (by rw [hbl]; exact info42))
      have hfill := fill36 cs hbl
      obtain ⟨us, ho, he⟩ := HOW.out
      rw [HLK.out] at ho
      have HO3 := Lib.hid ((ho.alloc (.cells cs.toArray 42)).alloc (.cells cs.toArray 51))
      have HBB := Lib.hid (show Blk ((wr.alloc (.cells cs.toArray 42)).alloc (.cells cs.toArray 51)) (wr.heap.size + 1) cs.toArray 51 by
        have h := Blk.new (wr.alloc (.cells cs.toArray 42)) cs.toArray 51
        rw [World.size_alloc] at h
        exact h)
      have HE := Lib.hid he; have HND := Lib.hid hnd; have HTK := Lib.hid htk; have HBL := Lib.hid hbl; have HB1 := Lib.hid (one_of h1)
      have HNM := Lib.hid (show k + 1 ≤ 9223372036854775807 ∧ (k + 1) * 88 ≤ 140737488355328 by omega)
      have HZ := Lib.hid (show w.heap.size ≤ ((wr.alloc (.cells cs.toArray 42)).alloc (.cells cs.toArray 51)).heap.size from (((HX.out.alloc (.cells cs.toArray 42)).alloc (.cells cs.toArray 51))).size)
      clear hra hnd htk ho he h1 hlt'
      go_wp2_with (first
        | ((with_reducible refine wpList_load_at ?_ 42 _ rfl ?_ HL42.out ?_); rfl; rfl)
        | ((with_reducible refine wpList_store_at ?_ 42 _ _ rfl ?_ ?_ (HS42.out _ ?_) ?_); rfl; rfl; rfl; rfl)
        | ((with_reducible refine wpList_load_at ?_ 42 _ rfl ?_ HLN.out ?_); rfl; rfl)
        | (at_builtin; refine wpList_appS _ cs 36 HP36.out rfl _ _ 33 rfl w.heap.size 51 _ _ node_infoR Tryd.underlying33 HZ36.out _ _ _ rfl HO3.out _ _ rfl HBB.out HBL.out HB1.out HNM.out.1 HNM.out.2 HZ.out ?_; intro v' w7 hown7 hg7 hat7; obtain ⟨a7, c7, rfl⟩ := own_form hown7))
      go_roundw
      case rel =>
        refine ⟨k + 1, by go_num, by omega, ((HX.out.alloc _).alloc _).grown hg7 (fun j hj h => absurd h (by have := (World.ownsRow.lt HO3.out j hj).1; omega)), ?_⟩
        rw [HTK.out]
        have h := OwnSeq.app (E := fun (_ : World) n cs => IsNode w n cs) (w := (wr.alloc (.cells cs.toArray 42)).alloc (.cells cs.toArray 51)) (w' := w7) (y := nd) (xs := ns.take k) (by rw [HLK.out]; exact HO3.out) (fun i y hy => HE.out i y hy) HBL.out HND.out (fun _ _ h => h) (by rw [HLK.out]; exact hown7)
        exact h
      case measure => simp [intOf]; omega
    · have hkn : n = k := by omega
      subst hkn
      have ho := HOW.out
      rw [show ns.take n = ns by rw [HN.out]; exact List.take_length] at ho
      have HOF := Lib.hid ho
      clear ho
      go_wp2_with fail
      go_ret
      exact ⟨_, rfl, ownseq_nodes HOF.out HX.out, HX.out⟩
end Go.Proofs.YtefabpgfhghpgaaDoor
end

section
/- The documents' answer: SameIDs, Alike, Same. Printed by wip/mktsame.py. -/
namespace Go.Proofs.YtefabpgfhghpgaaDoor
open Go.RowKit Go.My

section
variable {P : Program} {op : Oper} {a : Act} {w : World} {K : Act → World → Prop} {Q : Exit → Act → World → Prop}
theorem wp_load_known (ty : TypeId) (x : Operand) (ho : op.op = .load ty x) {u v : Value} (hx : a.eval x = u) (hl : (Instr.loadAt ty u).run P w = .ok v w) (h : K (a.put op.dst v) w) : op.wp P a w K Q := by
  unfold Oper.wp execOp
  simp only [ho, hx, Sem.run_bind, hl, Result.andThen_ok, Sem.run_pure]
  exact h
end
theorem take_step {α : Type} (ls ks : List α) (d : α) (k : Nat) (h1 : k < ls.length) (h2 : k < ks.length) (h : ls.take k = ks.take k) : ls.take (k + 1) = ks.take (k + 1) ↔ ls.getD k d = ks.getD k d := by
  rw [List.take_add_one, List.take_add_one, h, List.getElem?_eq_getElem h1, List.getElem?_eq_getElem h2, List.getD_eq_getElem?_getD, List.getD_eq_getElem?_getD, List.getElem?_eq_getElem h1, List.getElem?_eq_getElem h2]
  simp only [Option.toList_some, Option.getD_some, List.append_cancel_left_eq, List.cons.injEq, and_true]
theorem ids_load {w : World} {b o : Nat} {x : List UInt8} (h : w.rangeAt b o (byts x)) (hl : x.length = 32) : ∀ W, Ext No w W → (Instr.loadAt 40 (.pointer (some ⟨b, o, none⟩))).run Tryd.prog W = .ok (.agg (byts x).toArray) W := fun W hW =>
  run_loadAt_mid (P := Tryd.prog) W b o 40 (byts x) _ (rangeAt.ext0 h hW) Tryd.underlying40 rfl (by rw [byts_length, hl]; exact info40)
theorem infoR : (Tryd.prog.info? 51).map (·.size) = some 36 := by kernel_rfl
theorem node_load {w : World} {b o : Nat} {cs : List Value} (h : w.rangeAt b o cs) (hl : cs.length = 36) : ∀ W, Ext No w W → (Instr.loadAt 51 (.pointer (some ⟨b, o, none⟩))).run Tryd.prog W = .ok (.agg cs.toArray) W := fun W hW =>
  run_loadAt_mid (P := Tryd.prog) W b o 51 cs _ (rangeAt.ext0 h hW) Tryd.underlying51 rfl (by rw [hl]; exact infoR)
def SidV (x y : List UInt8) (b1 o1 b2 o2 n c d k : Nat) : Nat → Value → World → Prop
  | 0, v, w => v = .slice (some ⟨b1, o1, none⟩) n c
  | 1, v, w => v = .int .i64 (k : Int)
  | 2, v, w => v = .pointer (some ⟨b1, o1 + k * 32, none⟩)
  | 3, v, w => v = .agg (byts x).toArray
  | 4, v, w => v = .slice (some ⟨b2, o2, none⟩) n d
  | 5, v, w => v = .int .i64 (k : Int)
  | 6, v, w => v = .pointer (some ⟨b2, o2 + k * 32, none⟩)
  | 7, v, w => v = .agg (byts y).toArray
  | _, _, _ => True
theorem SidV_ext (x y : List UInt8) (b1 o1 b2 o2 n c d k : Nat) : ∀ i v w w', SidV x y b1 o1 b2 o2 n c d k i v w → Ext No w w' → SidV x y b1 o1 b2 o2 n c d k i v w'
  | 0, _, _, _, h, _ => h
  | 1, _, _, _, h, _ => h
  | 2, _, _, _, h, _ => h
  | 3, _, _, _, h, _ => h
  | 4, _, _, _, h, _ => h
  | 5, _, _, _, h, _ => h
  | 6, _, _, _, h, _ => h
  | 7, _, _, _, h, _ => h
  | _ + 8, _, _, _, _, _ => trivial
def AlkV (x y : List UInt8) (b1 o1 b2 o2 n c d k p1 p2 : Nat) : Nat → Value → World → Prop
  | 0, v, w => v = .pointer (some ⟨p1, 3, none⟩)
  | 1, v, w => v = .slice (some ⟨b1, o1, none⟩) n c
  | 2, v, w => v = .int .i64 (k : Int)
  | 3, v, w => v = .pointer (some ⟨b1, o1 + k * 32, none⟩)
  | 4, v, w => v = .agg (byts x).toArray
  | 5, v, w => v = .pointer (some ⟨p2, 3, none⟩)
  | 6, v, w => v = .slice (some ⟨b2, o2, none⟩) n d
  | 7, v, w => v = .int .i64 (k : Int)
  | 8, v, w => v = .pointer (some ⟨b2, o2 + k * 32, none⟩)
  | 9, v, w => v = .agg (byts y).toArray
  | _, _, _ => True
theorem AlkV_ext (x y : List UInt8) (b1 o1 b2 o2 n c d k p1 p2 : Nat) : ∀ i v w w', AlkV x y b1 o1 b2 o2 n c d k p1 p2 i v w → Ext No w w' → AlkV x y b1 o1 b2 o2 n c d k p1 p2 i v w'
  | 0, _, _, _, h, _ => h
  | 1, _, _, _, h, _ => h
  | 2, _, _, _, h, _ => h
  | 3, _, _, _, h, _ => h
  | 4, _, _, _, h, _ => h
  | 5, _, _, _, h, _ => h
  | 6, _, _, _, h, _ => h
  | 7, _, _, _, h, _ => h
  | 8, _, _, _, h, _ => h
  | 9, _, _, _, h, _ => h
  | _ + 10, _, _, _, _, _ => trivial
def SamV (u1 u2 : Array Value) (b1 o1 b2 o2 n c d k : Nat) (t : Bool) : Nat → Value → World → Prop
  | 0, v, w => v = .slice (some ⟨b1, o1, none⟩) n c
  | 1, v, w => v = .int .i64 (k : Int)
  | 2, v, w => v = .pointer (some ⟨b1, o1 + k * 36, none⟩)
  | 3, v, w => v = .agg u1
  | 4, v, w => v = .slice (some ⟨b2, o2, none⟩) n d
  | 5, v, w => v = .int .i64 (k : Int)
  | 6, v, w => v = .pointer (some ⟨b2, o2 + k * 36, none⟩)
  | 7, v, w => v = .agg u2
  | 8, v, w => v = .bool t
  | _, _, _ => True
theorem SamV_ext (u1 u2 : Array Value) (b1 o1 b2 o2 n c d k : Nat) (t : Bool) : ∀ i v w w', SamV u1 u2 b1 o1 b2 o2 n c d k t i v w → Ext No w w' → SamV u1 u2 b1 o1 b2 o2 n c d k t i v w'
  | 0, _, _, _, h, _ => h
  | 1, _, _, _, h, _ => h
  | 2, _, _, _, h, _ => h
  | 3, _, _, _, h, _ => h
  | 4, _, _, _, h, _ => h
  | 5, _, _, _, h, _ => h
  | 6, _, _, _, h, _ => h
  | 7, _, _, _, h, _ => h
  | 8, _, _, _, h, _ => h
  | _ + 9, _, _, _, _, _ => trivial

set_option maxRecDepth 100000 in
set_option maxHeartbeats 8000000 in
theorem sameIDs_any (xs ys : List (List UInt8)) (v u : Value) (w : World) (h : IsIDs w xs v) (h' : IsIDs w ys u) :
    Calls Tryd.prog 18 #[v, u] w fun e w' => e = .returned (.bool (decide (xs = ys))) ∧ Ext No w w' := by
  obtain ⟨a, c, rfl, hc1, hc2, hat1⟩ := h
  obtain ⟨b, d, rfl, hc3, hc4, hat2⟩ := h'
  obtain ⟨n, hn⟩ : ∃ n, n = xs.length := ⟨_, rfl⟩
  obtain ⟨m, hm⟩ : ∃ m, m = ys.length := ⟨_, rfl⟩
  rw [← hn] at hc1 ⊢; rw [← hm] at hc3 ⊢
  have H1 := Lib.hid hat1; have H2 := Lib.hid hat2; have HN := Lib.hid hn; have HM := Lib.hid hm
  clear hat1 hat2 hn hm
  by_cases hnm : n = m
  case neg =>
    have hne : ¬ ((n : Int) = m) := by omega
    go_enter Tryd.func18, Tryd.ntmps18
    go_wp2_with fail
    go_ret
    refine ⟨?_, Ext.refl _ _⟩
    have : ¬ xs = ys := fun h => hnm (by rw [HN.out, HM.out, h])
    simp [this]
  subst hnm
  go_enter Tryd.func18, Tryd.ntmps18
  go_wp2_with fail
  go_loopw [5] (fun i wr => ∃ k : Nat, i = .int .i64 k ∧ k ≤ n ∧ Ext No w wr ∧ xs.take k = ys.take k) (fun i _ => n - (intOf i).toNat)
  case atStart => exact ⟨0, rfl, Nat.zero_le _, Ext.refl _ _, by simp⟩
  case round =>
    obtain ⟨k, rfl, hk, hx0, ht⟩ := hrel
    have HX := Lib.hid hx0; have HT := Lib.hid ht
    clear hx0 ht
    by_cases hlt : k < n
    · have hltI : (k : Int) < n := by omega
      have hlx : k < xs.length := by rw [← HN.out]; exact hlt
      have hly : k < ys.length := by rw [← HM.out]; exact hlt
      obtain ⟨b1, o1, rfl, hr1⟩ := H1.out.at_ k hlx
      obtain ⟨b2, o2, rfl, hr2⟩ := H2.out.at_ k hly
      have hst := take_step xs ys [] k hlx hly HT.out
      have hx32 := H1.out.len (xs.getD k []) (by rw [List.getD_eq_getElem?_getD, List.getElem?_eq_getElem hlx]; exact List.getElem_mem _)
      have hy32 := H2.out.len (ys.getD k []) (by rw [List.getD_eq_getElem?_getD, List.getElem?_eq_getElem hly]; exact List.getElem_mem _)
      generalize xs.getD k [] = x at *
      generalize ys.getD k [] = y at *
      have HL1 := Lib.hid (ids_load (rangeAt.ext0 hr1 HX.out) hx32); have HL2 := Lib.hid (ids_load (rangeAt.ext0 hr2 HX.out) hy32)
      have hze := id_eq x y hx32 hy32
      have HST := Lib.hid hst
      have hce : (x = y ∧ decide (x = y) = true) ∨ (x ≠ y ∧ decide (x = y) = false) := by
        by_cases h : x = y
        · exact .inl ⟨h, decide_eq_true h⟩
        · exact .inr ⟨h, decide_eq_false h⟩
      clear hr1 hr2 hst hx32 hy32 hlx hly
      rcases hce with ⟨he, hd⟩ | ⟨he, hd⟩
      · rw [hd] at hze
        have HEQ := Lib.hid (HST.out.2 he)
        clear he hd
        go_wp2_with fail
        refine wp_region_head 8 No (SidV x y b1 o1 b2 o2 n c d k) (by kernel_rfl) (by kernel_rfl) (by kernel_rfl) (SidV_ext x y b1 o1 b2 o2 n c d k) (HeadSteps.cons ?_ (HeadSteps.cons ?_ (HeadSteps.cons ?_ (HeadSteps.cons ?_ (HeadSteps.cons ?_ (HeadSteps.cons ?_ (HeadSteps.cons ?_ (HeadSteps.cons ?_ HeadSteps.nil)))))))) ?_
        · -- slot 17
          intro ac wk hx hsame hdep K hK
          have d0 : ac.tmps.getD 0 undef = .slice (some ⟨b1, o1, none⟩) n c := hsame 0 (by kernel_rfl)
          have e0 := d0
          rw [Array.getD_eq_getD_getElem?] at e0
          clear hsame hdep
          go_simp
          exact hK _ _ (Ext.refl _ wk) rfl
        · -- slot 18
          intro ac wk hx hsame hdep K hK
          have d5 : ac.tmps.getD 5 undef = .int .i64 (k : Int) := hsame 5 (by kernel_rfl)
          have e5 := d5
          rw [Array.getD_eq_getD_getElem?] at e5
          clear hsame hdep
          go_simp
          exact hK _ _ (Ext.refl _ wk) rfl
        · -- slot 19
          intro ac wk hx hsame hdep K hK
          have d17 : ac.tmps.getD 17 undef = .slice (some ⟨b1, o1, none⟩) n c := hdep 0 (by kernel_rfl)
          have e17 := d17
          rw [Array.getD_eq_getD_getElem?] at e17
          have d18 : ac.tmps.getD 18 undef = .int .i64 (k : Int) := hdep 1 (by kernel_rfl)
          have e18 := d18
          rw [Array.getD_eq_getD_getElem?] at e18
          clear hsame hdep
          go_simp
          exact hK _ _ (Ext.refl _ wk) rfl
        · -- slot 20
          intro ac wk hx hsame hdep K hK
          have d19 : ac.tmps.getD 19 undef = .pointer (some ⟨b1, o1 + k * 32, none⟩) := hdep 2 (by kernel_rfl)
          have e19 := d19
          rw [Array.getD_eq_getD_getElem?] at e19
          clear hsame hdep
          exact wp_load_known _ _ rfl d19 (HL1.out wk (Dr.extN hx)) (hK _ _ (Ext.refl _ wk) rfl)
        · -- slot 21
          intro ac wk hx hsame hdep K hK
          have d1 : ac.tmps.getD 1 undef = .slice (some ⟨b2, o2, none⟩) n d := hsame 1 (by kernel_rfl)
          have e1 := d1
          rw [Array.getD_eq_getD_getElem?] at e1
          clear hsame hdep
          go_simp
          exact hK _ _ (Ext.refl _ wk) rfl
        · -- slot 22
          intro ac wk hx hsame hdep K hK
          have d5 : ac.tmps.getD 5 undef = .int .i64 (k : Int) := hsame 5 (by kernel_rfl)
          have e5 := d5
          rw [Array.getD_eq_getD_getElem?] at e5
          clear hsame hdep
          go_simp
          exact hK _ _ (Ext.refl _ wk) rfl
        · -- slot 23
          intro ac wk hx hsame hdep K hK
          have d21 : ac.tmps.getD 21 undef = .slice (some ⟨b2, o2, none⟩) n d := hdep 4 (by kernel_rfl)
          have e21 := d21
          rw [Array.getD_eq_getD_getElem?] at e21
          have d22 : ac.tmps.getD 22 undef = .int .i64 (k : Int) := hdep 5 (by kernel_rfl)
          have e22 := d22
          rw [Array.getD_eq_getD_getElem?] at e22
          clear hsame hdep
          go_simp
          exact hK _ _ (Ext.refl _ wk) rfl
        · -- slot 24
          intro ac wk hx hsame hdep K hK
          have d23 : ac.tmps.getD 23 undef = .pointer (some ⟨b2, o2 + k * 32, none⟩) := hdep 6 (by kernel_rfl)
          have e23 := d23
          rw [Array.getD_eq_getD_getElem?] at e23
          clear hsame hdep
          exact wp_load_known _ _ rfl d23 (HL2.out wk (Dr.extN hx)) (hK _ _ (Ext.refl _ wk) rfl)
        · intro ac wk hx hdf hsz hsame hvals
          have f0 : ac.tmps.getD 0 undef = .slice (some ⟨b1, o1, none⟩) n c := hsame 0 (by kernel_rfl)
          have f1 : ac.tmps.getD 1 undef = .slice (some ⟨b2, o2, none⟩) n d := hsame 1 (by kernel_rfl)
          have f2 : ac.tmps.getD 2 undef = undef := hsame 2 (by kernel_rfl)
          have f3 : ac.tmps.getD 3 undef = undef := hsame 3 (by kernel_rfl)
          obtain ⟨u4, f4⟩ : ∃ u, ac.tmps.getD 4 undef = u := ⟨_, rfl⟩
          have f5 : ac.tmps.getD 5 undef = .int .i64 (k : Int) := hsame 5 (by kernel_rfl)
          have f6 : ac.tmps.getD 6 undef = .slice (some ⟨b1, o1, none⟩) n c := hsame 6 (by kernel_rfl)
          have f7 : ac.tmps.getD 7 undef = .int .i64 (n : Int) := hsame 7 (by kernel_rfl)
          have f8 : ac.tmps.getD 8 undef = .slice (some ⟨b2, o2, none⟩) n d := hsame 8 (by kernel_rfl)
          have f9 : ac.tmps.getD 9 undef = .int .i64 (n : Int) := hsame 9 (by kernel_rfl)
          have f10 : ac.tmps.getD 10 undef = .bool false := hsame 10 (by kernel_rfl)
          obtain ⟨u11, f11⟩ : ∃ u, ac.tmps.getD 11 undef = u := ⟨_, rfl⟩
          obtain ⟨u12, f12⟩ : ∃ u, ac.tmps.getD 12 undef = u := ⟨_, rfl⟩
          obtain ⟨u13, f13⟩ : ∃ u, ac.tmps.getD 13 undef = u := ⟨_, rfl⟩
          obtain ⟨u14, f14⟩ : ∃ u, ac.tmps.getD 14 undef = u := ⟨_, rfl⟩
          obtain ⟨u15, f15⟩ : ∃ u, ac.tmps.getD 15 undef = u := ⟨_, rfl⟩
          obtain ⟨u16, f16⟩ : ∃ u, ac.tmps.getD 16 undef = u := ⟨_, rfl⟩
          have f17 : ac.tmps.getD 17 undef = .slice (some ⟨b1, o1, none⟩) n c := hvals 0 (by decide)
          have f18 : ac.tmps.getD 18 undef = .int .i64 (k : Int) := hvals 1 (by decide)
          have f19 : ac.tmps.getD 19 undef = .pointer (some ⟨b1, o1 + k * 32, none⟩) := hvals 2 (by decide)
          have f20 : ac.tmps.getD 20 undef = .agg (byts x).toArray := hvals 3 (by decide)
          have f21 : ac.tmps.getD 21 undef = .slice (some ⟨b2, o2, none⟩) n d := hvals 4 (by decide)
          have f22 : ac.tmps.getD 22 undef = .int .i64 (k : Int) := hvals 5 (by decide)
          have f23 : ac.tmps.getD 23 undef = .pointer (some ⟨b2, o2 + k * 32, none⟩) := hvals 6 (by decide)
          have f24 : ac.tmps.getD 24 undef = .agg (byts y).toArray := hvals 7 (by decide)
          obtain ⟨u25, f25⟩ : ∃ u, ac.tmps.getD 25 undef = u := ⟨_, rfl⟩
          have hlit : ac = ⟨#[.slice (some ⟨b1, o1, none⟩) n c, .slice (some ⟨b2, o2, none⟩) n d, undef, undef, u4, .int .i64 (k : Int), .slice (some ⟨b1, o1, none⟩) n c, .int .i64 (n : Int), .slice (some ⟨b2, o2, none⟩) n d, .int .i64 (n : Int), .bool false, u11, u12, u13, u14, u15, u16, .slice (some ⟨b1, o1, none⟩) n c, .int .i64 (k : Int), .pointer (some ⟨b1, o1 + k * 32, none⟩), .agg (byts x).toArray, .slice (some ⟨b2, o2, none⟩) n d, .int .i64 (k : Int), .pointer (some ⟨b2, o2 + k * 32, none⟩), .agg (byts y).toArray, u25], []⟩ := by
            refine (act_lit hsz hdf).trans ?_
            rw [show List.range _ = [0, 1, 2, 3, 4, 5, 6, 7, 8, 9, 10, 11, 12, 13, 14, 15, 16, 17, 18, 19, 20, 21, 22, 23, 24, 25] from rfl]
            simp only [List.map_cons, List.map_nil, f0, f1, f2, f3, f4, f5, f6, f7, f8, f9, f10, f11, f12, f13, f14, f15, f16, f17, f18, f19, f20, f21, f22, f23, f24, f25]
          clear hvals hsame hdf hsz f0 f1 f2 f3 f4 f5 f6 f7 f8 f9 f10 f11 f12 f13 f14 f15 f16 f17 f18 f19 f20 f21 f22 f23 f24 f25
          subst hlit
          simp only [List.drop_succ_cons, List.drop_zero]
          have hxx := HX.out.trans' hx
          go_wp2_with fail
          go_roundw
          case rel => exact ⟨k + 1, by go_num, by omega, hxx, HEQ.out⟩
          case measure => simp [intOf]; omega
      · rw [hd] at hze
        have HEQ := Lib.hid (show decide (xs = ys) = false from decide_eq_false (fun h => he (HST.out.1 (by rw [h]))))
        clear he hd
        go_wp2_with fail
        refine wp_region_head 8 No (SidV x y b1 o1 b2 o2 n c d k) (by kernel_rfl) (by kernel_rfl) (by kernel_rfl) (SidV_ext x y b1 o1 b2 o2 n c d k) (HeadSteps.cons ?_ (HeadSteps.cons ?_ (HeadSteps.cons ?_ (HeadSteps.cons ?_ (HeadSteps.cons ?_ (HeadSteps.cons ?_ (HeadSteps.cons ?_ (HeadSteps.cons ?_ HeadSteps.nil)))))))) ?_
        · -- slot 17
          intro ac wk hx hsame hdep K hK
          have d0 : ac.tmps.getD 0 undef = .slice (some ⟨b1, o1, none⟩) n c := hsame 0 (by kernel_rfl)
          have e0 := d0
          rw [Array.getD_eq_getD_getElem?] at e0
          clear hsame hdep
          go_simp
          exact hK _ _ (Ext.refl _ wk) rfl
        · -- slot 18
          intro ac wk hx hsame hdep K hK
          have d5 : ac.tmps.getD 5 undef = .int .i64 (k : Int) := hsame 5 (by kernel_rfl)
          have e5 := d5
          rw [Array.getD_eq_getD_getElem?] at e5
          clear hsame hdep
          go_simp
          exact hK _ _ (Ext.refl _ wk) rfl
        · -- slot 19
          intro ac wk hx hsame hdep K hK
          have d17 : ac.tmps.getD 17 undef = .slice (some ⟨b1, o1, none⟩) n c := hdep 0 (by kernel_rfl)
          have e17 := d17
          rw [Array.getD_eq_getD_getElem?] at e17
          have d18 : ac.tmps.getD 18 undef = .int .i64 (k : Int) := hdep 1 (by kernel_rfl)
          have e18 := d18
          rw [Array.getD_eq_getD_getElem?] at e18
          clear hsame hdep
          go_simp
          exact hK _ _ (Ext.refl _ wk) rfl
        · -- slot 20
          intro ac wk hx hsame hdep K hK
          have d19 : ac.tmps.getD 19 undef = .pointer (some ⟨b1, o1 + k * 32, none⟩) := hdep 2 (by kernel_rfl)
          have e19 := d19
          rw [Array.getD_eq_getD_getElem?] at e19
          clear hsame hdep
          exact wp_load_known _ _ rfl d19 (HL1.out wk (Dr.extN hx)) (hK _ _ (Ext.refl _ wk) rfl)
        · -- slot 21
          intro ac wk hx hsame hdep K hK
          have d1 : ac.tmps.getD 1 undef = .slice (some ⟨b2, o2, none⟩) n d := hsame 1 (by kernel_rfl)
          have e1 := d1
          rw [Array.getD_eq_getD_getElem?] at e1
          clear hsame hdep
          go_simp
          exact hK _ _ (Ext.refl _ wk) rfl
        · -- slot 22
          intro ac wk hx hsame hdep K hK
          have d5 : ac.tmps.getD 5 undef = .int .i64 (k : Int) := hsame 5 (by kernel_rfl)
          have e5 := d5
          rw [Array.getD_eq_getD_getElem?] at e5
          clear hsame hdep
          go_simp
          exact hK _ _ (Ext.refl _ wk) rfl
        · -- slot 23
          intro ac wk hx hsame hdep K hK
          have d21 : ac.tmps.getD 21 undef = .slice (some ⟨b2, o2, none⟩) n d := hdep 4 (by kernel_rfl)
          have e21 := d21
          rw [Array.getD_eq_getD_getElem?] at e21
          have d22 : ac.tmps.getD 22 undef = .int .i64 (k : Int) := hdep 5 (by kernel_rfl)
          have e22 := d22
          rw [Array.getD_eq_getD_getElem?] at e22
          clear hsame hdep
          go_simp
          exact hK _ _ (Ext.refl _ wk) rfl
        · -- slot 24
          intro ac wk hx hsame hdep K hK
          have d23 : ac.tmps.getD 23 undef = .pointer (some ⟨b2, o2 + k * 32, none⟩) := hdep 6 (by kernel_rfl)
          have e23 := d23
          rw [Array.getD_eq_getD_getElem?] at e23
          clear hsame hdep
          exact wp_load_known _ _ rfl d23 (HL2.out wk (Dr.extN hx)) (hK _ _ (Ext.refl _ wk) rfl)
        · intro ac wk hx hdf hsz hsame hvals
          have f0 : ac.tmps.getD 0 undef = .slice (some ⟨b1, o1, none⟩) n c := hsame 0 (by kernel_rfl)
          have f1 : ac.tmps.getD 1 undef = .slice (some ⟨b2, o2, none⟩) n d := hsame 1 (by kernel_rfl)
          have f2 : ac.tmps.getD 2 undef = undef := hsame 2 (by kernel_rfl)
          have f3 : ac.tmps.getD 3 undef = undef := hsame 3 (by kernel_rfl)
          obtain ⟨u4, f4⟩ : ∃ u, ac.tmps.getD 4 undef = u := ⟨_, rfl⟩
          have f5 : ac.tmps.getD 5 undef = .int .i64 (k : Int) := hsame 5 (by kernel_rfl)
          have f6 : ac.tmps.getD 6 undef = .slice (some ⟨b1, o1, none⟩) n c := hsame 6 (by kernel_rfl)
          have f7 : ac.tmps.getD 7 undef = .int .i64 (n : Int) := hsame 7 (by kernel_rfl)
          have f8 : ac.tmps.getD 8 undef = .slice (some ⟨b2, o2, none⟩) n d := hsame 8 (by kernel_rfl)
          have f9 : ac.tmps.getD 9 undef = .int .i64 (n : Int) := hsame 9 (by kernel_rfl)
          have f10 : ac.tmps.getD 10 undef = .bool false := hsame 10 (by kernel_rfl)
          obtain ⟨u11, f11⟩ : ∃ u, ac.tmps.getD 11 undef = u := ⟨_, rfl⟩
          obtain ⟨u12, f12⟩ : ∃ u, ac.tmps.getD 12 undef = u := ⟨_, rfl⟩
          obtain ⟨u13, f13⟩ : ∃ u, ac.tmps.getD 13 undef = u := ⟨_, rfl⟩
          obtain ⟨u14, f14⟩ : ∃ u, ac.tmps.getD 14 undef = u := ⟨_, rfl⟩
          obtain ⟨u15, f15⟩ : ∃ u, ac.tmps.getD 15 undef = u := ⟨_, rfl⟩
          obtain ⟨u16, f16⟩ : ∃ u, ac.tmps.getD 16 undef = u := ⟨_, rfl⟩
          have f17 : ac.tmps.getD 17 undef = .slice (some ⟨b1, o1, none⟩) n c := hvals 0 (by decide)
          have f18 : ac.tmps.getD 18 undef = .int .i64 (k : Int) := hvals 1 (by decide)
          have f19 : ac.tmps.getD 19 undef = .pointer (some ⟨b1, o1 + k * 32, none⟩) := hvals 2 (by decide)
          have f20 : ac.tmps.getD 20 undef = .agg (byts x).toArray := hvals 3 (by decide)
          have f21 : ac.tmps.getD 21 undef = .slice (some ⟨b2, o2, none⟩) n d := hvals 4 (by decide)
          have f22 : ac.tmps.getD 22 undef = .int .i64 (k : Int) := hvals 5 (by decide)
          have f23 : ac.tmps.getD 23 undef = .pointer (some ⟨b2, o2 + k * 32, none⟩) := hvals 6 (by decide)
          have f24 : ac.tmps.getD 24 undef = .agg (byts y).toArray := hvals 7 (by decide)
          obtain ⟨u25, f25⟩ : ∃ u, ac.tmps.getD 25 undef = u := ⟨_, rfl⟩
          have hlit : ac = ⟨#[.slice (some ⟨b1, o1, none⟩) n c, .slice (some ⟨b2, o2, none⟩) n d, undef, undef, u4, .int .i64 (k : Int), .slice (some ⟨b1, o1, none⟩) n c, .int .i64 (n : Int), .slice (some ⟨b2, o2, none⟩) n d, .int .i64 (n : Int), .bool false, u11, u12, u13, u14, u15, u16, .slice (some ⟨b1, o1, none⟩) n c, .int .i64 (k : Int), .pointer (some ⟨b1, o1 + k * 32, none⟩), .agg (byts x).toArray, .slice (some ⟨b2, o2, none⟩) n d, .int .i64 (k : Int), .pointer (some ⟨b2, o2 + k * 32, none⟩), .agg (byts y).toArray, u25], []⟩ := by
            refine (act_lit hsz hdf).trans ?_
            rw [show List.range _ = [0, 1, 2, 3, 4, 5, 6, 7, 8, 9, 10, 11, 12, 13, 14, 15, 16, 17, 18, 19, 20, 21, 22, 23, 24, 25] from rfl]
            simp only [List.map_cons, List.map_nil, f0, f1, f2, f3, f4, f5, f6, f7, f8, f9, f10, f11, f12, f13, f14, f15, f16, f17, f18, f19, f20, f21, f22, f23, f24, f25]
          clear hvals hsame hdf hsz f0 f1 f2 f3 f4 f5 f6 f7 f8 f9 f10 f11 f12 f13 f14 f15 f16 f17 f18 f19 f20 f21 f22 f23 f24 f25
          subst hlit
          simp only [List.drop_succ_cons, List.drop_zero]
          have hxx := HX.out.trans' hx
          go_wp2_with fail
          go_ret
          exact ⟨by rw [HEQ.out]; rfl, hxx⟩
    · have hkn : n = k := by omega
      subst hkn
      have h := HT.out
      rw [List.take_of_length_le (by rw [← HN.out]; exact Nat.le_refl _), List.take_of_length_le (by rw [← HM.out]; exact Nat.le_refl _)] at h
      have HEQ := Lib.hid (decide_eq_true h)
      clear h
      go_wp2_with fail
      go_ret
      exact ⟨by rw [HEQ.out]; rfl, HX.out⟩

set_option maxRecDepth 100000 in
set_option maxHeartbeats 16000000 in
theorem alike_any (n1 n2 : NodeL) (cs1 cs2 : List Value) (w : World) (h : IsNode w n1 cs1) (h' : IsNode w n2 cs2) :
    Calls Tryd.prog 19 #[.agg cs1.toArray, .agg cs2.toArray] w fun e w' => e = .returned (.bool (decide (n1 = n2))) ∧ Ext No w w' := by
  obtain ⟨⟨pv1, hcs1, ⟨a1, c, rfl, hc1, hc1', hat1⟩⟩, hs1, -, -⟩ := h
  obtain ⟨⟨pv2, hcs2, ⟨a2, d, rfl, hc2, hc2', hat2⟩⟩, hs2, -, -⟩ := h'
  have hx1 : Ext No w (w.alloc (.cells cs1.toArray 51)) := (Ext.refl No w).alloc _
  have hx2 : Ext No (w.alloc (.cells cs1.toArray 51)) ((w.alloc (.cells cs1.toArray 51)).alloc (.cells cs2.toArray 51)) := (Ext.refl No _).alloc _
  have hB1 : Blk ((w.alloc (.cells cs1.toArray 51)).alloc (.cells cs2.toArray 51)) w.heap.size cs1.toArray 51 := (Blk.new w _ _).ext hx2 (fun s => s)
  have hB2 : Blk ((w.alloc (.cells cs1.toArray 51)).alloc (.cells cs2.toArray 51)) (w.heap.size + 1) cs2.toArray 51 := by
    have h := Blk.new (w.alloc (.cells cs1.toArray 51)) cs2.toArray 51
    rw [World.size_alloc] at h
    exact h
  obtain ⟨w0, hw0⟩ : ∃ w0, (w.alloc (.cells cs1.toArray 51)).alloc (.cells cs2.toArray 51) = w0 := ⟨_, rfl⟩
  obtain ⟨p1, hp1⟩ : ∃ b, w.heap.size = b := ⟨_, rfl⟩
  have hx0 := hx1.trans' hx2
  have HXL := Lib.hid hx0
  rw [hw0] at hB1 hB2 hx0
  rw [hp1] at hB1 hB2
  obtain ⟨p2, hp2⟩ : ∃ b, p1 + 1 = b := ⟨_, rfl⟩
  rw [hp2] at hB2
  obtain ⟨nm1, d1, z1, ps1, s1⟩ := n1
  obtain ⟨nm2, d2, z2, ps2, s2⟩ := n2
  dsimp only at *
  obtain ⟨n, hm1⟩ : ∃ m, m = ps1.length := ⟨_, rfl⟩
  obtain ⟨m2, hm2⟩ : ∃ m, m = ps2.length := ⟨_, rfl⟩
  rw [← hm1] at hcs1 hc1; rw [← hm2] at hcs2 hc2
  have f10 : cs1[0]? = some (.string (strB nm1)) := by rw [hcs1]; rfl
  have f11 : cs1[1]? = some (.bool d1) := by rw [hcs1]; rfl
  have f12 : cs1[2]? = some (.int .i64 z1) := by rw [hcs1]; rfl
  have f13 : cs1[3]? = some (.slice a1 n c) := by rw [hcs1]; rfl
  have f20 : cs2[0]? = some (.string (strB nm2)) := by rw [hcs2]; rfl
  have f21 : cs2[1]? = some (.bool d2) := by rw [hcs2]; rfl
  have f22 : cs2[2]? = some (.int .i64 z2) := by rw [hcs2]; rfl
  have f23 : cs2[3]? = some (.slice a2 m2 d) := by rw [hcs2]; rfl
  have HS1 := Lib.hid (ids_load (x := s1) (by have h := rangeAt.blk hB1 4; rw [hcs1] at h; exact h) hs1 w0 (Ext.refl _ _))
  have HS2 := Lib.hid (ids_load (x := s2) (by have h := rangeAt.blk hB2 4; rw [hcs2] at h; exact h) hs2 w0 (Ext.refl _ _))
  rw [← hw0, ← hp1] at HS1; rw [← hw0, ← hp2, ← hp1] at HS2
  have hq0 := strB_eq nm1 nm2
  have hq4 := id_eq s1 s2 hs1 hs2
  have HX := Lib.hid hx0; have HW0 := Lib.hid hw0; have HP1 := Lib.hid hp1; have HP2 := Lib.hid hp2; have HA1 := Lib.hid hat1; have HA2 := Lib.hid hat2; have HM1 := Lib.hid hm1; have HM2 := Lib.hid hm2; have HB1 := Lib.hid hB1; have HB2 := Lib.hid hB2
  have HNE : Hid (∀ f : NodeL → Bool, f ⟨nm1, d1, z1, ps1, s1⟩ ≠ f ⟨nm2, d2, z2, ps2, s2⟩ → decide (NodeL.mk nm1 d1 z1 ps1 s1 = ⟨nm2, d2, z2, ps2, s2⟩) = false) := Lib.hid fun f h => decide_eq_false (fun e => h (by rw [e]))
  clear hx1 hx2 hB1 hB2 hw0 hp1 hp2 hx0 hcs1 hcs2 hat1 hat2 hm1 hm2 hs1 hs2
  by_cases hn : nm1 = nm2
  case neg =>
    have HR := Lib.hid (show decide (NodeL.mk nm1 d1 z1 ps1 s1 = ⟨nm2, d2, z2, ps2, s2⟩) = false from decide_eq_false (fun e => hn (by cases e; rfl)))
    rw [decide_eq_false hn] at hq0
    go_enter Tryd.func19, Tryd.ntmps19
    go_wp2_with (first | ((with_reducible refine wpList_load_at ?_ 40 _ rfl ?_ HS1.out ?_); rfl; rfl) | ((with_reducible refine wpList_load_at ?_ 40 _ rfl ?_ HS2.out ?_); rfl; rfl))
    go_ret
    exact ⟨by rw [HR.out]; rfl, HXL.out⟩
  rw [decide_eq_true hn] at hq0
  have HNN := Lib.hid hn
  clear hn
  by_cases hdd : d1 = d2
  case neg =>
    have HR := Lib.hid (show decide (NodeL.mk nm1 d1 z1 ps1 s1 = ⟨nm2, d2, z2, ps2, s2⟩) = false from decide_eq_false (fun e => hdd (by cases e; rfl)))
    have hd3 : (d1 = true ∧ d2 = false) ∨ (d1 = false ∧ d2 = true) := by cases d1 <;> cases d2 <;> simp at hdd ⊢
    rcases hd3 with ⟨rfl, rfl⟩ | ⟨rfl, rfl⟩
    · go_enter Tryd.func19, Tryd.ntmps19
      go_wp2_with (first | ((with_reducible refine wpList_load_at ?_ 40 _ rfl ?_ HS1.out ?_); rfl; rfl) | ((with_reducible refine wpList_load_at ?_ 40 _ rfl ?_ HS2.out ?_); rfl; rfl))
      go_ret
      exact ⟨by rw [HR.out]; rfl, HXL.out⟩
    · go_enter Tryd.func19, Tryd.ntmps19
      go_wp2_with (first | ((with_reducible refine wpList_load_at ?_ 40 _ rfl ?_ HS1.out ?_); rfl; rfl) | ((with_reducible refine wpList_load_at ?_ 40 _ rfl ?_ HS2.out ?_); rfl; rfl))
      go_ret
      exact ⟨by rw [HR.out]; rfl, HXL.out⟩
  subst hdd
  by_cases hz : z1 = z2
  case neg =>
    have HR := Lib.hid (show decide (NodeL.mk nm1 d1 z1 ps1 s1 = ⟨nm2, d1, z2, ps2, s2⟩) = false from decide_eq_false (fun e => hz (by cases e; rfl)))
    have hz2 : (z1 == z2) = false := by simpa using hz
    go_enter Tryd.func19, Tryd.ntmps19
    go_wp2_with (first | ((with_reducible refine wpList_load_at ?_ 40 _ rfl ?_ HS1.out ?_); rfl; rfl) | ((with_reducible refine wpList_load_at ?_ 40 _ rfl ?_ HS2.out ?_); rfl; rfl))
    go_ret
    exact ⟨by rw [HR.out]; rfl, HXL.out⟩
  subst hz
  by_cases hs : s1 = s2
  case neg =>
    have HR := Lib.hid (show decide (NodeL.mk nm1 d1 z1 ps1 s1 = ⟨nm2, d1, z1, ps2, s2⟩) = false from decide_eq_false (fun e => hs (by cases e; rfl)))
    rw [decide_eq_false hs] at hq4
    go_enter Tryd.func19, Tryd.ntmps19
    go_wp2_with (first | ((with_reducible refine wpList_load_at ?_ 40 _ rfl ?_ HS1.out ?_); rfl; rfl) | ((with_reducible refine wpList_load_at ?_ 40 _ rfl ?_ HS2.out ?_); rfl; rfl))
    go_ret
    exact ⟨by rw [HR.out]; rfl, HXL.out⟩
  rw [decide_eq_true hs] at hq4
  have HSS := Lib.hid hs
  clear hs
  by_cases hm : n = m2
  case neg =>
    have HR := Lib.hid (show decide (NodeL.mk nm1 d1 z1 ps1 s1 = ⟨nm2, d1, z1, ps2, s2⟩) = false from decide_eq_false (fun e => hm (by rw [HM1.out, HM2.out]; cases e; rfl)))
    have hmi : ¬ (n : Int) = m2 := by omega
    have hmb : ((n : Int) == m2) = false := by simpa using hmi
    have hmc : (n == m2) = false := by simpa using hm
    go_enter Tryd.func19, Tryd.ntmps19
    go_wp2_with (first | ((with_reducible refine wpList_load_at ?_ 40 _ rfl ?_ HS1.out ?_); rfl; rfl) | ((with_reducible refine wpList_load_at ?_ 40 _ rfl ?_ HS2.out ?_); rfl; rfl))
    go_ret
    exact ⟨by rw [HR.out]; rfl, HXL.out⟩
  subst hm
  have HRE := Lib.hid (show decide (NodeL.mk nm1 d1 z1 ps1 s1 = ⟨nm2, d1, z1, ps2, s2⟩) = decide (ps1 = ps2) by
    rw [Bool.eq_iff_iff, decide_eq_true_eq, decide_eq_true_eq]
    constructor
    · intro e; cases e; rfl
    · intro e; rw [HNN.out, HSS.out, e])
  go_enter Tryd.func19, Tryd.ntmps19
  go_wp2_with (first | ((with_reducible refine wpList_load_at ?_ 40 _ rfl ?_ HS1.out ?_); rfl; rfl) | ((with_reducible refine wpList_load_at ?_ 40 _ rfl ?_ HS2.out ?_); rfl; rfl))
  rw [HW0.out, HP1.out, HP2.out]
  have g1 : w0.cell? ⟨p1, 3, none⟩ = some (.slice a1 n c) := by rw [HB1.out.cell]; simpa using f13
  have g2 : w0.cell? ⟨p2, 3, none⟩ = some (.slice a2 n d) := by rw [HB2.out.cell]; simpa using f23
  have HG1 := Lib.hid g1; have HG2 := Lib.hid g2
  clear g1 g2 hq0 hq4 HS1 HS2 f10 f11 f12 f13 f20 f21 f22 f23
  go_loopw [5] (fun i wr => ∃ k : Nat, i = .int .i64 k ∧ k ≤ n ∧ Ext No w0 wr ∧ ps1.take k = ps2.take k) (fun i _ => n - (intOf i).toNat)
  case atStart => exact ⟨0, rfl, Nat.zero_le _, Ext.refl _ _, by simp⟩
  case round =>
    obtain ⟨k, rfl, hk, hx0, ht⟩ := hrel
    have HXR := Lib.hid hx0; have HT := Lib.hid ht
    clear hx0 ht
    have hcc1 : wr.cell? ⟨p1, 3, none⟩ = some (.slice a1 n c) := by rw [HXR.out.cell (p := ⟨p1, 3, none⟩) HB1.out.lt (fun s => s)]; exact HG1.out
    have hcc2 : wr.cell? ⟨p2, 3, none⟩ = some (.slice a2 n d) := by rw [HXR.out.cell (p := ⟨p2, 3, none⟩) HB2.out.lt (fun s => s)]; exact HG2.out
    by_cases hlt : k < n
    · have hltI : (k : Int) < n := by omega
      have hlx : k < ps1.length := by rw [← HM1.out]; exact hlt
      have hly : k < ps2.length := by rw [← HM2.out]; exact hlt
      obtain ⟨b1, o1, rfl, hr1⟩ := HA1.out.at_ k hlx
      obtain ⟨b2, o2, rfl, hr2⟩ := HA2.out.at_ k hly
      have hst := take_step ps1 ps2 [] k hlx hly HT.out
      have hx32 := HA1.out.len (ps1.getD k []) (by rw [List.getD_eq_getElem?_getD, List.getElem?_eq_getElem hlx]; exact List.getElem_mem _)
      have hy32 := HA2.out.len (ps2.getD k []) (by rw [List.getD_eq_getElem?_getD, List.getElem?_eq_getElem hly]; exact List.getElem_mem _)
      generalize ps1.getD k [] = x at *
      generalize ps2.getD k [] = y at *
      have HL1 := Lib.hid (ids_load (rangeAt.ext0 hr1 (HX.out.trans' HXR.out)) hx32); have HL2 := Lib.hid (ids_load (rangeAt.ext0 hr2 (HX.out.trans' HXR.out)) hy32)
      have hze := id_eq x y hx32 hy32
      have HST := Lib.hid hst
      have HC1 : Hid (∀ W, Ext No wr W → W.cell? ⟨p1, 3, none⟩ = some (.slice (some ⟨b1, o1, none⟩) n c)) := Lib.hid fun W hW => by rw [hW.cell (p := ⟨p1, 3, none⟩) (World.block_lt_of_cell? _ _ hcc1) (fun s => s)]; exact hcc1
      have HC2 : Hid (∀ W, Ext No wr W → W.cell? ⟨p2, 3, none⟩ = some (.slice (some ⟨b2, o2, none⟩) n d)) := Lib.hid fun W hW => by rw [hW.cell (p := ⟨p2, 3, none⟩) (World.block_lt_of_cell? _ _ hcc2) (fun s => s)]; exact hcc2
      have hce : (x = y ∧ decide (x = y) = true) ∨ (x ≠ y ∧ decide (x = y) = false) := by
        by_cases h : x = y
        · exact .inl ⟨h, decide_eq_true h⟩
        · exact .inr ⟨h, decide_eq_false h⟩
      clear hr1 hr2 hst hx32 hy32 hlx hly
      rcases hce with ⟨he, hd⟩ | ⟨he, hd⟩
      · rw [hd] at hze
        have HEQ := Lib.hid (HST.out.2 he)
        clear he hd
        go_wp2_with fail
        refine wp_region_head 10 No (AlkV x y b1 o1 b2 o2 n c d k p1 p2) (by kernel_rfl) (by kernel_rfl) (by kernel_rfl) (AlkV_ext x y b1 o1 b2 o2 n c d k p1 p2) (HeadSteps.cons ?_ (HeadSteps.cons ?_ (HeadSteps.cons ?_ (HeadSteps.cons ?_ (HeadSteps.cons ?_ (HeadSteps.cons ?_ (HeadSteps.cons ?_ (HeadSteps.cons ?_ (HeadSteps.cons ?_ (HeadSteps.cons ?_ HeadSteps.nil)))))))))) ?_
        · -- slot 48
          intro ac wk hx hsame hdep K hK
          have d2 : ac.tmps.getD 2 undef = .pointer (some ⟨p1, 0, none⟩) := hsame 2 (by kernel_rfl)
          have e2 := d2
          rw [Array.getD_eq_getD_getElem?] at e2
          clear hsame hdep
          go_simp
          exact hK _ _ (Ext.refl _ wk) rfl
        · -- slot 49
          intro ac wk hx hsame hdep K hK
          have d48 : ac.tmps.getD 48 undef = .pointer (some ⟨p1, 3, none⟩) := hdep 0 (by kernel_rfl)
          have e48 := d48
          rw [Array.getD_eq_getD_getElem?] at e48
          clear hsame hdep
          have hcc := HC1.out wk (Dr.extN hx)
          go_simp
          exact hK _ _ (Ext.refl _ wk) rfl
        · -- slot 50
          intro ac wk hx hsame hdep K hK
          have d5 : ac.tmps.getD 5 undef = .int .i64 (k : Int) := hsame 5 (by kernel_rfl)
          have e5 := d5
          rw [Array.getD_eq_getD_getElem?] at e5
          clear hsame hdep
          go_simp
          exact hK _ _ (Ext.refl _ wk) rfl
        · -- slot 51
          intro ac wk hx hsame hdep K hK
          have d49 : ac.tmps.getD 49 undef = .slice (some ⟨b1, o1, none⟩) n c := hdep 1 (by kernel_rfl)
          have e49 := d49
          rw [Array.getD_eq_getD_getElem?] at e49
          have d50 : ac.tmps.getD 50 undef = .int .i64 (k : Int) := hdep 2 (by kernel_rfl)
          have e50 := d50
          rw [Array.getD_eq_getD_getElem?] at e50
          clear hsame hdep
          go_simp
          exact hK _ _ (Ext.refl _ wk) rfl
        · -- slot 52
          intro ac wk hx hsame hdep K hK
          have d51 : ac.tmps.getD 51 undef = .pointer (some ⟨b1, o1 + k * 32, none⟩) := hdep 3 (by kernel_rfl)
          have e51 := d51
          rw [Array.getD_eq_getD_getElem?] at e51
          clear hsame hdep
          exact wp_load_known _ _ rfl d51 (HL1.out wk (Dr.extN hx)) (hK _ _ (Ext.refl _ wk) rfl)
        · -- slot 53
          intro ac wk hx hsame hdep K hK
          have d3 : ac.tmps.getD 3 undef = .pointer (some ⟨p2, 0, none⟩) := hsame 3 (by kernel_rfl)
          have e3 := d3
          rw [Array.getD_eq_getD_getElem?] at e3
          clear hsame hdep
          go_simp
          exact hK _ _ (Ext.refl _ wk) rfl
        · -- slot 54
          intro ac wk hx hsame hdep K hK
          have d53 : ac.tmps.getD 53 undef = .pointer (some ⟨p2, 3, none⟩) := hdep 5 (by kernel_rfl)
          have e53 := d53
          rw [Array.getD_eq_getD_getElem?] at e53
          clear hsame hdep
          have hcc := HC2.out wk (Dr.extN hx)
          go_simp
          exact hK _ _ (Ext.refl _ wk) rfl
        · -- slot 55
          intro ac wk hx hsame hdep K hK
          have d5 : ac.tmps.getD 5 undef = .int .i64 (k : Int) := hsame 5 (by kernel_rfl)
          have e5 := d5
          rw [Array.getD_eq_getD_getElem?] at e5
          clear hsame hdep
          go_simp
          exact hK _ _ (Ext.refl _ wk) rfl
        · -- slot 56
          intro ac wk hx hsame hdep K hK
          have d54 : ac.tmps.getD 54 undef = .slice (some ⟨b2, o2, none⟩) n d := hdep 6 (by kernel_rfl)
          have e54 := d54
          rw [Array.getD_eq_getD_getElem?] at e54
          have d55 : ac.tmps.getD 55 undef = .int .i64 (k : Int) := hdep 7 (by kernel_rfl)
          have e55 := d55
          rw [Array.getD_eq_getD_getElem?] at e55
          clear hsame hdep
          go_simp
          exact hK _ _ (Ext.refl _ wk) rfl
        · -- slot 57
          intro ac wk hx hsame hdep K hK
          have d56 : ac.tmps.getD 56 undef = .pointer (some ⟨b2, o2 + k * 32, none⟩) := hdep 8 (by kernel_rfl)
          have e56 := d56
          rw [Array.getD_eq_getD_getElem?] at e56
          clear hsame hdep
          exact wp_load_known _ _ rfl d56 (HL2.out wk (Dr.extN hx)) (hK _ _ (Ext.refl _ wk) rfl)
        · intro ac wk hx hdf hsz hsame hvals
          have f0 : ac.tmps.getD 0 undef = .agg cs1.toArray := hsame 0 (by kernel_rfl)
          have f1 : ac.tmps.getD 1 undef = .agg cs2.toArray := hsame 1 (by kernel_rfl)
          have f2 : ac.tmps.getD 2 undef = .pointer (some ⟨p1, 0, none⟩) := hsame 2 (by kernel_rfl)
          have f3 : ac.tmps.getD 3 undef = .pointer (some ⟨p2, 0, none⟩) := hsame 3 (by kernel_rfl)
          obtain ⟨u4, f4⟩ : ∃ u, ac.tmps.getD 4 undef = u := ⟨_, rfl⟩
          have f5 : ac.tmps.getD 5 undef = .int .i64 (k : Int) := hsame 5 (by kernel_rfl)
          have f6 : ac.tmps.getD 6 undef = .pointer (some ⟨p1, 0, none⟩) := hsame 6 (by kernel_rfl)
          have f7 : ac.tmps.getD 7 undef = .string (strB nm1) := hsame 7 (by kernel_rfl)
          have f8 : ac.tmps.getD 8 undef = .pointer (some ⟨p2, 0, none⟩) := hsame 8 (by kernel_rfl)
          have f9 : ac.tmps.getD 9 undef = .string (strB nm2) := hsame 9 (by kernel_rfl)
          have f10 : ac.tmps.getD 10 undef = .bool false := hsame 10 (by kernel_rfl)
          have f11 : ac.tmps.getD 11 undef = .bool false := hsame 11 (by kernel_rfl)
          have f12 : ac.tmps.getD 12 undef = .pointer (some ⟨p1, 1, none⟩) := hsame 12 (by kernel_rfl)
          have f13 : ac.tmps.getD 13 undef = .bool d1 := hsame 13 (by kernel_rfl)
          have f14 : ac.tmps.getD 14 undef = .pointer (some ⟨p2, 1, none⟩) := hsame 14 (by kernel_rfl)
          have f15 : ac.tmps.getD 15 undef = .bool d1 := hsame 15 (by kernel_rfl)
          have f16 : ac.tmps.getD 16 undef = .bool false := hsame 16 (by kernel_rfl)
          have f17 : ac.tmps.getD 17 undef = .bool false := hsame 17 (by kernel_rfl)
          have f18 : ac.tmps.getD 18 undef = .bool false := hsame 18 (by kernel_rfl)
          have f19 : ac.tmps.getD 19 undef = .pointer (some ⟨p1, 2, none⟩) := hsame 19 (by kernel_rfl)
          have f20 : ac.tmps.getD 20 undef = .int .i64 z1 := hsame 20 (by kernel_rfl)
          have f21 : ac.tmps.getD 21 undef = .pointer (some ⟨p2, 2, none⟩) := hsame 21 (by kernel_rfl)
          have f22 : ac.tmps.getD 22 undef = .int .i64 z1 := hsame 22 (by kernel_rfl)
          have f23 : ac.tmps.getD 23 undef = .bool false := hsame 23 (by kernel_rfl)
          have f24 : ac.tmps.getD 24 undef = .bool false := hsame 24 (by kernel_rfl)
          have f25 : ac.tmps.getD 25 undef = .bool false := hsame 25 (by kernel_rfl)
          have f26 : ac.tmps.getD 26 undef = .pointer (some ⟨p1, 4, none⟩) := hsame 26 (by kernel_rfl)
          have f27 : ac.tmps.getD 27 undef = .agg (byts s1).toArray := hsame 27 (by kernel_rfl)
          have f28 : ac.tmps.getD 28 undef = .pointer (some ⟨p2, 4, none⟩) := hsame 28 (by kernel_rfl)
          have f29 : ac.tmps.getD 29 undef = .agg (byts s2).toArray := hsame 29 (by kernel_rfl)
          have f30 : ac.tmps.getD 30 undef = .bool false := hsame 30 (by kernel_rfl)
          have f31 : ac.tmps.getD 31 undef = .bool false := hsame 31 (by kernel_rfl)
          have f32 : ac.tmps.getD 32 undef = .bool false := hsame 32 (by kernel_rfl)
          have f33 : ac.tmps.getD 33 undef = .pointer (some ⟨p1, 3, none⟩) := hsame 33 (by kernel_rfl)
          have f34 : ac.tmps.getD 34 undef = .slice (some ⟨b1, o1, none⟩) n c := hsame 34 (by kernel_rfl)
          have f35 : ac.tmps.getD 35 undef = .int .i64 (n : Int) := hsame 35 (by kernel_rfl)
          have f36 : ac.tmps.getD 36 undef = .pointer (some ⟨p2, 3, none⟩) := hsame 36 (by kernel_rfl)
          have f37 : ac.tmps.getD 37 undef = .slice (some ⟨b2, o2, none⟩) n d := hsame 37 (by kernel_rfl)
          have f38 : ac.tmps.getD 38 undef = .int .i64 (n : Int) := hsame 38 (by kernel_rfl)
          have f39 : ac.tmps.getD 39 undef = .bool false := hsame 39 (by kernel_rfl)
          have f40 : ac.tmps.getD 40 undef = .bool false := hsame 40 (by kernel_rfl)
          obtain ⟨u41, f41⟩ : ∃ u, ac.tmps.getD 41 undef = u := ⟨_, rfl⟩
          obtain ⟨u42, f42⟩ : ∃ u, ac.tmps.getD 42 undef = u := ⟨_, rfl⟩
          obtain ⟨u43, f43⟩ : ∃ u, ac.tmps.getD 43 undef = u := ⟨_, rfl⟩
          obtain ⟨u44, f44⟩ : ∃ u, ac.tmps.getD 44 undef = u := ⟨_, rfl⟩
          obtain ⟨u45, f45⟩ : ∃ u, ac.tmps.getD 45 undef = u := ⟨_, rfl⟩
          obtain ⟨u46, f46⟩ : ∃ u, ac.tmps.getD 46 undef = u := ⟨_, rfl⟩
          obtain ⟨u47, f47⟩ : ∃ u, ac.tmps.getD 47 undef = u := ⟨_, rfl⟩
          have f48 : ac.tmps.getD 48 undef = .pointer (some ⟨p1, 3, none⟩) := hvals 0 (by decide)
          have f49 : ac.tmps.getD 49 undef = .slice (some ⟨b1, o1, none⟩) n c := hvals 1 (by decide)
          have f50 : ac.tmps.getD 50 undef = .int .i64 (k : Int) := hvals 2 (by decide)
          have f51 : ac.tmps.getD 51 undef = .pointer (some ⟨b1, o1 + k * 32, none⟩) := hvals 3 (by decide)
          have f52 : ac.tmps.getD 52 undef = .agg (byts x).toArray := hvals 4 (by decide)
          have f53 : ac.tmps.getD 53 undef = .pointer (some ⟨p2, 3, none⟩) := hvals 5 (by decide)
          have f54 : ac.tmps.getD 54 undef = .slice (some ⟨b2, o2, none⟩) n d := hvals 6 (by decide)
          have f55 : ac.tmps.getD 55 undef = .int .i64 (k : Int) := hvals 7 (by decide)
          have f56 : ac.tmps.getD 56 undef = .pointer (some ⟨b2, o2 + k * 32, none⟩) := hvals 8 (by decide)
          have f57 : ac.tmps.getD 57 undef = .agg (byts y).toArray := hvals 9 (by decide)
          obtain ⟨u58, f58⟩ : ∃ u, ac.tmps.getD 58 undef = u := ⟨_, rfl⟩
          have hlit : ac = ⟨#[.agg cs1.toArray, .agg cs2.toArray, .pointer (some ⟨p1, 0, none⟩), .pointer (some ⟨p2, 0, none⟩), u4, .int .i64 (k : Int), .pointer (some ⟨p1, 0, none⟩), .string (strB nm1), .pointer (some ⟨p2, 0, none⟩), .string (strB nm2), .bool false, .bool false, .pointer (some ⟨p1, 1, none⟩), .bool d1, .pointer (some ⟨p2, 1, none⟩), .bool d1, .bool false, .bool false, .bool false, .pointer (some ⟨p1, 2, none⟩), .int .i64 z1, .pointer (some ⟨p2, 2, none⟩), .int .i64 z1, .bool false, .bool false, .bool false, .pointer (some ⟨p1, 4, none⟩), .agg (byts s1).toArray, .pointer (some ⟨p2, 4, none⟩), .agg (byts s2).toArray, .bool false, .bool false, .bool false, .pointer (some ⟨p1, 3, none⟩), .slice (some ⟨b1, o1, none⟩) n c, .int .i64 (n : Int), .pointer (some ⟨p2, 3, none⟩), .slice (some ⟨b2, o2, none⟩) n d, .int .i64 (n : Int), .bool false, .bool false, u41, u42, u43, u44, u45, u46, u47, .pointer (some ⟨p1, 3, none⟩), .slice (some ⟨b1, o1, none⟩) n c, .int .i64 (k : Int), .pointer (some ⟨b1, o1 + k * 32, none⟩), .agg (byts x).toArray, .pointer (some ⟨p2, 3, none⟩), .slice (some ⟨b2, o2, none⟩) n d, .int .i64 (k : Int), .pointer (some ⟨b2, o2 + k * 32, none⟩), .agg (byts y).toArray, u58], []⟩ := by
            refine (act_lit hsz hdf).trans ?_
            rw [show List.range _ = [0, 1, 2, 3, 4, 5, 6, 7, 8, 9, 10, 11, 12, 13, 14, 15, 16, 17, 18, 19, 20, 21, 22, 23, 24, 25, 26, 27, 28, 29, 30, 31, 32, 33, 34, 35, 36, 37, 38, 39, 40, 41, 42, 43, 44, 45, 46, 47, 48, 49, 50, 51, 52, 53, 54, 55, 56, 57, 58] from rfl]
            simp only [List.map_cons, List.map_nil, f0, f1, f2, f3, f4, f5, f6, f7, f8, f9, f10, f11, f12, f13, f14, f15, f16, f17, f18, f19, f20, f21, f22, f23, f24, f25, f26, f27, f28, f29, f30, f31, f32, f33, f34, f35, f36, f37, f38, f39, f40, f41, f42, f43, f44, f45, f46, f47, f48, f49, f50, f51, f52, f53, f54, f55, f56, f57, f58]
          clear hvals hsame hdf hsz f0 f1 f2 f3 f4 f5 f6 f7 f8 f9 f10 f11 f12 f13 f14 f15 f16 f17 f18 f19 f20 f21 f22 f23 f24 f25 f26 f27 f28 f29 f30 f31 f32 f33 f34 f35 f36 f37 f38 f39 f40 f41 f42 f43 f44 f45 f46 f47 f48 f49 f50 f51 f52 f53 f54 f55 f56 f57 f58
          subst hlit
          simp only [List.drop_succ_cons, List.drop_zero]
          have hxx := HXR.out.trans' hx
          go_wp2_with fail
          go_roundw
          case rel => exact ⟨k + 1, by go_num, by omega, hxx, HEQ.out⟩
          case measure => simp [intOf]; omega
      · rw [hd] at hze
        have HEQ := Lib.hid (show decide (ps1 = ps2) = false from decide_eq_false (fun h => he (HST.out.1 (by rw [h]))))
        clear he hd
        go_wp2_with fail
        refine wp_region_head 10 No (AlkV x y b1 o1 b2 o2 n c d k p1 p2) (by kernel_rfl) (by kernel_rfl) (by kernel_rfl) (AlkV_ext x y b1 o1 b2 o2 n c d k p1 p2) (HeadSteps.cons ?_ (HeadSteps.cons ?_ (HeadSteps.cons ?_ (HeadSteps.cons ?_ (HeadSteps.cons ?_ (HeadSteps.cons ?_ (HeadSteps.cons ?_ (HeadSteps.cons ?_ (HeadSteps.cons ?_ (HeadSteps.cons ?_ HeadSteps.nil)))))))))) ?_
        · -- slot 48
          intro ac wk hx hsame hdep K hK
          have d2 : ac.tmps.getD 2 undef = .pointer (some ⟨p1, 0, none⟩) := hsame 2 (by kernel_rfl)
          have e2 := d2
          rw [Array.getD_eq_getD_getElem?] at e2
          clear hsame hdep
          go_simp
          exact hK _ _ (Ext.refl _ wk) rfl
        · -- slot 49
          intro ac wk hx hsame hdep K hK
          have d48 : ac.tmps.getD 48 undef = .pointer (some ⟨p1, 3, none⟩) := hdep 0 (by kernel_rfl)
          have e48 := d48
          rw [Array.getD_eq_getD_getElem?] at e48
          clear hsame hdep
          have hcc := HC1.out wk (Dr.extN hx)
          go_simp
          exact hK _ _ (Ext.refl _ wk) rfl
        · -- slot 50
          intro ac wk hx hsame hdep K hK
          have d5 : ac.tmps.getD 5 undef = .int .i64 (k : Int) := hsame 5 (by kernel_rfl)
          have e5 := d5
          rw [Array.getD_eq_getD_getElem?] at e5
          clear hsame hdep
          go_simp
          exact hK _ _ (Ext.refl _ wk) rfl
        · -- slot 51
          intro ac wk hx hsame hdep K hK
          have d49 : ac.tmps.getD 49 undef = .slice (some ⟨b1, o1, none⟩) n c := hdep 1 (by kernel_rfl)
          have e49 := d49
          rw [Array.getD_eq_getD_getElem?] at e49
          have d50 : ac.tmps.getD 50 undef = .int .i64 (k : Int) := hdep 2 (by kernel_rfl)
          have e50 := d50
          rw [Array.getD_eq_getD_getElem?] at e50
          clear hsame hdep
          go_simp
          exact hK _ _ (Ext.refl _ wk) rfl
        · -- slot 52
          intro ac wk hx hsame hdep K hK
          have d51 : ac.tmps.getD 51 undef = .pointer (some ⟨b1, o1 + k * 32, none⟩) := hdep 3 (by kernel_rfl)
          have e51 := d51
          rw [Array.getD_eq_getD_getElem?] at e51
          clear hsame hdep
          exact wp_load_known _ _ rfl d51 (HL1.out wk (Dr.extN hx)) (hK _ _ (Ext.refl _ wk) rfl)
        · -- slot 53
          intro ac wk hx hsame hdep K hK
          have d3 : ac.tmps.getD 3 undef = .pointer (some ⟨p2, 0, none⟩) := hsame 3 (by kernel_rfl)
          have e3 := d3
          rw [Array.getD_eq_getD_getElem?] at e3
          clear hsame hdep
          go_simp
          exact hK _ _ (Ext.refl _ wk) rfl
        · -- slot 54
          intro ac wk hx hsame hdep K hK
          have d53 : ac.tmps.getD 53 undef = .pointer (some ⟨p2, 3, none⟩) := hdep 5 (by kernel_rfl)
          have e53 := d53
          rw [Array.getD_eq_getD_getElem?] at e53
          clear hsame hdep
          have hcc := HC2.out wk (Dr.extN hx)
          go_simp
          exact hK _ _ (Ext.refl _ wk) rfl
        · -- slot 55
          intro ac wk hx hsame hdep K hK
          have d5 : ac.tmps.getD 5 undef = .int .i64 (k : Int) := hsame 5 (by kernel_rfl)
          have e5 := d5
          rw [Array.getD_eq_getD_getElem?] at e5
          clear hsame hdep
          go_simp
          exact hK _ _ (Ext.refl _ wk) rfl
        · -- slot 56
          intro ac wk hx hsame hdep K hK
          have d54 : ac.tmps.getD 54 undef = .slice (some ⟨b2, o2, none⟩) n d := hdep 6 (by kernel_rfl)
          have e54 := d54
          rw [Array.getD_eq_getD_getElem?] at e54
          have d55 : ac.tmps.getD 55 undef = .int .i64 (k : Int) := hdep 7 (by kernel_rfl)
          have e55 := d55
          rw [Array.getD_eq_getD_getElem?] at e55
          clear hsame hdep
          go_simp
          exact hK _ _ (Ext.refl _ wk) rfl
        · -- slot 57
          intro ac wk hx hsame hdep K hK
          have d56 : ac.tmps.getD 56 undef = .pointer (some ⟨b2, o2 + k * 32, none⟩) := hdep 8 (by kernel_rfl)
          have e56 := d56
          rw [Array.getD_eq_getD_getElem?] at e56
          clear hsame hdep
          exact wp_load_known _ _ rfl d56 (HL2.out wk (Dr.extN hx)) (hK _ _ (Ext.refl _ wk) rfl)
        · intro ac wk hx hdf hsz hsame hvals
          have f0 : ac.tmps.getD 0 undef = .agg cs1.toArray := hsame 0 (by kernel_rfl)
          have f1 : ac.tmps.getD 1 undef = .agg cs2.toArray := hsame 1 (by kernel_rfl)
          have f2 : ac.tmps.getD 2 undef = .pointer (some ⟨p1, 0, none⟩) := hsame 2 (by kernel_rfl)
          have f3 : ac.tmps.getD 3 undef = .pointer (some ⟨p2, 0, none⟩) := hsame 3 (by kernel_rfl)
          obtain ⟨u4, f4⟩ : ∃ u, ac.tmps.getD 4 undef = u := ⟨_, rfl⟩
          have f5 : ac.tmps.getD 5 undef = .int .i64 (k : Int) := hsame 5 (by kernel_rfl)
          have f6 : ac.tmps.getD 6 undef = .pointer (some ⟨p1, 0, none⟩) := hsame 6 (by kernel_rfl)
          have f7 : ac.tmps.getD 7 undef = .string (strB nm1) := hsame 7 (by kernel_rfl)
          have f8 : ac.tmps.getD 8 undef = .pointer (some ⟨p2, 0, none⟩) := hsame 8 (by kernel_rfl)
          have f9 : ac.tmps.getD 9 undef = .string (strB nm2) := hsame 9 (by kernel_rfl)
          have f10 : ac.tmps.getD 10 undef = .bool false := hsame 10 (by kernel_rfl)
          have f11 : ac.tmps.getD 11 undef = .bool false := hsame 11 (by kernel_rfl)
          have f12 : ac.tmps.getD 12 undef = .pointer (some ⟨p1, 1, none⟩) := hsame 12 (by kernel_rfl)
          have f13 : ac.tmps.getD 13 undef = .bool d1 := hsame 13 (by kernel_rfl)
          have f14 : ac.tmps.getD 14 undef = .pointer (some ⟨p2, 1, none⟩) := hsame 14 (by kernel_rfl)
          have f15 : ac.tmps.getD 15 undef = .bool d1 := hsame 15 (by kernel_rfl)
          have f16 : ac.tmps.getD 16 undef = .bool false := hsame 16 (by kernel_rfl)
          have f17 : ac.tmps.getD 17 undef = .bool false := hsame 17 (by kernel_rfl)
          have f18 : ac.tmps.getD 18 undef = .bool false := hsame 18 (by kernel_rfl)
          have f19 : ac.tmps.getD 19 undef = .pointer (some ⟨p1, 2, none⟩) := hsame 19 (by kernel_rfl)
          have f20 : ac.tmps.getD 20 undef = .int .i64 z1 := hsame 20 (by kernel_rfl)
          have f21 : ac.tmps.getD 21 undef = .pointer (some ⟨p2, 2, none⟩) := hsame 21 (by kernel_rfl)
          have f22 : ac.tmps.getD 22 undef = .int .i64 z1 := hsame 22 (by kernel_rfl)
          have f23 : ac.tmps.getD 23 undef = .bool false := hsame 23 (by kernel_rfl)
          have f24 : ac.tmps.getD 24 undef = .bool false := hsame 24 (by kernel_rfl)
          have f25 : ac.tmps.getD 25 undef = .bool false := hsame 25 (by kernel_rfl)
          have f26 : ac.tmps.getD 26 undef = .pointer (some ⟨p1, 4, none⟩) := hsame 26 (by kernel_rfl)
          have f27 : ac.tmps.getD 27 undef = .agg (byts s1).toArray := hsame 27 (by kernel_rfl)
          have f28 : ac.tmps.getD 28 undef = .pointer (some ⟨p2, 4, none⟩) := hsame 28 (by kernel_rfl)
          have f29 : ac.tmps.getD 29 undef = .agg (byts s2).toArray := hsame 29 (by kernel_rfl)
          have f30 : ac.tmps.getD 30 undef = .bool false := hsame 30 (by kernel_rfl)
          have f31 : ac.tmps.getD 31 undef = .bool false := hsame 31 (by kernel_rfl)
          have f32 : ac.tmps.getD 32 undef = .bool false := hsame 32 (by kernel_rfl)
          have f33 : ac.tmps.getD 33 undef = .pointer (some ⟨p1, 3, none⟩) := hsame 33 (by kernel_rfl)
          have f34 : ac.tmps.getD 34 undef = .slice (some ⟨b1, o1, none⟩) n c := hsame 34 (by kernel_rfl)
          have f35 : ac.tmps.getD 35 undef = .int .i64 (n : Int) := hsame 35 (by kernel_rfl)
          have f36 : ac.tmps.getD 36 undef = .pointer (some ⟨p2, 3, none⟩) := hsame 36 (by kernel_rfl)
          have f37 : ac.tmps.getD 37 undef = .slice (some ⟨b2, o2, none⟩) n d := hsame 37 (by kernel_rfl)
          have f38 : ac.tmps.getD 38 undef = .int .i64 (n : Int) := hsame 38 (by kernel_rfl)
          have f39 : ac.tmps.getD 39 undef = .bool false := hsame 39 (by kernel_rfl)
          have f40 : ac.tmps.getD 40 undef = .bool false := hsame 40 (by kernel_rfl)
          obtain ⟨u41, f41⟩ : ∃ u, ac.tmps.getD 41 undef = u := ⟨_, rfl⟩
          obtain ⟨u42, f42⟩ : ∃ u, ac.tmps.getD 42 undef = u := ⟨_, rfl⟩
          obtain ⟨u43, f43⟩ : ∃ u, ac.tmps.getD 43 undef = u := ⟨_, rfl⟩
          obtain ⟨u44, f44⟩ : ∃ u, ac.tmps.getD 44 undef = u := ⟨_, rfl⟩
          obtain ⟨u45, f45⟩ : ∃ u, ac.tmps.getD 45 undef = u := ⟨_, rfl⟩
          obtain ⟨u46, f46⟩ : ∃ u, ac.tmps.getD 46 undef = u := ⟨_, rfl⟩
          obtain ⟨u47, f47⟩ : ∃ u, ac.tmps.getD 47 undef = u := ⟨_, rfl⟩
          have f48 : ac.tmps.getD 48 undef = .pointer (some ⟨p1, 3, none⟩) := hvals 0 (by decide)
          have f49 : ac.tmps.getD 49 undef = .slice (some ⟨b1, o1, none⟩) n c := hvals 1 (by decide)
          have f50 : ac.tmps.getD 50 undef = .int .i64 (k : Int) := hvals 2 (by decide)
          have f51 : ac.tmps.getD 51 undef = .pointer (some ⟨b1, o1 + k * 32, none⟩) := hvals 3 (by decide)
          have f52 : ac.tmps.getD 52 undef = .agg (byts x).toArray := hvals 4 (by decide)
          have f53 : ac.tmps.getD 53 undef = .pointer (some ⟨p2, 3, none⟩) := hvals 5 (by decide)
          have f54 : ac.tmps.getD 54 undef = .slice (some ⟨b2, o2, none⟩) n d := hvals 6 (by decide)
          have f55 : ac.tmps.getD 55 undef = .int .i64 (k : Int) := hvals 7 (by decide)
          have f56 : ac.tmps.getD 56 undef = .pointer (some ⟨b2, o2 + k * 32, none⟩) := hvals 8 (by decide)
          have f57 : ac.tmps.getD 57 undef = .agg (byts y).toArray := hvals 9 (by decide)
          obtain ⟨u58, f58⟩ : ∃ u, ac.tmps.getD 58 undef = u := ⟨_, rfl⟩
          have hlit : ac = ⟨#[.agg cs1.toArray, .agg cs2.toArray, .pointer (some ⟨p1, 0, none⟩), .pointer (some ⟨p2, 0, none⟩), u4, .int .i64 (k : Int), .pointer (some ⟨p1, 0, none⟩), .string (strB nm1), .pointer (some ⟨p2, 0, none⟩), .string (strB nm2), .bool false, .bool false, .pointer (some ⟨p1, 1, none⟩), .bool d1, .pointer (some ⟨p2, 1, none⟩), .bool d1, .bool false, .bool false, .bool false, .pointer (some ⟨p1, 2, none⟩), .int .i64 z1, .pointer (some ⟨p2, 2, none⟩), .int .i64 z1, .bool false, .bool false, .bool false, .pointer (some ⟨p1, 4, none⟩), .agg (byts s1).toArray, .pointer (some ⟨p2, 4, none⟩), .agg (byts s2).toArray, .bool false, .bool false, .bool false, .pointer (some ⟨p1, 3, none⟩), .slice (some ⟨b1, o1, none⟩) n c, .int .i64 (n : Int), .pointer (some ⟨p2, 3, none⟩), .slice (some ⟨b2, o2, none⟩) n d, .int .i64 (n : Int), .bool false, .bool false, u41, u42, u43, u44, u45, u46, u47, .pointer (some ⟨p1, 3, none⟩), .slice (some ⟨b1, o1, none⟩) n c, .int .i64 (k : Int), .pointer (some ⟨b1, o1 + k * 32, none⟩), .agg (byts x).toArray, .pointer (some ⟨p2, 3, none⟩), .slice (some ⟨b2, o2, none⟩) n d, .int .i64 (k : Int), .pointer (some ⟨b2, o2 + k * 32, none⟩), .agg (byts y).toArray, u58], []⟩ := by
            refine (act_lit hsz hdf).trans ?_
            rw [show List.range _ = [0, 1, 2, 3, 4, 5, 6, 7, 8, 9, 10, 11, 12, 13, 14, 15, 16, 17, 18, 19, 20, 21, 22, 23, 24, 25, 26, 27, 28, 29, 30, 31, 32, 33, 34, 35, 36, 37, 38, 39, 40, 41, 42, 43, 44, 45, 46, 47, 48, 49, 50, 51, 52, 53, 54, 55, 56, 57, 58] from rfl]
            simp only [List.map_cons, List.map_nil, f0, f1, f2, f3, f4, f5, f6, f7, f8, f9, f10, f11, f12, f13, f14, f15, f16, f17, f18, f19, f20, f21, f22, f23, f24, f25, f26, f27, f28, f29, f30, f31, f32, f33, f34, f35, f36, f37, f38, f39, f40, f41, f42, f43, f44, f45, f46, f47, f48, f49, f50, f51, f52, f53, f54, f55, f56, f57, f58]
          clear hvals hsame hdf hsz f0 f1 f2 f3 f4 f5 f6 f7 f8 f9 f10 f11 f12 f13 f14 f15 f16 f17 f18 f19 f20 f21 f22 f23 f24 f25 f26 f27 f28 f29 f30 f31 f32 f33 f34 f35 f36 f37 f38 f39 f40 f41 f42 f43 f44 f45 f46 f47 f48 f49 f50 f51 f52 f53 f54 f55 f56 f57 f58
          subst hlit
          simp only [List.drop_succ_cons, List.drop_zero]
          have hxx := HXR.out.trans' hx
          go_wp2_with fail
          go_ret
          exact ⟨by rw [HRE.out, HEQ.out]; rfl, HX.out.trans' hxx⟩
    · have hkn : n = k := by omega
      subst hkn
      have h := HT.out
      rw [List.take_of_length_le (by rw [← HM1.out]; exact Nat.le_refl _), List.take_of_length_le (by rw [← HM2.out]; exact Nat.le_refl _)] at h
      have HEQ := Lib.hid (decide_eq_true h)
      clear h
      go_wp2_with fail
      go_ret
      exact ⟨by rw [HRE.out, HEQ.out]; rfl, HX.out.trans' HXR.out⟩

set_option maxRecDepth 100000 in
set_option maxHeartbeats 8000000 in
theorem same10_any (xs ys : List NodeL) (v u : Value) (w : World) (h : IsNodes w xs v) (h' : IsNodes w ys u) :
    Calls Tryd.prog 11 #[v, u] w fun e w' => e = .returned (.bool (decide (xs = ys))) ∧ Ext No w w' := by
  obtain ⟨a, c, rfl, hc1, hc2, hat1⟩ := h
  obtain ⟨b, d, rfl, hc3, hc4, hat2⟩ := h'
  obtain ⟨n, hn⟩ : ∃ n, n = xs.length := ⟨_, rfl⟩
  obtain ⟨m, hm⟩ : ∃ m, m = ys.length := ⟨_, rfl⟩
  rw [← hn] at hc1 ⊢; rw [← hm] at hc3 ⊢
  have H1 := Lib.hid hat1; have H2 := Lib.hid hat2; have HN := Lib.hid hn; have HM := Lib.hid hm
  clear hat1 hat2 hn hm
  by_cases hnm : n = m
  case neg =>
    have hne : ¬ ((n : Int) = m) := by omega
    go_enter Tryd.func11, Tryd.ntmps11
    go_wp2_with fail
    go_ret
    refine ⟨?_, Ext.refl _ _⟩
    have : ¬ xs = ys := fun h => hnm (by rw [HN.out, HM.out, h])
    simp [this]
  subst hnm
  go_enter Tryd.func11, Tryd.ntmps11
  go_wp2_with fail
  go_loopw [5] (fun i wr => ∃ k : Nat, i = .int .i64 k ∧ k ≤ n ∧ Ext No w wr ∧ xs.take k = ys.take k) (fun i _ => n - (intOf i).toNat)
  case atStart => exact ⟨0, rfl, Nat.zero_le _, Ext.refl _ _, by simp⟩
  case round =>
    obtain ⟨k, rfl, hk, hx0, ht⟩ := hrel
    have HX := Lib.hid hx0; have HT := Lib.hid ht
    clear hx0 ht
    by_cases hlt : k < n
    · have hltI : (k : Int) < n := by omega
      have hlx : k < xs.length := by rw [← HN.out]; exact hlt
      have hly : k < ys.length := by rw [← HM.out]; exact hlt
      obtain ⟨b1, o1, cs1, rfl, hr1, hn1⟩ := H1.out.at_ k hlx
      obtain ⟨b2, o2, cs2, rfl, hr2, hn2⟩ := H2.out.at_ k hly
      have hst := take_step xs ys node0 k hlx hly HT.out
      generalize xs.getD k node0 = x at *
      generalize ys.getD k node0 = y at *
      have HL1 := Lib.hid (node_load (rangeAt.ext0 hr1 HX.out) hn1.length); have HL2 := Lib.hid (node_load (rangeAt.ext0 hr2 HX.out) hn2.length)
      obtain ⟨t, htt⟩ : ∃ t, t = decide (x = y) := ⟨_, rfl⟩
      have HAL : Hid (∀ W, Ext No wr W → Calls Tryd.prog 19 #[.agg cs1.toArray, .agg cs2.toArray] W fun e w' => e = .returned (.bool t) ∧ Ext No W w') := Lib.hid fun W hW => by
        rw [htt]
        exact alike_any x y cs1 cs2 W ((hn1.ext0 HX.out).ext0 hW) ((hn2.ext0 HX.out).ext0 hW)
      have HST := Lib.hid hst; have HTT := Lib.hid htt
      obtain ⟨u1, hu1⟩ : ∃ u, cs1.toArray = u := ⟨_, rfl⟩
      obtain ⟨u2, hu2⟩ : ∃ u, cs2.toArray = u := ⟨_, rfl⟩
      rw [hu1] at HL1 HAL; rw [hu2] at HL2 HAL
      clear hr1 hr2 hst hlx hly htt hn1 hn2 hu1 hu2
      cases t
      · have HEQ := Lib.hid (show decide (xs = ys) = false from decide_eq_false (fun h => of_decide_eq_false HTT.out.symm (HST.out.1 (by rw [h]))))
        go_wp2_with fail
        refine wp_region_head 9 No (SamV u1 u2 b1 o1 b2 o2 n c d k false) (by kernel_rfl) (by kernel_rfl) (by kernel_rfl) (SamV_ext u1 u2 b1 o1 b2 o2 n c d k false) (HeadSteps.cons ?_ (HeadSteps.cons ?_ (HeadSteps.cons ?_ (HeadSteps.cons ?_ (HeadSteps.cons ?_ (HeadSteps.cons ?_ (HeadSteps.cons ?_ (HeadSteps.cons ?_ (HeadSteps.cons ?_ HeadSteps.nil))))))))) ?_
        · -- slot 17
          intro ac wk hx hsame hdep K hK
          have d0 : ac.tmps.getD 0 undef = .slice (some ⟨b1, o1, none⟩) n c := hsame 0 (by kernel_rfl)
          have e0 := d0
          rw [Array.getD_eq_getD_getElem?] at e0
          clear hsame hdep
          go_simp
          exact hK _ _ (Ext.refl _ wk) rfl
        · -- slot 18
          intro ac wk hx hsame hdep K hK
          have d5 : ac.tmps.getD 5 undef = .int .i64 (k : Int) := hsame 5 (by kernel_rfl)
          have e5 := d5
          rw [Array.getD_eq_getD_getElem?] at e5
          clear hsame hdep
          go_simp
          exact hK _ _ (Ext.refl _ wk) rfl
        · -- slot 19
          intro ac wk hx hsame hdep K hK
          have d17 : ac.tmps.getD 17 undef = .slice (some ⟨b1, o1, none⟩) n c := hdep 0 (by kernel_rfl)
          have e17 := d17
          rw [Array.getD_eq_getD_getElem?] at e17
          have d18 : ac.tmps.getD 18 undef = .int .i64 (k : Int) := hdep 1 (by kernel_rfl)
          have e18 := d18
          rw [Array.getD_eq_getD_getElem?] at e18
          clear hsame hdep
          go_simp
          exact hK _ _ (Ext.refl _ wk) rfl
        · -- slot 20
          intro ac wk hx hsame hdep K hK
          have d19 : ac.tmps.getD 19 undef = .pointer (some ⟨b1, o1 + k * 36, none⟩) := hdep 2 (by kernel_rfl)
          have e19 := d19
          rw [Array.getD_eq_getD_getElem?] at e19
          clear hsame hdep
          exact wp_load_known _ _ rfl d19 (HL1.out wk (Dr.extN hx)) (hK _ _ (Ext.refl _ wk) rfl)
        · -- slot 21
          intro ac wk hx hsame hdep K hK
          have d1 : ac.tmps.getD 1 undef = .slice (some ⟨b2, o2, none⟩) n d := hsame 1 (by kernel_rfl)
          have e1 := d1
          rw [Array.getD_eq_getD_getElem?] at e1
          clear hsame hdep
          go_simp
          exact hK _ _ (Ext.refl _ wk) rfl
        · -- slot 22
          intro ac wk hx hsame hdep K hK
          have d5 : ac.tmps.getD 5 undef = .int .i64 (k : Int) := hsame 5 (by kernel_rfl)
          have e5 := d5
          rw [Array.getD_eq_getD_getElem?] at e5
          clear hsame hdep
          go_simp
          exact hK _ _ (Ext.refl _ wk) rfl
        · -- slot 23
          intro ac wk hx hsame hdep K hK
          have d21 : ac.tmps.getD 21 undef = .slice (some ⟨b2, o2, none⟩) n d := hdep 4 (by kernel_rfl)
          have e21 := d21
          rw [Array.getD_eq_getD_getElem?] at e21
          have d22 : ac.tmps.getD 22 undef = .int .i64 (k : Int) := hdep 5 (by kernel_rfl)
          have e22 := d22
          rw [Array.getD_eq_getD_getElem?] at e22
          clear hsame hdep
          go_simp
          exact hK _ _ (Ext.refl _ wk) rfl
        · -- slot 24
          intro ac wk hx hsame hdep K hK
          have d23 : ac.tmps.getD 23 undef = .pointer (some ⟨b2, o2 + k * 36, none⟩) := hdep 6 (by kernel_rfl)
          have e23 := d23
          rw [Array.getD_eq_getD_getElem?] at e23
          clear hsame hdep
          exact wp_load_known _ _ rfl d23 (HL2.out wk (Dr.extN hx)) (hK _ _ (Ext.refl _ wk) rfl)
        · -- slot 25
          intro ac wk hx hsame hdep K hK
          have d20 : ac.tmps.getD 20 undef = .agg u1 := hdep 3 (by kernel_rfl)
          have e20 := d20
          rw [Array.getD_eq_getD_getElem?] at e20
          have d24 : ac.tmps.getD 24 undef = .agg u2 := hdep 7 (by kernel_rfl)
          have e24 := d24
          rw [Array.getD_eq_getD_getElem?] at e24
          clear hsame hdep
          go_simp
          refine (HAL.out wk (Dr.extN hx)).mono ?_
          rintro e w' ⟨rfl, hx'⟩
          exact hK _ _ hx' rfl
        · intro ac wk hx hdf hsz hsame hvals
          have f0 : ac.tmps.getD 0 undef = .slice (some ⟨b1, o1, none⟩) n c := hsame 0 (by kernel_rfl)
          have f1 : ac.tmps.getD 1 undef = .slice (some ⟨b2, o2, none⟩) n d := hsame 1 (by kernel_rfl)
          have f2 : ac.tmps.getD 2 undef = undef := hsame 2 (by kernel_rfl)
          have f3 : ac.tmps.getD 3 undef = undef := hsame 3 (by kernel_rfl)
          obtain ⟨u4, f4⟩ : ∃ u, ac.tmps.getD 4 undef = u := ⟨_, rfl⟩
          have f5 : ac.tmps.getD 5 undef = .int .i64 (k : Int) := hsame 5 (by kernel_rfl)
          have f6 : ac.tmps.getD 6 undef = .slice (some ⟨b1, o1, none⟩) n c := hsame 6 (by kernel_rfl)
          have f7 : ac.tmps.getD 7 undef = .int .i64 (n : Int) := hsame 7 (by kernel_rfl)
          have f8 : ac.tmps.getD 8 undef = .slice (some ⟨b2, o2, none⟩) n d := hsame 8 (by kernel_rfl)
          have f9 : ac.tmps.getD 9 undef = .int .i64 (n : Int) := hsame 9 (by kernel_rfl)
          have f10 : ac.tmps.getD 10 undef = .bool false := hsame 10 (by kernel_rfl)
          obtain ⟨u11, f11⟩ : ∃ u, ac.tmps.getD 11 undef = u := ⟨_, rfl⟩
          obtain ⟨u12, f12⟩ : ∃ u, ac.tmps.getD 12 undef = u := ⟨_, rfl⟩
          obtain ⟨u13, f13⟩ : ∃ u, ac.tmps.getD 13 undef = u := ⟨_, rfl⟩
          obtain ⟨u14, f14⟩ : ∃ u, ac.tmps.getD 14 undef = u := ⟨_, rfl⟩
          obtain ⟨u15, f15⟩ : ∃ u, ac.tmps.getD 15 undef = u := ⟨_, rfl⟩
          obtain ⟨u16, f16⟩ : ∃ u, ac.tmps.getD 16 undef = u := ⟨_, rfl⟩
          have f17 : ac.tmps.getD 17 undef = .slice (some ⟨b1, o1, none⟩) n c := hvals 0 (by decide)
          have f18 : ac.tmps.getD 18 undef = .int .i64 (k : Int) := hvals 1 (by decide)
          have f19 : ac.tmps.getD 19 undef = .pointer (some ⟨b1, o1 + k * 36, none⟩) := hvals 2 (by decide)
          have f20 : ac.tmps.getD 20 undef = .agg u1 := hvals 3 (by decide)
          have f21 : ac.tmps.getD 21 undef = .slice (some ⟨b2, o2, none⟩) n d := hvals 4 (by decide)
          have f22 : ac.tmps.getD 22 undef = .int .i64 (k : Int) := hvals 5 (by decide)
          have f23 : ac.tmps.getD 23 undef = .pointer (some ⟨b2, o2 + k * 36, none⟩) := hvals 6 (by decide)
          have f24 : ac.tmps.getD 24 undef = .agg u2 := hvals 7 (by decide)
          have f25 : ac.tmps.getD 25 undef = .bool false := hvals 8 (by decide)
          obtain ⟨u26, f26⟩ : ∃ u, ac.tmps.getD 26 undef = u := ⟨_, rfl⟩
          have hlit : ac = ⟨#[.slice (some ⟨b1, o1, none⟩) n c, .slice (some ⟨b2, o2, none⟩) n d, undef, undef, u4, .int .i64 (k : Int), .slice (some ⟨b1, o1, none⟩) n c, .int .i64 (n : Int), .slice (some ⟨b2, o2, none⟩) n d, .int .i64 (n : Int), .bool false, u11, u12, u13, u14, u15, u16, .slice (some ⟨b1, o1, none⟩) n c, .int .i64 (k : Int), .pointer (some ⟨b1, o1 + k * 36, none⟩), .agg u1, .slice (some ⟨b2, o2, none⟩) n d, .int .i64 (k : Int), .pointer (some ⟨b2, o2 + k * 36, none⟩), .agg u2, .bool false, u26], []⟩ := by
            refine (act_lit hsz hdf).trans ?_
            rw [show List.range _ = [0, 1, 2, 3, 4, 5, 6, 7, 8, 9, 10, 11, 12, 13, 14, 15, 16, 17, 18, 19, 20, 21, 22, 23, 24, 25, 26] from rfl]
            simp only [List.map_cons, List.map_nil, f0, f1, f2, f3, f4, f5, f6, f7, f8, f9, f10, f11, f12, f13, f14, f15, f16, f17, f18, f19, f20, f21, f22, f23, f24, f25, f26]
          clear hvals hsame hdf hsz f0 f1 f2 f3 f4 f5 f6 f7 f8 f9 f10 f11 f12 f13 f14 f15 f16 f17 f18 f19 f20 f21 f22 f23 f24 f25 f26
          subst hlit
          simp only [List.drop_succ_cons, List.drop_zero]
          have hxx := HX.out.trans' hx
          go_wp2_with fail
          go_ret
          exact ⟨by rw [HEQ.out]; rfl, hxx⟩
      · have HEQ := Lib.hid (HST.out.2 (of_decide_eq_true HTT.out.symm))
        go_wp2_with fail
        refine wp_region_head 9 No (SamV u1 u2 b1 o1 b2 o2 n c d k true) (by kernel_rfl) (by kernel_rfl) (by kernel_rfl) (SamV_ext u1 u2 b1 o1 b2 o2 n c d k true) (HeadSteps.cons ?_ (HeadSteps.cons ?_ (HeadSteps.cons ?_ (HeadSteps.cons ?_ (HeadSteps.cons ?_ (HeadSteps.cons ?_ (HeadSteps.cons ?_ (HeadSteps.cons ?_ (HeadSteps.cons ?_ HeadSteps.nil))))))))) ?_
        · -- slot 17
          intro ac wk hx hsame hdep K hK
          have d0 : ac.tmps.getD 0 undef = .slice (some ⟨b1, o1, none⟩) n c := hsame 0 (by kernel_rfl)
          have e0 := d0
          rw [Array.getD_eq_getD_getElem?] at e0
          clear hsame hdep
          go_simp
          exact hK _ _ (Ext.refl _ wk) rfl
        · -- slot 18
          intro ac wk hx hsame hdep K hK
          have d5 : ac.tmps.getD 5 undef = .int .i64 (k : Int) := hsame 5 (by kernel_rfl)
          have e5 := d5
          rw [Array.getD_eq_getD_getElem?] at e5
          clear hsame hdep
          go_simp
          exact hK _ _ (Ext.refl _ wk) rfl
        · -- slot 19
          intro ac wk hx hsame hdep K hK
          have d17 : ac.tmps.getD 17 undef = .slice (some ⟨b1, o1, none⟩) n c := hdep 0 (by kernel_rfl)
          have e17 := d17
          rw [Array.getD_eq_getD_getElem?] at e17
          have d18 : ac.tmps.getD 18 undef = .int .i64 (k : Int) := hdep 1 (by kernel_rfl)
          have e18 := d18
          rw [Array.getD_eq_getD_getElem?] at e18
          clear hsame hdep
          go_simp
          exact hK _ _ (Ext.refl _ wk) rfl
        · -- slot 20
          intro ac wk hx hsame hdep K hK
          have d19 : ac.tmps.getD 19 undef = .pointer (some ⟨b1, o1 + k * 36, none⟩) := hdep 2 (by kernel_rfl)
          have e19 := d19
          rw [Array.getD_eq_getD_getElem?] at e19
          clear hsame hdep
          exact wp_load_known _ _ rfl d19 (HL1.out wk (Dr.extN hx)) (hK _ _ (Ext.refl _ wk) rfl)
        · -- slot 21
          intro ac wk hx hsame hdep K hK
          have d1 : ac.tmps.getD 1 undef = .slice (some ⟨b2, o2, none⟩) n d := hsame 1 (by kernel_rfl)
          have e1 := d1
          rw [Array.getD_eq_getD_getElem?] at e1
          clear hsame hdep
          go_simp
          exact hK _ _ (Ext.refl _ wk) rfl
        · -- slot 22
          intro ac wk hx hsame hdep K hK
          have d5 : ac.tmps.getD 5 undef = .int .i64 (k : Int) := hsame 5 (by kernel_rfl)
          have e5 := d5
          rw [Array.getD_eq_getD_getElem?] at e5
          clear hsame hdep
          go_simp
          exact hK _ _ (Ext.refl _ wk) rfl
        · -- slot 23
          intro ac wk hx hsame hdep K hK
          have d21 : ac.tmps.getD 21 undef = .slice (some ⟨b2, o2, none⟩) n d := hdep 4 (by kernel_rfl)
          have e21 := d21
          rw [Array.getD_eq_getD_getElem?] at e21
          have d22 : ac.tmps.getD 22 undef = .int .i64 (k : Int) := hdep 5 (by kernel_rfl)
          have e22 := d22
          rw [Array.getD_eq_getD_getElem?] at e22
          clear hsame hdep
          go_simp
          exact hK _ _ (Ext.refl _ wk) rfl
        · -- slot 24
          intro ac wk hx hsame hdep K hK
          have d23 : ac.tmps.getD 23 undef = .pointer (some ⟨b2, o2 + k * 36, none⟩) := hdep 6 (by kernel_rfl)
          have e23 := d23
          rw [Array.getD_eq_getD_getElem?] at e23
          clear hsame hdep
          exact wp_load_known _ _ rfl d23 (HL2.out wk (Dr.extN hx)) (hK _ _ (Ext.refl _ wk) rfl)
        · -- slot 25
          intro ac wk hx hsame hdep K hK
          have d20 : ac.tmps.getD 20 undef = .agg u1 := hdep 3 (by kernel_rfl)
          have e20 := d20
          rw [Array.getD_eq_getD_getElem?] at e20
          have d24 : ac.tmps.getD 24 undef = .agg u2 := hdep 7 (by kernel_rfl)
          have e24 := d24
          rw [Array.getD_eq_getD_getElem?] at e24
          clear hsame hdep
          go_simp
          refine (HAL.out wk (Dr.extN hx)).mono ?_
          rintro e w' ⟨rfl, hx'⟩
          exact hK _ _ hx' rfl
        · intro ac wk hx hdf hsz hsame hvals
          have f0 : ac.tmps.getD 0 undef = .slice (some ⟨b1, o1, none⟩) n c := hsame 0 (by kernel_rfl)
          have f1 : ac.tmps.getD 1 undef = .slice (some ⟨b2, o2, none⟩) n d := hsame 1 (by kernel_rfl)
          have f2 : ac.tmps.getD 2 undef = undef := hsame 2 (by kernel_rfl)
          have f3 : ac.tmps.getD 3 undef = undef := hsame 3 (by kernel_rfl)
          obtain ⟨u4, f4⟩ : ∃ u, ac.tmps.getD 4 undef = u := ⟨_, rfl⟩
          have f5 : ac.tmps.getD 5 undef = .int .i64 (k : Int) := hsame 5 (by kernel_rfl)
          have f6 : ac.tmps.getD 6 undef = .slice (some ⟨b1, o1, none⟩) n c := hsame 6 (by kernel_rfl)
          have f7 : ac.tmps.getD 7 undef = .int .i64 (n : Int) := hsame 7 (by kernel_rfl)
          have f8 : ac.tmps.getD 8 undef = .slice (some ⟨b2, o2, none⟩) n d := hsame 8 (by kernel_rfl)
          have f9 : ac.tmps.getD 9 undef = .int .i64 (n : Int) := hsame 9 (by kernel_rfl)
          have f10 : ac.tmps.getD 10 undef = .bool false := hsame 10 (by kernel_rfl)
          obtain ⟨u11, f11⟩ : ∃ u, ac.tmps.getD 11 undef = u := ⟨_, rfl⟩
          obtain ⟨u12, f12⟩ : ∃ u, ac.tmps.getD 12 undef = u := ⟨_, rfl⟩
          obtain ⟨u13, f13⟩ : ∃ u, ac.tmps.getD 13 undef = u := ⟨_, rfl⟩
          obtain ⟨u14, f14⟩ : ∃ u, ac.tmps.getD 14 undef = u := ⟨_, rfl⟩
          obtain ⟨u15, f15⟩ : ∃ u, ac.tmps.getD 15 undef = u := ⟨_, rfl⟩
          obtain ⟨u16, f16⟩ : ∃ u, ac.tmps.getD 16 undef = u := ⟨_, rfl⟩
          have f17 : ac.tmps.getD 17 undef = .slice (some ⟨b1, o1, none⟩) n c := hvals 0 (by decide)
          have f18 : ac.tmps.getD 18 undef = .int .i64 (k : Int) := hvals 1 (by decide)
          have f19 : ac.tmps.getD 19 undef = .pointer (some ⟨b1, o1 + k * 36, none⟩) := hvals 2 (by decide)
          have f20 : ac.tmps.getD 20 undef = .agg u1 := hvals 3 (by decide)
          have f21 : ac.tmps.getD 21 undef = .slice (some ⟨b2, o2, none⟩) n d := hvals 4 (by decide)
          have f22 : ac.tmps.getD 22 undef = .int .i64 (k : Int) := hvals 5 (by decide)
          have f23 : ac.tmps.getD 23 undef = .pointer (some ⟨b2, o2 + k * 36, none⟩) := hvals 6 (by decide)
          have f24 : ac.tmps.getD 24 undef = .agg u2 := hvals 7 (by decide)
          have f25 : ac.tmps.getD 25 undef = .bool true := hvals 8 (by decide)
          obtain ⟨u26, f26⟩ : ∃ u, ac.tmps.getD 26 undef = u := ⟨_, rfl⟩
          have hlit : ac = ⟨#[.slice (some ⟨b1, o1, none⟩) n c, .slice (some ⟨b2, o2, none⟩) n d, undef, undef, u4, .int .i64 (k : Int), .slice (some ⟨b1, o1, none⟩) n c, .int .i64 (n : Int), .slice (some ⟨b2, o2, none⟩) n d, .int .i64 (n : Int), .bool false, u11, u12, u13, u14, u15, u16, .slice (some ⟨b1, o1, none⟩) n c, .int .i64 (k : Int), .pointer (some ⟨b1, o1 + k * 36, none⟩), .agg u1, .slice (some ⟨b2, o2, none⟩) n d, .int .i64 (k : Int), .pointer (some ⟨b2, o2 + k * 36, none⟩), .agg u2, .bool true, u26], []⟩ := by
            refine (act_lit hsz hdf).trans ?_
            rw [show List.range _ = [0, 1, 2, 3, 4, 5, 6, 7, 8, 9, 10, 11, 12, 13, 14, 15, 16, 17, 18, 19, 20, 21, 22, 23, 24, 25, 26] from rfl]
            simp only [List.map_cons, List.map_nil, f0, f1, f2, f3, f4, f5, f6, f7, f8, f9, f10, f11, f12, f13, f14, f15, f16, f17, f18, f19, f20, f21, f22, f23, f24, f25, f26]
          clear hvals hsame hdf hsz f0 f1 f2 f3 f4 f5 f6 f7 f8 f9 f10 f11 f12 f13 f14 f15 f16 f17 f18 f19 f20 f21 f22 f23 f24 f25 f26
          subst hlit
          simp only [List.drop_succ_cons, List.drop_zero]
          have hxx := HX.out.trans' hx
          go_wp2_with fail
          go_roundw
          case rel => exact ⟨k + 1, by go_num, by omega, hxx, HEQ.out⟩
          case measure => simp [intOf]; omega
    · have hkn : n = k := by omega
      subst hkn
      have h := HT.out
      rw [List.take_of_length_le (by rw [← HN.out]; exact Nat.le_refl _), List.take_of_length_le (by rw [← HM.out]; exact Nat.le_refl _)] at h
      have HEQ := Lib.hid (decide_eq_true h)
      clear h
      go_wp2_with fail
      go_ret
      exact ⟨by rw [HEQ.out]; rfl, HX.out⟩
end Go.Proofs.YtefabpgfhghpgaaDoor
end

section
/- The contract of tree.Blobs's iterator. -/
namespace Go.Proofs.YtefabpgfhghpgaaDoor
open Go.RowKit Go.My Go.Shelf

section
variable {F : Fence} {nF : Nat} {P : Program} {ops : Array Oper} {rest : List Oper} {o : Oper} {a : Act} {w : World} {Q : Exit → Act → World → Prop}
/-- an operation whose value is known, in a fence -/
theorem wpListIn_exec (hw : Region.wanted o (yielded ops a.tmps) = true) (hc : ∀ c, o.op ≠ .call c) (hd : ∀ c, o.op ≠ .defer c) {v : Value} {w2 : World}
    (hl : (execOp a.eval o).run P w = .ok (.value v) w2) (h : wpListIn F nF P ops Q rest (a.put o.dst v) w2) : wpListIn F nF P ops Q (o :: rest) a w := by
  refine BigFrame.wpListIn_want hw fun K hK => ?_
  unfold Oper.wpIn
  refine ⟨?_, ?_⟩
  · intro f hf
    unfold Oper.about at hf
    split at hf
    · rename_i c h'; exact absurd h' (hc c)
    · cases hf
  · rw [Oper.semAt_plain F _ _ hd, hl]
    exact hK _ _ h
theorem wpListIn_load_at (hw : Region.wanted o (yielded ops a.tmps) = true) (ty : TypeId) (x : Operand) (ho : o.op = .load ty x) {u v : Value} (hx : a.eval x = u)
    (hl : (Instr.loadAt ty u).run P w = .ok v w) (h : wpListIn F nF P ops Q rest (a.put o.dst v) w) : wpListIn F nF P ops Q (o :: rest) a w :=
  wpListIn_exec hw (by rw [ho]; intro c h; cases h) (by rw [ho]; intro c h; cases h) (by unfold execOp; simp only [ho, hx, Sem.run_bind, hl, Result.andThen_ok, Sem.run_pure]) h
theorem wpListIn_store_at (hw : Region.wanted o (yielded ops a.tmps) = true) (ty : TypeId) (x y : Operand) (ho : o.op = .store ty x y) {u v : Value} {w2 : World} (hx : a.eval x = u) (hy : a.eval y = v)
    (hl : (Instr.storeAt ty u v).run P w = .ok () w2) (h : wpListIn F nF P ops Q rest (a.put o.dst undef) w2) : wpListIn F nF P ops Q (o :: rest) a w := by
  refine BigFrame.wpListIn_want hw fun K hK => ?_
  unfold Oper.wpIn
  refine ⟨by simp [Oper.about, ho], ?_⟩
  rw [Oper.semAt_plain F _ _ (by rw [ho]; intro c hc'; cases hc')]
  unfold execOp
  simp only [ho, hx, hy, Sem.run_bind, hl, Result.andThen_ok, Sem.run_pure]
  exact hK _ _ h
theorem wpListIn_build_at (hw : Region.wanted o (yielded ops a.tmps) = true) (t : TypeId) (len : Nat) (y : Operand) (ho : o.op = .buildSlice t len #[(0, y)]) {v0 v : Value} {w2 : World} (hp : a.eval y = v0)
    (hl : (Instr.buildSlice t len #[(0, v0)]).run P w = .ok v w2) (h : wpListIn F nF P ops Q rest (a.put o.dst v) w2) : wpListIn F nF P ops Q (o :: rest) a w :=
  wpListIn_exec hw (by rw [ho]; intro c h; cases h) (by rw [ho]; intro c h; cases h) (exec_build ho hp hl) h
end

/-- the sums of a node -/
def blobsN (n : NodeL) : List (List UInt8) := if n.dir = true then [n.sub] else n.parts
def blobsL (ns : List NodeL) : List (List UInt8) := ns.flatMap blobsN
def HandedI (ns : List NodeL) (k : Nat) (args : Array Value) (_ : World) : Prop := args = #[.agg (byts ((blobsL ns).getD k [])).toArray]
theorem blobs_step (ns : List NodeL) (i : Nat) (h : i < ns.length) : blobsL (ns.take (i + 1)) = blobsL (ns.take i) ++ blobsN (ns.getD i node0) := by
  unfold blobsL
  rw [List.take_add_one, List.flatMap_append, List.getD_eq_getElem?_getD, List.getElem?_eq_getElem h]
  simp
theorem blobs_pre (ns : List NodeL) (i : Nat) : ∃ r, blobsL ns = blobsL (ns.take i) ++ r := by
  refine ⟨blobsL (ns.drop i), ?_⟩
  unfold blobsL
  rw [← List.flatMap_append, List.take_append_drop]
theorem blobs_at (ns : List NodeL) (i k : Nat) (h : i < ns.length) (hk : k < (blobsN (ns.getD i node0)).length) :
    (blobsL (ns.take i)).length + k < (blobsL ns).length ∧ (blobsL ns).getD ((blobsL (ns.take i)).length + k) [] = (blobsN (ns.getD i node0)).getD k [] := by
  obtain ⟨r, hr⟩ := blobs_pre ns (i + 1)
  rw [blobs_step ns i h, List.append_assoc] at hr
  rw [hr]
  refine ⟨by rw [List.length_append, List.length_append]; omega, ?_⟩
  generalize blobsN (ns.getD i node0) = xs at *
  rw [List.getD_eq_getElem?_getD, List.getD_eq_getElem?_getD, List.getElem?_append_right (by omega), Nat.add_sub_cancel_left, List.getElem?_append_left hk]
theorem blobs_count (ns : List NodeL) (i : Nat) (h : i < ns.length) : (blobsL (ns.take (i + 1))).length = (blobsL (ns.take i)).length + (blobsN (ns.getD i node0)).length := by
  rw [blobs_step ns i h, List.length_append]

/-- what stays while the sums are handed out -/
structure RD (wo : World) (pb : Nat) (v : Value) (W : World) : Prop where
  box : Blk W pb #[v] 22
  ext : Ext (fun j => wo.heap.size ≤ j) wo W
theorem RD.step {wo W W' : World} {pb : Nat} {v : Value} {S : Nat → Prop} (h : RD wo pb v W) (e : Ext S W W') (hs : ∀ j, S j → wo.heap.size ≤ j ∧ j ≠ pb) : RD wo pb v W' :=
  ⟨h.box.ext e (fun s => (hs _ s).2 rfl), h.ext.trans e (fun _ _ s => s) (fun _ _ s => (hs _ s).1)⟩
theorem RD.range {wo W : World} {pb b o : Nat} {v : Value} {cs : List Value} (h : RD wo pb v W) (hr : wo.rangeAt b o cs) (hne : cs ≠ []) : W.rangeAt b o cs := by
  refine rangeAt.ext hr h.ext ?_
  cases cs with
  | nil => exact absurd rfl hne
  | cons u cs =>
    have := World.block_lt_of_cell? wo _ (hr 0 u rfl)
    simp only at this
    omega
/-- the sums from the k-th on, in memory -/
def IDsFrom (W : World) (xs : List (List UInt8)) (a : Option Addr) (k : Nat) : Prop := ∀ i, k ≤ i → i < xs.length → ∃ b off, a = some ⟨b, off, none⟩ ∧ W.rangeAt b (off + i * 32) (byts (xs.getD i []))

set_option maxRecDepth 100000 in
set_option maxHeartbeats 8000000 in
theorem blobs1_seq (ns : List NodeL) (v : Value) (pb : Nat) (wo w : World) (hb : Blk w pb #[v] 22) (hv : IsNodes wo ns v) (hE : Ext No wo w) (T : World → Nat → Prop) (hT : ∀ W j, T W j → wo.heap.size ≤ j ∧ j ≠ pb) :
    SeqW Tryd.prog 53 #[.pointer (some ⟨pb, 0, none⟩)] (blobsL ns).length (HandedI ns) No T (fun _ => True) w := by
  intro y J Jx W hW hsz hJ hJx hY h0
  obtain ⟨a, c, rfl, hc1, hc2, hat⟩ := hv
  obtain ⟨n, hn⟩ : ∃ n, n = ns.length := ⟨_, rfl⟩
  rw [← hn] at hc1 hb
  have hr0 : RD wo pb (.slice a n c) W := ⟨hb.ext hW (fun s => s), (hE.trans' hW).mono (fun _ _ s => s.elim)⟩
  have hbc := hr0.box.cell 0
  simp only [List.getElem?_toArray, List.getElem?_cons_zero] at hbc
  have HR := Lib.hid hr0; have HT := Lib.hid hT; have H0 := Lib.hid h0; have HN := Lib.hid hn; have HAT := Lib.hid hat
  have HBN : Hid ((blobsL (ns.take n)).length = (blobsL ns).length) := Lib.hid (by rw [hn, List.take_length])
  clear hb hT h0 hsz hW hr0 hn hat hE
  refine (callsIn_wide (n := 0)).1 ?_
  show CallsIn Fence.wide 0 Tryd.prog _ #[.func (.yield y) #[] #[], .pointer (some ⟨pb, 0, none⟩)] W _
  refine callsIn_of_wp Tryd.func53 rfl trivial ?_ rfl
  simp only [Tryd.ntmps53, List.size_toArray, List.length_cons, List.length_nil, Nat.reduceAdd, Nat.reduceSub, Array.replicate_succ, Array.replicate_zero, List.push_toArray, List.append_toArray, List.nil_append, List.cons_append]
  gi_wp2_with fail
  gi_loopw [10] (fun i wr => ∃ k : Nat, i = .int .i64 k ∧ k ≤ n ∧ J (blobsL (ns.take k)).length wr ∧ RD wo pb (.slice a n c) wr) (fun i _ => n - (intOf i).toNat)
  case atStart => exact ⟨0, rfl, Nat.zero_le _, by simpa [blobsL] using H0.out, HR.out⟩
  case round =>
    obtain ⟨i, rfl, hk, hj, hrd⟩ := hrel
    have HJ0 := Lib.hid hj; have HRD := Lib.hid hrd
    clear hj hrd
    by_cases hlt : i < n
    case neg =>
      have hkn : n = i := by omega
      subst hkn
      gi_wp2_with fail
      go_end0
      exact ⟨⟨_, rfl⟩, .inl (HBN.out ▸ HJ0.out), trivial⟩
    have hltI : (i : Int) < n := by omega
    have hlt' : i < ns.length := by rw [← HN.out]; exact hlt
    obtain ⟨b, off, cs, rfl, hra, hnd⟩ := HAT.out.at_ i hlt'
    have hbat := fun k => blobs_at ns i k hlt'
    have hcount := blobs_count ns i hlt'
    have HBAT := Lib.hid hbat; have HCOUNT := Lib.hid hcount
    clear hbat hcount
    generalize ns.getD i node0 = nd at *
    have hl36 := hnd.length
    have h1 := hnd.one
    have hr := HRD.out.range hra (by intro h; rw [h] at hl36; cases hl36)
    obtain ⟨⟨pv, hcs, ⟨pa, pc, rfl, hp1, hp2, hids⟩⟩, hs32, -, -⟩ := hnd
    have c1 : cs[1]? = some (.bool nd.dir) := by rw [hcs]; rfl
    have c3 : cs[3]? = some (.slice pa nd.parts.length pc) := by rw [hcs]; rfl
    have HL42 := Lib.hid (run_loadAt_mid (P := Tryd.prog) wr b (off + i * 36) 42 cs _ hr Tryd.underlying42 rfl (by rw [hl36]; exact info42))
    have HS42 := Lib.hid (store_node wr cs hl36 h1)
    have hbk := Blk.new wr cs.toArray 42
    have d1 : (wr.alloc (.cells cs.toArray 42)).cell? ⟨wr.heap.size, 1, none⟩ = some (.bool nd.dir) := by rw [hbk.cell]; simpa using c1
    have d3 : (wr.alloc (.cells cs.toArray 42)).cell? ⟨wr.heap.size, 3, none⟩ = some (.slice pa nd.parts.length pc) := by rw [hbk.cell]; simpa using c3
    have hra4 : (wr.alloc (.cells cs.toArray 42)).rangeAt wr.heap.size 4 (byts nd.sub) := by
      have h := rangeAt.blk hbk 4
      rw [hcs] at h ⊢
      exact h
    have HL40 := Lib.hid (ids_load hra4 hs32 _ (Ext.refl _ _))
    have HB40 := Lib.hid (build_id nd.sub hs32)
    have HXA := Lib.hid ((Ext.refl No wr).alloc (.cells cs.toArray 42))
    have HS32 := Lib.hid hs32; have HIDS := Lib.hid hids
    obtain ⟨np, hnp⟩ : ∃ m, m = nd.parts.length := ⟨_, rfl⟩
    have HNP := Lib.hid hnp
    rw [← hnp] at c3 d3 hp1
    have hnd : (nd.dir = true ∧ blobsN nd = [nd.sub]) ∨ (nd.dir = false ∧ blobsN nd = nd.parts) := by
      unfold blobsN
      cases nd.dir
      · exact .inr ⟨rfl, rfl⟩
      · exact .inl ⟨rfl, rfl⟩
    clear hra hcs c1 c3 hbk hlt' h1 hl36 hnp hr hra4 hids hs32
    rcases hnd with ⟨hdir, hbn⟩ | ⟨hdir, hbn⟩
    · rw [hdir] at d1
      have hi0 : IDsFrom ((wr.alloc (.cells cs.toArray 42)).alloc (.cells (byts nd.sub).toArray 40)) (blobsN nd) (some ⟨(wr.alloc (.cells cs.toArray 42)).heap.size, 0, none⟩) 0 := by
        intro j _ hj
        rw [hbn] at hj ⊢
        obtain rfl : j = 0 := by simpa using hj
        refine ⟨_, 0, rfl, ?_⟩
        exact rangeAt.blk (Blk.new _ (byts nd.sub).toArray 40) 0
      have hstep : ∀ k W', k < (blobsN nd).length → RD wo pb (.slice (some ⟨b, off, none⟩) n c) W' → IDsFrom W' (blobsN nd) (some ⟨(wr.alloc (.cells cs.toArray 42)).heap.size, 0, none⟩) (k + 1) := by
        intro k W' hk' _ j h1 h2
        rw [hbn] at h2
        simp at h2; omega
      have hx : Ext No wr ((wr.alloc (.cells cs.toArray 42)).alloc (.cells (byts nd.sub).toArray 40)) := ((Ext.refl No wr).alloc _).alloc _
      have hl1 : (blobsN nd).length = 1 := by rw [hbn]; rfl
      have h32 : ∀ x ∈ blobsN nd, x.length = 32 := by rw [hbn]; intro x hx; rw [List.mem_singleton.1 hx]; exact HS32.out
      rw [World.size_alloc] at hi0
      simp only [World.size_alloc] at hstep
      have HI0 := Lib.hid hi0; have HSTEP := Lib.hid hstep; have HX := Lib.hid hx; have HL1 := Lib.hid hl1; have H32 := Lib.hid h32
      clear hi0 hstep hx hl1 hbn h32
      gi_wp2_with (first | ((with_reducible refine wpListIn_load_at ?_ 42 _ rfl ?_ HL42.out ?_); rfl; rfl) | ((with_reducible refine wpListIn_store_at ?_ 42 _ _ rfl ?_ ?_ (HS42.out _ ?_) ?_); rfl; rfl; rfl; rfl) | ((with_reducible refine wpListIn_load_at ?_ 40 _ rfl ?_ HL40.out ?_); rfl; rfl) | ((with_reducible refine wpListIn_build_at ?_ 38 1 _ rfl ?_ (HB40.out _) ?_); rfl; rfl))
      have hj1 := hJ _ _ _ HJ0.out HX.out
      have hr1 := HRD.out.step HX.out (fun _ s => s.elim)
      obtain ⟨xs, hxs⟩ : ∃ xs, blobsN nd = xs := ⟨_, rfl⟩
      obtain ⟨base, hbase⟩ : ∃ x, (blobsL (ns.take i)).length = x := ⟨_, rfl⟩
      have hi0 := HI0.out; have hstep := HSTEP.out; have hl1 := HL1.out; have h32 := H32.out; have hbat := HBAT.out; have hcount := HCOUNT.out
      rw [hxs] at hi0 hstep hl1 h32 hcount
      simp only [hxs] at hbat
      rw [hbase] at hj1 hcount
      simp only [hbase] at hbat
      have HI1 := Lib.hid hi0; have HSTEP1 := Lib.hid hstep; have HLX := Lib.hid hl1; have HX32 := Lib.hid h32; have HBAT1 := Lib.hid hbat; have HCOUNT1 := Lib.hid hcount; have HJ1 := Lib.hid hj1; have HR1 := Lib.hid hr1
      clear hi0 hstep hl1 h32 hbat hcount hj1 hr1 HI0 HSTEP HL1 H32 HBAT HCOUNT HJ0 HRD hxs hbase HL42 HS42 HL40 HB40 HXA HIDS HS32
      gi_loopw [23] (fun i wv => ∃ k : Nat, i = .int .i64 k ∧ k ≤ 1 ∧ J (base + k) wv ∧ RD wo pb (.slice (some ⟨b, off, none⟩) n c) wv ∧ IDsFrom wv xs (some ⟨wr.heap.size + 1, 0, none⟩) k) (fun i _ => 1 - (intOf i).toNat)
      case atStart => exact ⟨0, rfl, Nat.zero_le _, HJ1.out, HR1.out, HI1.out⟩
      case round =>
        obtain ⟨k, rfl, hk, hj, hrd, hif⟩ := hrel
        have HJ2 := Lib.hid hj; have HRD2 := Lib.hid hrd
        clear hj hrd
        by_cases hkm : k < 1
        case neg =>
          have hkn : 1 = k := by omega
          have hend : (blobsL (ns.take (i + 1))).length = base + k := by rw [HCOUNT1.out, HLX.out]; omega
          have HEND := Lib.hid hend
          clear hif hend
          have hnk : decide ((k : Int) < 1) = false := by simp; omega
          have hnk2 : ¬ (k < 1) := hkm
          gi_wp2_with fail
          go_roundw
          case rel => exact ⟨i + 1, by go_num, by omega, by rw [HEND.out]; exact HJ2.out, HRD2.out⟩
          case measure => simp [intOf]; omega
        have hkmI : (k : Int) < 1 := by omega
        obtain ⟨b2, o2, ha, hr2⟩ := hif k (Nat.le_refl _) (by rw [HLX.out]; exact hkm)
        have hx32 := HX32.out (xs.getD k []) (by rw [List.getD_eq_getElem?_getD, List.getElem?_eq_getElem (by rw [HLX.out]; exact hkm)]; exact List.getElem_mem _)
        obtain ⟨hb1, hb2⟩ := HBAT1.out k (by rw [HLX.out]; exact hkm)
        have hsx := HSTEP1.out k
        generalize xs.getD k [] = x at *
        have hld := ids_load hr2 hx32 _ (Ext.refl _ _)
        cases ha
        try rw [Nat.zero_add] at hld
        have HLD := Lib.hid hld
        have HST := Lib.hid (store_id wr x hx32)
        have hxa : Ext No wr (wr.alloc (.cells (byts x).toArray 40)) := (Ext.refl No wr).alloc _
        have hbk := Blk.new wr (byts x).toArray 40
        have HLY := Lib.hid (ids_load (rangeAt.blk hbk 0) hx32 _ (Ext.refl _ _))
        obtain ⟨fn, tmps, assign, body, hy, hR⟩ := hY (base + k) #[.agg (byts x).toArray] (wr.alloc (.cells (byts x).toArray 40)) hb1 (hJ _ _ _ HJ2.out hxa) (by unfold HandedI; rw [hb2])
        have HXA := Lib.hid hxa; have HSX := Lib.hid hsx; have HB1 := Lib.hid hb1
        have hrd2 := HRD2.out.step hxa (fun _ s => s.elim)
        have HRD3 := Lib.hid hrd2
        clear hif hr2 hx32 hb1 hb2 hsx hxa hbk hrd2 hld
        gi_wp2_with (first | ((with_reducible refine wpListIn_load_at ?_ 40 _ rfl ?_ HLD.out ?_); rfl; rfl) | ((with_reducible refine wpListIn_store_at ?_ 40 _ _ rfl ?_ ?_ (HST.out _ ?_) ?_); rfl; rfl; rfl; rfl) | ((with_reducible refine wpListIn_load_at ?_ 40 _ rfl ?_ HLY.out ?_); rfl; rfl))
        refine ⟨rfl, hR.mono ?_⟩
        clear hR hy
        rintro e w4 (⟨rfl, hj4, hx4⟩ | ⟨rfl, hj4, hx4⟩)
        · have hr4 := HRD3.out.step hx4 (fun j s => HT.out _ j s)
          have HJ4 := Lib.hid hj4; have HR4 := Lib.hid hr4; have HI4 := Lib.hid (HSX.out w4 (by rw [HLX.out]; exact hkm) hr4)
          clear hj4 hx4 hr4
          dsimp only
          gi_wp2_with fail
          go_roundw
          case rel => exact ⟨k + 1, by go_num, by omega, HJ4.out, HR4.out, HI4.out⟩
          case measure => simp [intOf]; omega
        · have HJ4 := Lib.hid hj4; clear hj4 hx4
          dsimp only
          gi_wp2_with fail
          refine bodyPost_ret (results_none rfl _ _ _) rfl ?_
          exact ⟨⟨_, rfl⟩, .inr ⟨base + k + 1, by have := HB1.out; omega, HJ4.out⟩, trivial⟩
    · rw [hdir] at d1
      have hi0 : IDsFrom (wr.alloc (.cells cs.toArray 42)) (blobsN nd) pa 0 := by
        intro j _ hj
        rw [hbn] at hj ⊢
        obtain ⟨b2, o2, rfl, h⟩ := HIDS.out.at_ j hj
        refine ⟨b2, o2, rfl, (HRD.out.step HXA.out (fun _ s => s.elim)).range h ?_⟩
        intro h0
        have h1 := HIDS.out.len (nd.parts.getD j []) (by rw [List.getD_eq_getElem?_getD, List.getElem?_eq_getElem hj]; exact List.getElem_mem _)
        rw [← byts_length, h0] at h1; cases h1
      have hstep : ∀ k W', k < (blobsN nd).length → RD wo pb (.slice (some ⟨b, off, none⟩) n c) W' → IDsFrom W' (blobsN nd) pa (k + 1) := by
        intro k W' hk' hrd j _ hj
        rw [hbn] at hj ⊢
        obtain ⟨b2, o2, rfl, h⟩ := HIDS.out.at_ j hj
        refine ⟨b2, o2, rfl, hrd.range h ?_⟩
        intro h0
        have h1 := HIDS.out.len (nd.parts.getD j []) (by rw [List.getD_eq_getElem?_getD, List.getElem?_eq_getElem hj]; exact List.getElem_mem _)
        rw [← byts_length, h0] at h1; cases h1
      have hl1 : (blobsN nd).length = np := by rw [hbn, HNP.out]
      have h32 : ∀ x ∈ blobsN nd, x.length = 32 := by rw [hbn]; exact HIDS.out.len
      have HI0 := Lib.hid hi0; have HSTEP := Lib.hid hstep; have HX := HXA; have HL1 := Lib.hid hl1; have H32 := Lib.hid h32
      clear hi0 hstep hl1 hbn h32
      gi_wp2_with (first | ((with_reducible refine wpListIn_load_at ?_ 42 _ rfl ?_ HL42.out ?_); rfl; rfl) | ((with_reducible refine wpListIn_store_at ?_ 42 _ _ rfl ?_ ?_ (HS42.out _ ?_) ?_); rfl; rfl; rfl; rfl))
      have hj1 := hJ _ _ _ HJ0.out HX.out
      have hr1 := HRD.out.step HX.out (fun _ s => s.elim)
      obtain ⟨xs, hxs⟩ : ∃ xs, blobsN nd = xs := ⟨_, rfl⟩
      obtain ⟨base, hbase⟩ : ∃ x, (blobsL (ns.take i)).length = x := ⟨_, rfl⟩
      have hi0 := HI0.out; have hstep := HSTEP.out; have hl1 := HL1.out; have h32 := H32.out; have hbat := HBAT.out; have hcount := HCOUNT.out
      rw [hxs] at hi0 hstep hl1 h32 hcount
      simp only [hxs] at hbat
      rw [hbase] at hj1 hcount
      simp only [hbase] at hbat
      have HI1 := Lib.hid hi0; have HSTEP1 := Lib.hid hstep; have HLX := Lib.hid hl1; have HX32 := Lib.hid h32; have HBAT1 := Lib.hid hbat; have HCOUNT1 := Lib.hid hcount; have HJ1 := Lib.hid hj1; have HR1 := Lib.hid hr1
      clear hi0 hstep hl1 h32 hbat hcount hj1 hr1 HI0 HSTEP HL1 H32 HBAT HCOUNT HJ0 HRD hxs hbase HL42 HS42 HL40 HB40 HXA HIDS HS32
      gi_loopw [23] (fun i wv => ∃ k : Nat, i = .int .i64 k ∧ k ≤ np ∧ J (base + k) wv ∧ RD wo pb (.slice (some ⟨b, off, none⟩) n c) wv ∧ IDsFrom wv xs pa k) (fun i _ => np - (intOf i).toNat)
      case atStart => exact ⟨0, rfl, Nat.zero_le _, HJ1.out, HR1.out, HI1.out⟩
      case round =>
        obtain ⟨k, rfl, hk, hj, hrd, hif⟩ := hrel
        have HJ2 := Lib.hid hj; have HRD2 := Lib.hid hrd
        clear hj hrd
        by_cases hkm : k < np
        case neg =>
          have hkn : np = k := by omega
          have hend : (blobsL (ns.take (i + 1))).length = base + k := by rw [HCOUNT1.out, HLX.out]; omega
          have HEND := Lib.hid hend
          clear hif hend
          have hnk : decide ((k : Int) < np) = false := by simp; omega
          have hnk2 : ¬ (k < np) := hkm
          gi_wp2_with fail
          go_roundw
          case rel => exact ⟨i + 1, by go_num, by omega, by rw [HEND.out]; exact HJ2.out, HRD2.out⟩
          case measure => simp [intOf]; omega
        have hkmI : (k : Int) < np := by omega
        obtain ⟨b2, o2, ha, hr2⟩ := hif k (Nat.le_refl _) (by rw [HLX.out]; exact hkm)
        have hx32 := HX32.out (xs.getD k []) (by rw [List.getD_eq_getElem?_getD, List.getElem?_eq_getElem (by rw [HLX.out]; exact hkm)]; exact List.getElem_mem _)
        obtain ⟨hb1, hb2⟩ := HBAT1.out k (by rw [HLX.out]; exact hkm)
        have hsx := HSTEP1.out k
        generalize xs.getD k [] = x at *
        have hld := ids_load hr2 hx32 _ (Ext.refl _ _)
        cases ha
        try rw [Nat.zero_add] at hld
        have HLD := Lib.hid hld
        have HST := Lib.hid (store_id wr x hx32)
        have hxa : Ext No wr (wr.alloc (.cells (byts x).toArray 40)) := (Ext.refl No wr).alloc _
        have hbk := Blk.new wr (byts x).toArray 40
        have HLY := Lib.hid (ids_load (rangeAt.blk hbk 0) hx32 _ (Ext.refl _ _))
        obtain ⟨fn, tmps, assign, body, hy, hR⟩ := hY (base + k) #[.agg (byts x).toArray] (wr.alloc (.cells (byts x).toArray 40)) hb1 (hJ _ _ _ HJ2.out hxa) (by unfold HandedI; rw [hb2])
        have HXA := Lib.hid hxa; have HSX := Lib.hid hsx; have HB1 := Lib.hid hb1
        have hrd2 := HRD2.out.step hxa (fun _ s => s.elim)
        have HRD3 := Lib.hid hrd2
        clear hif hr2 hx32 hb1 hb2 hsx hxa hbk hrd2 hld
        gi_wp2_with (first | ((with_reducible refine wpListIn_load_at ?_ 40 _ rfl ?_ HLD.out ?_); rfl; rfl) | ((with_reducible refine wpListIn_store_at ?_ 40 _ _ rfl ?_ ?_ (HST.out _ ?_) ?_); rfl; rfl; rfl; rfl) | ((with_reducible refine wpListIn_load_at ?_ 40 _ rfl ?_ HLY.out ?_); rfl; rfl))
        refine ⟨rfl, hR.mono ?_⟩
        clear hR hy
        rintro e w4 (⟨rfl, hj4, hx4⟩ | ⟨rfl, hj4, hx4⟩)
        · have hr4 := HRD3.out.step hx4 (fun j s => HT.out _ j s)
          have HJ4 := Lib.hid hj4; have HR4 := Lib.hid hr4; have HI4 := Lib.hid (HSX.out w4 (by rw [HLX.out]; exact hkm) hr4)
          clear hj4 hx4 hr4
          dsimp only
          gi_wp2_with fail
          go_roundw
          case rel => exact ⟨k + 1, by go_num, by omega, HJ4.out, HR4.out, HI4.out⟩
          case measure => simp [intOf]; omega
        · have HJ4 := Lib.hid hj4; clear hj4 hx4
          dsimp only
          gi_wp2_with fail
          refine bodyPost_ret (results_none rfl _ _ _) rfl ?_
          exact ⟨⟨_, rfl⟩, .inr ⟨base + k + 1, by have := HB1.out; omega, HJ4.out⟩, trivial⟩
end Go.Proofs.YtefabpgfhghpgaaDoor
end

section
/- A range over a function, as in 'RangeW', where the assignment to the round's variable lays new blocks. No program in sight. -/
namespace Go.My
open Go.RowKit

variable {P : Program}

theorem wpIn_rangeA {g : Operand} {ps : Array Tmp} {assign body : Code} {Q : Exit → Act → World → Prop} {a : Act} {w : World}
    {gf : Nat} {lb : Array Value} (hg : a.eval g = .func (.func gf) #[] lb) (eg : ∀ args w, (callFunc gf args).run P w = .ok (.enter gf args) w)
    (U : World → Nat → Prop) (S : Nat → Prop) {N : Nat} {A : Nat → Array Value → World → Prop} {Fin : World → Prop}
    (hseq : SeqW P gf lb N A S (fun W k => U W k ∨ k = w.heap.size ∨ k = w.heap.size + 1) Fin w)
    (hUp : ∀ (W : World) (o : Obj) (r : Loop) (k : Nat), W.heap[w.heap.size + 1]? = some (.loop r) → U (W.putObj (w.heap.size + 1) o) k → U W k ∨ k = w.heap.size ∨ k = w.heap.size + 1)
    (hFin : ∀ A B, Fin A → Ext (fun j => False ∨ (j = w.heap.size + 1 ∧ NC A j)) A B → Fin B)
    (hps : ∀ k args W, A k args W → args.size = ps.size)
    (hU0 : ∀ W, ¬ U W w.heap.size) (hU1 : ∀ W, ¬ U W (w.heap.size + 1)) (hS0 : ¬ S w.heap.size) (hS1 : ¬ S (w.heap.size + 1))
    (I : Nat → World → Prop) (Ix : Code → Nat → World → Prop)
    (hI : ∀ k A B, I k A → Ext (fun j => S j ∨ (j = w.heap.size + 1 ∧ NC A j)) A B → I k B)
    (hIx : ∀ c k A B, Ix c k A → Ext (fun j => S j ∨ (j = w.heap.size + 1 ∧ NC A j)) A B → Ix c k B)
    (h0 : I 0 w) (Bd : Nat → Array Value → Act → World → Prop)
    (hUe : ∀ (W W' : World) (k : Nat), Ext No W W' → k < W.heap.size → U W' k → U W k)
    (hassign : ∀ (l k : Nat) (args : Array Value) (W : World) (K : Act → World → Prop), k < N → A k args W → w.heap.size + 2 ≤ W.heap.size → (∀ a' W', Ext No W W' → Bd k args a' W' → K a' W') →
      assign.wpIn (Fence.wide.inRound l) 0 P (Exit.then K (fun _ _ _ => False)) { tmps := (ps.zip args).foldl (fun t (p, v) => t.setIfInBounds p v) a.tmps, defers := [] } W)
    (hBd : ∀ (k : Nat) (args : Array Value) (a' : Act) (W : World) (o : Obj) (r : Loop), Bd k args a' W → W.heap[w.heap.size + 1]? = some (.loop r) → Bd k args a' (W.putObj (w.heap.size + 1) o))
    (hbody : ∀ (l k : Nat) (args : Array Value) (a' : Act) (W : World), k < N → I k W → Bd k args a' W → w.heap.size + 2 ≤ W.heap.size → body.wpIn (Fence.wide.inRound l) 0 P (rPostW U I Ix (k + 1) W) a' W)
    (hdone : ∀ W : World, I N W → Fin W → W.heap[w.heap.size]? = some (.deferred (some [])) → Q .normal { a with defers := { target := .collected w.heap.size, args := #[] } :: a.defers } W)
    (hstop : ∀ (c : Code) (k : Nat) (W : World), k ≤ N → Ix c k W → Fin W → W.heap[w.heap.size]? = some (.deferred (some [])) → c.wpIn Fence.wide 0 P Q { a with defers := { target := .collected w.heap.size, args := #[] } :: a.defers } W) :
    (Code.rangeFunc g ps assign body).wpIn Fence.wide 0 P Q a w := by
  refine wpIn_rangeFunc ?_
  intro fn hfn
  rw [show Fence.wide.round = none from rfl]
  obtain ⟨D, hD⟩ : ∃ D, w.heap.size = D := ⟨_, rfl⟩
  obtain ⟨rec, hrec⟩ : ∃ rec : LoopState → Option Code → Loop, rec = fun st pe => { state := st, pending := pe, fn, tmps := a.tmps, params := ps, assign, body, defers := D } := ⟨_, rfl⟩
  obtain ⟨W1, hW1⟩ : ∃ W1, (w.alloc (.deferred (some []))).alloc (.loop (rec .ready none)) = W1 := ⟨_, rfl⟩
  have hL1 : W1.heap[D + 1]? = some (.loop (rec .ready none)) := by
    rw [← hW1]; have := World.alloc_heap_new (w.alloc (.deferred (some []))) (.loop (rec .ready none)); rwa [World.size_alloc, hD] at this
  have hK1 : W1.heap[D]? = some (.deferred (some [])) := by
    rw [← hW1, ← hD]; exact (Below.heap_alloc _ _ _ (by simp)).trans (World.alloc_heap_new w _)
  have hx1 : Ext No w W1 := by rw [← hW1]; exact ((Ext.refl No w).alloc _).alloc _
  have hI1 : I 0 W1 := hI _ _ _ h0 (hx1.mono (fun _ _ h => h.elim))
  have hsz1 : D + 2 ≤ W1.heap.size := by rw [← hW1]; simp; omega
  refine ⟨D + 1, [{ target := .collected D, args := #[] }], W1, { target := .fn (.func gf) lb, args := #[.func (.yield (D + 1)) #[] #[]] }, W1, gf,
    #[.func (.yield (D + 1)) #[] #[]] ++ lb, W1, ?_, ?_, ?_, ?_, fun h => by simp [Fence.wide] at h, ?_⟩
  · rw [← hW1, hrec, ← hD]; exact run_enterLoop_outer _ _ _ _ _
  · simp only [resolve, hg]
    simp [go_sem]
  · intro f' hf'; trivial
  · simp [invoke, go_sem, eg]
  · rw [hD] at hseq hUp hFin hBd hassign hU0 hU1 hS0 hS1 hI hIx hbody hdone hstop
    refine callsIn_wide.2 ((hseq (D + 1)
      (fun k W => I k W ∧ W.heap[D + 1]? = some (.loop (rec .ready none)) ∧ W.heap[D]? = some (.deferred (some [])) ∧ D + 2 ≤ W.heap.size)
      (fun k W => ∃ c, Ix c k W ∧ W.heap[D + 1]? = some (.loop (rec .done (some c))) ∧ W.heap[D]? = some (.deferred (some [])) ∧ D + 2 ≤ W.heap.size)
      W1 hx1 (by rw [hD]; exact hsz1) ?_ ?_ ?_ ⟨hI1, hL1, hK1, hsz1⟩).mono ?_)
    · rintro k A B ⟨h1, h2, h3, h4⟩ hx
      exact ⟨hI k A B h1 (hx.mono (fun _ _ h => .inl h)), (hx.block _ (by omega) hS1).trans h2, (hx.block _ (by omega) hS0).trans h3, Nat.le_trans h4 hx.size⟩
    · rintro k A B ⟨c, h1, h2, h3, h4⟩ hx
      exact ⟨c, hIx c k A B h1 (hx.mono (fun _ _ h => .inl h)), (hx.block _ (by omega) hS1).trans h2, (hx.block _ (by omega) hS0).trans h3, Nat.le_trans h4 hx.size⟩
    · -- ONE ROUND
      rintro k args Wa hkN ⟨hia, hla, hka, hsa⟩ hAk
      have hy := run_yield (P := P) (args := args) hla (by rw [hrec]; exact hps k args Wa hAk)
      rw [hrec] at hy
      refine ⟨fn, _, assign, body, hy, roundIn_of_wpIn hfn (hassign _ k args Wa _ hkN hAk hsa fun a' W hxa hbd => ⟨_, run_beginRound ((hxa.block (D + 1) (by omega) (fun s => s)).trans hla) (by rw [hrec]), ?_⟩)⟩
      have hi : I k W := hI _ _ _ hia (hxa.mono (fun _ _ h => h.elim))
      have hl : W.heap[D + 1]? = some (.loop (rec .ready none)) := (hxa.block (D + 1) (by omega) (fun s => s)).trans hla
      have hk : W.heap[D]? = some (.deferred (some [])) := (hxa.block D (by omega) (fun s => s)).trans hka
      have hs : D + 2 ≤ W.heap.size := Nat.le_trans hsa hxa.size
      have hl2 : (W.putObj (D + 1) (.loop { rec .ready none with state := .busy })).heap[D + 1]? = some (.loop { rec .ready none with state := .busy }) := World.putObj_heap_same (by omega)
      have hk2 : (W.putObj (D + 1) (.loop { rec .ready none with state := .busy })).heap[D]? = some (.deferred (some [])) := (World.putObj_heap_other (by omega)).trans hk
      have hx2 : ∀ {S' : Nat → Prop} (W : World) (o : Obj), S' (D + 1) → Ext S' W (W.putObj (D + 1) o) := fun W o h => (Ext.refl _ W).putObj _ _ (fun _ => h)
      refine wpIn_mono (hbody _ k args a' _ hkN (hI _ _ _ hi (Ext.putObjN _ _ _ (NC.loop hl))) (hBd k args a' W _ _ hbd hl) (by rw [World.putObj_size]; exact hs)) ?_
      have fin : ∀ (jump : Option Code) (W3 : World), Ext (U (W.putObj (D + 1) (.loop { rec .ready none with state := .busy }))) (W.putObj (D + 1) (.loop { rec .ready none with state := .busy })) W3 →
          (Instr.endRound (D + 1) jump).run P W3 = .ok (.bool jump.isNone) (W3.putObj (D + 1) (.loop (rec (if jump.isNone then .ready else .done) jump))) ∧
          (W3.putObj (D + 1) (.loop (rec (if jump.isNone then .ready else .done) jump))).heap[D + 1]? = some (.loop (rec (if jump.isNone then .ready else .done) jump)) ∧
          (W3.putObj (D + 1) (.loop (rec (if jump.isNone then .ready else .done) jump))).heap[D]? = some (.deferred (some [])) ∧ D + 2 ≤ (W3.putObj (D + 1) (.loop (rec (if jump.isNone then .ready else .done) jump))).heap.size := fun jump W3 hk3 => by
        have hl3 := (hk3.block (D + 1) (by rw [World.putObj_size]; omega) (hU1 _)).trans hl2
        have hd3 := (hk3.block D (by rw [World.putObj_size]; omega) (hU0 _)).trans hk2
        have hs3 : D + 2 ≤ W3.heap.size := Nat.le_trans (by rw [World.putObj_size]; exact hs) hk3.size
        have := run_endRound (P := P) jump hl3
        rw [hrec] at this ⊢
        exact ⟨this, World.putObj_heap_same (by omega), (World.putObj_heap_other (by omega)).trans hd3, by rw [World.putObj_size]; exact hs3⟩
      have ext3 : ∀ (W3 : World) (o o' : Obj), Ext (U (W.putObj (D + 1) o)) (W.putObj (D + 1) o) W3 → Ext (fun k => U Wa k ∨ k = D ∨ k = D + 1) Wa (W3.putObj (D + 1) o') := fun W3 o o' hx3 =>
        hxa.trans (T := fun k => U W k ∨ k = D ∨ k = D + 1) (((hx2 W o (.inr (.inr rfl))).trans hx3 (fun _ _ h => h) (fun k _ h => hUp W o _ k hl h)).trans (hx2 W3 _ (.inr (.inr rfl))) (fun _ _ h => h) (fun _ _ h => h)) (fun _ _ h => h.elim) (fun k hk h => h.imp (fun h => hUe _ _ _ hxa hk h) id)
      have ncl : ∀ (W3 : World), Ext (U (W.putObj (D + 1) (.loop { rec .ready none with state := .busy }))) (W.putObj (D + 1) (.loop { rec .ready none with state := .busy })) W3 → NC W3 (D + 1) := fun W3 hk3 => NC.loop ((hk3.block (D + 1) (by rw [World.putObj_size]; omega) (hU1 _)).trans hl2)
      rintro e a3 W3 hp
      cases e with
      | normal =>
        obtain ⟨hx3, hi3⟩ := hp
        obtain ⟨hr, h4⟩ := fin none W3 hx3
        refine ⟨_, _, hr, .inl ⟨rfl, ⟨hI _ _ _ hi3 (Ext.putObjN _ _ _ (ncl _ hx3)), h4⟩, ext3 _ _ _ hx3⟩⟩
      | ret =>
        obtain ⟨hx3, hi3⟩ := hp
        obtain ⟨hr, h4⟩ := fin (some .ret) W3 hx3
        exact ⟨_, _, hr, .inr ⟨rfl, ⟨.ret, hIx _ _ _ _ hi3 (Ext.putObjN _ _ _ (ncl _ hx3)), h4⟩, ext3 _ _ _ hx3⟩⟩
      | exit id =>
        obtain ⟨hx3, hi3⟩ := hp
        obtain ⟨hr, h4⟩ := fin (some (.exit id)) W3 hx3
        exact ⟨_, _, hr, .inr ⟨rfl, ⟨.exit id, hIx _ _ _ _ hi3 (Ext.putObjN _ _ _ (ncl _ hx3)), h4⟩, ext3 _ _ _ hx3⟩⟩
      | goto t =>
        obtain ⟨hx3, hi3⟩ := hp
        obtain ⟨hr, h4⟩ := fin (some (.goto t)) W3 hx3
        exact ⟨_, _, hr, .inr ⟨rfl, ⟨.goto t, hIx _ _ _ _ hi3 (Ext.putObjN _ _ _ (ncl _ hx3)), h4⟩, ext3 _ _ _ hx3⟩⟩
      | panic ch => exact hp.elim
      | outgrown => exact hp.elim
    · -- BEHIND THE ITERATOR
      rintro e W2 ⟨⟨v, rfl⟩, (⟨hi, hl, hk, hs⟩ | ⟨k, hkN, c, hi, hl, hk, hs⟩), hfin⟩
      · exact ⟨none, _, by have := run_endLoop (P := P) hl (by rw [hrec]; simp); rw [hrec] at this; exact this, hdone _ (hI _ _ _ hi (Ext.putObjN _ _ _ (NC.loop hl))) (hFin _ _ hfin (Ext.putObjN _ _ _ (NC.loop hl))) ((World.putObj_heap_other (by omega)).trans hk)⟩
      · exact ⟨some c, _, by have := run_endLoop (P := P) hl (by rw [hrec]; simp); rw [hrec] at this; exact this, hstop c k _ hkN (hIx _ _ _ _ hi (Ext.putObjN _ _ _ (NC.loop hl))) (hFin _ _ hfin (Ext.putObjN _ _ _ (NC.loop hl))) ((World.putObj_heap_other (by omega)).trans hk)⟩

end Go.My
end

section
/- The contracts of tree.Blobs and of the statements' own function blobs. Printed by wip/mktblobs.py. -/
namespace Go.Proofs.YtefabpgfhghpgaaDoor
open Go.RowKit Go.My Go.Shelf

attribute [local go_sem] Oper.semAt_some

/-- what Blobs gives -/
def BlobsTold (v : Value) (w : World) (e : Ending) (w' : World) : Prop := Ext No w w' ∧ ∃ pb, e = .returned (.func (.func 53) #[] #[.pointer (some ⟨pb, 0, none⟩)]) ∧ w.heap.size ≤ pb ∧ Blk w' pb #[v] 22
set_option maxRecDepth 100000 in
theorem blobsF_any (a : Option Addr) (n c : Nat) (w : World) : Calls Tryd.prog 38 #[.slice a n c] w (BlobsTold (.slice a n c) w) := by
  obtain ⟨v, hv⟩ : ∃ v, v = Value.slice a n c := ⟨_, rfl⟩
  have hx : Ext No w (w.alloc (.cells #[v] 22)) := (Ext.refl No w).alloc _
  have hb := Blk.new w #[v] 22
  rw [hv] at hx hb
  have HX := Lib.hid hx; have HB := Lib.hid hb
  clear hx hb hv
  go_enter Tryd.func38, Tryd.ntmps38
  go_wp2_with fail
  go_ret
  exact ⟨HX.out, _, rfl, Nat.le_refl _, HB.out⟩

/-- the cells of sums, one behind the other -/
def idCells (l : List (List UInt8)) : List Value := l.flatMap byts
theorem idCells_take (ls : List (List UInt8)) (k : Nat) (h : k < ls.length) : idCells (ls.take (k + 1)) = idCells (ls.take k) ++ byts (ls.getD k []) := by
  unfold idCells
  rw [List.take_add_one, List.flatMap_append, List.getD_eq_getElem?_getD, List.getElem?_eq_getElem h]
  simp
theorem blobs_32 {w : World} {ns : List NodeL} {v : Value} (h : IsNodes w ns v) : ∀ x ∈ blobsL ns, x.length = 32 := by
  intro x hx
  obtain ⟨a, c, rfl, -, -, hat⟩ := h
  unfold blobsL at hx
  obtain ⟨m, hm, hx⟩ := List.mem_flatMap.1 hx
  obtain ⟨i, hi, rfl⟩ := List.mem_iff_getElem.1 hm
  obtain ⟨b, off, cs, -, -, hnd⟩ := hat.at_ i hi
  rw [List.getD_eq_getElem?_getD, List.getElem?_eq_getElem hi] at hnd
  simp only [Option.getD_some] at hnd
  unfold blobsN at hx
  split at hx
  · rw [List.mem_singleton.1 hx]; exact hnd.sub
  · obtain ⟨⟨pv, -, ⟨pa, pc, -, -, -, h⟩⟩, -, -, -⟩ := hnd
    exact h.len x hx
theorem elC_ids : ∀ (l : List (List UInt8)) (i : Nat) (x : List UInt8), (∀ x ∈ l, x.length = 32) → l[i]? = some x → elC (idCells l) 32 i = byts x
  | [], i, x, _, hx => by simp at hx
  | y :: l, 0, x, h, hx => by
    simp at hx; subst hx
    have h1 : (byts y).length = 32 := by rw [byts_length]; exact h y (List.mem_cons_self ..)
    unfold elC idCells
    rw [List.flatMap_cons, Nat.zero_mul, List.drop_zero, List.take_left' h1]
  | y :: l, i + 1, x, h, hx => by
    have h1 : (byts y).length = 32 := by rw [byts_length]; exact h y (List.mem_cons_self ..)
    have := elC_ids l i x (fun z hz => h z (List.mem_cons_of_mem _ hz)) (by simpa using hx)
    unfold elC idCells at this ⊢
    rw [List.flatMap_cons, show (i + 1) * 32 = 32 + i * 32 by omega, ← List.drop_drop, List.drop_left' h1]
    exact this
theorem own_ids {w : World} {B : Nat} {l : List (List UInt8)} {v : Value} (h : w.ownsRow B 40 32 v l.length (idCells l)) (h32 : ∀ x ∈ l, x.length = 32) : OwnIDs w B l v :=
  ⟨_, h, fun i x hx => ⟨elC_ids l i x h32 hx, h32 x (List.mem_of_getElem? hx)⟩⟩

theorem wpListIn_appS {F : Fence} {nF : Nat} {P : Program} {ops : Array Oper} {rest : List Oper} {o : Oper} {a : Act} {Q : Exit → Act → World → Prop} (w : World) (us : List Value) (size : Nat) (hsz : 0 < size) (hgd : o.guard = none) (s x : Operand) (t : TypeId)
    (ho : o.op = .call { callee := .builtin .append, args := #[s, x], argTypes := #[t, t] }) (base : Nat) (e : TypeId) (z : Value) (bytes : Nat)
    (hinfo : (P.info? e).map (fun i => (i.zero, i.size, i.bytes)) = some (some z, size, bytes)) (ht : P.underlying t = some (.slice e)) (hzs : z.cells.size = size)
    (v : Value) (n : Nat) (xs : List Value) (hs : a.eval s = v) (hown : w.ownsRow base e size v n xs) (b : Nat) (T : TypeId) (hx : a.eval x = .slice (some ⟨b, 0, none⟩) 1 1) (hb : Blk w b us.toArray T) (hl : us.length = size) (h1 : ∀ u ∈ us, u.oneCell' = true)
    (h63 : n + 1 ≤ 9223372036854775807) (hbytes : (n + 1) * bytes ≤ 140737488355328) (hbase : base ≤ w.heap.size)
    (h : ∀ v' w', w'.ownsRow base e size v' (n + 1) (xs ++ us) → w.grownBy w' v.ownBlock → (v'.ownBlock = v.ownBlock ∨ v'.ownBlock = some w.heap.size) → wpListIn F nF P ops Q rest (a.put o.dst v') w') : wpListIn F nF P ops Q (o :: rest) a w := by
  obtain ⟨i0, hi, hz0, hz1, hz2⟩ : ∃ i, P.info? e = some i ∧ i.zero = some z ∧ i.size = size ∧ i.bytes = bytes := by
    cases hi : P.info? e with
    | none => rw [hi] at hinfo; cases hinfo
    | some i => rw [hi] at hinfo; simp at hinfo; exact ⟨i, rfl, hinfo.1, hinfo.2.1, hinfo.2.2⟩
  refine wpListIn_append_own_at w hgd s x t ho base e i0 z size bytes ht hi hz0 hz1 hz2 hzs hsz v n xs hs hown ⟨b, 0, none⟩ 1 1 us hx (by omega) ?_ h1 (by unfold maxLen; omega) hbytes hbase fun v' w' h2 h3 _ h4 => h v' w' h2 h3 h4
  intro j y hj
  rw [addr_add, Nat.zero_add, hb.cell]
  simpa using hj

theorem x32 {l : List (List UInt8)} (h : ∀ x ∈ l, x.length = 32) (k : Nat) (hk : k < l.length) : (l.getD k []).length = 32 := by
  rw [List.getD_eq_getElem?_getD, List.getElem?_eq_getElem hk]
  exact h _ (List.getElem_mem _)
/-- which blocks a round may turn -/
def UI (b4 b5 b6 D : Nat) (W : World) (j : Nat) : Prop := j = b4 ∨ j = b5 ∨ j = b6 ∨ (D + 2 ≤ j ∧ ∃ cs, Blk W j cs 40)
/-- what a round finds: the sum lies in a new block -/
def BdI (B : Nat) (T7 : Nat → Array Value) (ns : List NodeL) (k : Nat) (args : Array Value) (a : Act) (W : World) : Prop :=
  HandedI ns k args W ∧ ∃ b7, B + 2 ≤ b7 ∧ a = { tmps := T7 b7, defers := [] } ∧ Blk W b7 (byts ((blobsL ns).getD k [])).toArray 40
structure GathI (w W : World) (b3 b4 b5 b6 D : Nat) (most : Int) (l : List (List UInt8)) (k : Nat) : Prop where
  own : ∃ a c, Blk W b5 #[.slice a k c] 38 ∧ W.ownsRow w.heap.size 40 32 (.slice a k c) k (idCells (l.take k)) ∧ ∀ j, (Value.slice a k c).ownBlock = some j → j = b6 ∨ D + 2 ≤ j
  r3 : Blk W b3 #[.int .i64 most] 3
  r4 : ∃ v, Blk W b4 #[v] 38
  lt : (k : Int) < most
  ext : Ext No w W
structure GathIX (w W : World) (b4 b6 D : Nat) (most : Int) (l : List (List UInt8)) (k : Nat) : Prop where
  own : ∃ v, Blk W b4 #[v] 38 ∧ W.ownsRow w.heap.size 40 32 v k (idCells (l.take k)) ∧ ∀ j, v.ownBlock = some j → j = b6 ∨ D + 2 ≤ j
  eq : (k : Int) = most
  ext : Ext No w W

set_option maxRecDepth 100000 in
set_option maxHeartbeats 8000000 in
theorem blobs_any (ns : List NodeL) (nv : Value) (most : Int) (w : World) (hv : IsNodes w ns nv) (hl : (blobsL ns).length ≤ 1000000000) :
    Calls Tryd.prog 17 #[nv, .int .i64 most] w fun e w' => ∃ v, e = .returned v ∧ OwnIDs w' w.heap.size ((blobsL ns).take most.toNat) v ∧ Ext No w w' := by
  have h32 := blobs_32 hv
  obtain ⟨na, nc, hnv, -⟩ := id hv
  subst hnv
  obtain ⟨nn, hnn⟩ : ∃ m, m = ns.length := ⟨_, rfl⟩
  rw [← hnn] at hv ⊢
  have HNN := Lib.hid hnn
  clear hnn
  obtain ⟨w0, hw0⟩ : ∃ w0, lay w [(#[.int .i64 most], 3), (#[.slice none 0 0], 38), (#[], 40), (#[.slice (some ⟨w.heap.size + 1 + 1, 0, none⟩) 0 0], 38)] = w0 := ⟨_, rfl⟩
  have hx : Ext No w w0 := by rw [← hw0]; exact lay_ext _ (Ext.refl _ _)
  have hsz : w0.heap.size = w.heap.size + 4 := by rw [← hw0]; exact lay_size _ w
  have hb0 := lay_at hw0 0 _ _ rfl
  have hb1 := lay_at hw0 1 _ _ rfl
  have hb2 := lay_at hw0 2 _ _ rfl
  have hb3 := lay_at hw0 3 _ _ rfl
  rw [Nat.add_zero] at hb0
  simp only [lay] at hw0
  have HW0 := Lib.hid hw0; have HX := Lib.hid hx; have HSZ := Lib.hid hsz; have HB := Lib.hid (And.intro hb0 (And.intro hb1 (And.intro hb2 hb3))); have HL := Lib.hid hl; have HV := Lib.hid hv; have H32 := Lib.hid h32
  have HTK : Hid (∀ x ∈ (blobsL ns).take most.toNat, x.length = 32) := Lib.hid (fun x hx => h32 x (List.mem_of_mem_take hx))
  clear hw0 hx hsz hb0 hb1 hb2 hb3 hl hv h32
  refine (callsIn_wide (n := 0)).1 ?_
  refine callsIn_of_wp_marks Tryd.func17 rfl trivial ?_ rfl
  simp only [Tryd.ntmps17, List.size_toArray, List.length_cons, List.length_nil, Nat.reduceAdd, Nat.reduceSub, Array.replicate_succ, Array.replicate_zero, List.push_toArray, List.append_toArray, List.nil_append, List.cons_append]
  by_cases hm : most ≤ 0
  · obtain ⟨w9, hw9⟩ : ∃ w9, lay w [(#[.int .i64 most], 3), (#[.slice (some ⟨w.heap.size + 1 + 1, 0, none⟩) 0 0], 38), (#[], 40), (#[.slice (some ⟨w.heap.size + 1 + 1, 0, none⟩) 0 0], 38)] = w9 := ⟨_, rfl⟩
    have hx9 : Ext No w w9 := by rw [← hw9]; exact lay_ext _ (Ext.refl _ _)
    have hr := (lay_at hw9 1 _ _ rfl).cell 0
    simp only [List.getElem?_toArray, List.getElem?_cons_zero] at hr
    have hb2 := lay_at hw9 2 _ _ rfl
    simp only [lay] at hw9
    have HW9 := Lib.hid hw9; have HX9 := Lib.hid hx9; have HB2 := Lib.hid hb2
    clear hw9 hx9 hb2
    gi_wp2_with fail
    rw [HW9.out]
    rw [show most.toNat = 0 by omega, List.take_zero]
    exact ⟨.slice (some ⟨w.heap.size + 1 + 1, 0, none⟩) 0 0, by simp [results, Tryd.func17, Tryd.f17, go_sem, hr], _, rfl, own_ids (l := []) ⟨rfl, .inr ⟨_, 0, #[], rfl, by omega, HB2.out, by simp, by decide, by simp, by simp [idCells]⟩⟩ (by simp), HX9.out⟩
  · have hm' : decide (most ≤ 0) = false := by simp; omega
    gi_wp2_with fail
    rw [HW0.out]; clear HW0
    refine ⟨trivial, rfl, (callsIn_wide.2 (blobsF_any na nn nc _)).mono ?_⟩
    rintro e w1 ⟨hE1, pb, rfl, hpb, hbp⟩
    have hX1 := HX.out.trans' hE1
    have hz := HSZ.out
    have hltp := hbp.lt
    have hseq := blobs1_seq ns (.slice na nn nc) pb w w1 hbp HV.out hX1 (fun W j => UI (w.heap.size + 1) (w.heap.size + 1 + 1 + 1) (w.heap.size + 1 + 1) w1.heap.size W j ∨ j = w1.heap.size ∨ j = w1.heap.size + 1) (fun W j => by
      rintro ((h | h | h | ⟨h, -⟩) | h | h) <;> omega)
    have hg0 : GathI w w1 w.heap.size (w.heap.size + 1) (w.heap.size + 1 + 1 + 1) (w.heap.size + 1 + 1) w1.heap.size most (blobsL ns) 0 := by
      obtain ⟨hb0, hb1, hb2, hb3⟩ := HB.out
      refine ⟨⟨_, _, hb3.ext hE1 (fun s => s), ⟨rfl, .inr ⟨_, 0, #[], rfl, by omega, hb2.ext hE1 (fun s => s), by simp, by decide, by simp, by simp [idCells]⟩⟩, fun j hj => .inl (Option.some.inj hj).symm⟩, hb0.ext hE1 (fun s => s), ⟨_, hb1.ext hE1 (fun s => s)⟩, by omega, hX1⟩
    have HSEQ := Lib.hid hseq; have HG0 := Lib.hid hg0
    have HLT := Lib.hid (show w.heap.size + 4 ≤ pb ∧ pb < w1.heap.size ∧ w.heap.size + 4 ≤ w1.heap.size by have := hE1.size; omega)
    clear hseq hg0 hX1 hz hltp hpb hbp hE1 HX HSZ HB
    dsimp only
    generalize h5 : w.heap.size + 1 + 1 + 1 = b5 at *
    generalize h6 : w.heap.size + 1 + 1 = b6 at *
    generalize h4 : w.heap.size + 1 = b4 at *
    have HBS := Lib.hid (And.intro h4 (And.intro h5 h6))
    clear h4 h5 h6
    gi_wp2_with fail
    refine wpIn_rangeA (gf := 53) (lb := #[.pointer (some ⟨pb, 0, none⟩)]) rfl (enters_of Tryd.func53 (by kernel_rfl) rfl)
      (UI b4 b5 b6 w1.heap.size) No (N := (blobsL ns).length) HSEQ.out ?hUp ?hFin ?hps ?hU0 ?hU1 ?hS0 ?hS1
      (fun k W => GathI w W w.heap.size b4 b5 b6 w1.heap.size most (blobsL ns) k) (fun c k W => c = .ret ∧ GathIX w W b4 b6 w1.heap.size most (blobsL ns) k) ?hI ?hIx HG0.out
      (fun k args a' W => BdI w1.heap.size (fun b7 => #[.slice na nn nc, .int .i64 most, undef, .pointer (some ⟨w.heap.size, 0, none⟩), .pointer (some ⟨b4, 0, none⟩), .pointer (some ⟨b5, 0, none⟩), .pointer (some ⟨b7, 0, none⟩), .slice (some ⟨b6, 0, none⟩) 0 0, .int .i64 most, .bool false, undef, .slice na nn nc, .func (.func 53) #[] #[.pointer (some ⟨pb, 0, none⟩)], .agg (byts ((blobsL ns).getD k [])).toArray, undef, undef, undef, undef, undef, undef, undef, undef, undef, undef]) ns k args a' W) ?hUe ?assign ?hBd ?body ?done ?stop
    case hUp =>
      intro W o r k hr hU
      rcases hU with hU | hU | hU | ⟨hk, cs, hb⟩
      · exact .inl (.inl hU)
      · exact .inl (.inr (.inl hU))
      · exact .inl (.inr (.inr (.inl hU)))
      · refine .inl (.inr (.inr (.inr ⟨hk, cs, ?_⟩)))
        unfold Blk at hb ⊢
        rw [World.putObj_heap_other (by omega)] at hb; exact hb
    case hFin => intro A B _ _; trivial
    case hps => rintro k args W h; unfold HandedI at h; subst h; rfl
    case hUe =>
      intro W W' j hx hj hU
      rcases hU with hU | hU | hU | ⟨hk, cs, hb⟩
      · exact .inl hU
      · exact .inr (.inl hU)
      · exact .inr (.inr (.inl hU))
      · refine .inr (.inr (.inr ⟨hk, cs, ?_⟩))
        unfold Blk at hb ⊢
        rw [← hx.block j hj (fun s => s)]; exact hb
    case hBd =>
      rintro k args a' W ob r ⟨h, b7, h1, h2, h3⟩ hl
      refine ⟨h, b7, h1, h2, ?_⟩
      unfold Blk at h3 ⊢
      rw [World.putObj_heap_other (by omega)]; exact h3
    case hU0 => obtain ⟨h0, h1, h2⟩ := HLT.out; obtain ⟨g0, g1, g2⟩ := HBS.out; rintro W (h | h | h | ⟨h, -⟩) <;> omega
    case hU1 => obtain ⟨h0, h1, h2⟩ := HLT.out; obtain ⟨g0, g1, g2⟩ := HBS.out; rintro W (h | h | h | ⟨h, -⟩) <;> omega
    case hS0 => intro h; exact h
    case hS1 => intro h; exact h
    case hI =>
      obtain ⟨h0, h1, h2⟩ := HLT.out
      obtain ⟨g0, g1, g2⟩ := HBS.out
      rintro k A B ⟨⟨a, c, hb, ho, hj⟩, h3, ⟨v4, h4⟩, hlt, he⟩ hE
      exact ⟨⟨a, c, hb.extN hE (fun s => s), own_extN ho hE (fun k hk s => s), hj⟩, h3.extN hE (fun s => s), ⟨v4, h4.extN hE (fun s => s)⟩, hlt, he.trans hE (fun _ _ s => s) (fun j hj s => s.elim (fun s => s) (fun s => by omega))⟩
    case hIx =>
      obtain ⟨h0, h1, h2⟩ := HLT.out
      obtain ⟨g0, g1, g2⟩ := HBS.out
      rintro c k A B ⟨rfl, ⟨v, h4, ho, hj⟩, heq, he⟩ hE
      exact ⟨rfl, ⟨v, h4.extN hE (fun s => s), own_extN ho hE (fun k hk s => s), hj⟩, heq, he.trans hE (fun _ _ s => s) (fun j hj s => s.elim (fun s => s) (fun s => by omega))⟩
    case assign =>
      rintro y k args W K hkN h hsz hK
      have h' := h
      unfold HandedI at h
      subst h
      have hx32 := x32 H32.out k hkN
      have HKK : Hid (∀ b7, w1.heap.size + 2 ≤ b7 → Blk (W.alloc (.cells (byts ((blobsL ns).getD k [])).toArray 40)) b7 (byts ((blobsL ns).getD k [])).toArray 40 → K { tmps := #[.slice na nn nc, .int .i64 most, undef, .pointer (some ⟨w.heap.size, 0, none⟩), .pointer (some ⟨b4, 0, none⟩), .pointer (some ⟨b5, 0, none⟩), .pointer (some ⟨b7, 0, none⟩), .slice (some ⟨b6, 0, none⟩) 0 0, .int .i64 most, .bool false, undef, .slice na nn nc, .func (.func 53) #[] #[.pointer (some ⟨pb, 0, none⟩)], .agg (byts ((blobsL ns).getD k [])).toArray, undef, undef, undef, undef, undef, undef, undef, undef, undef, undef], defers := [] } (W.alloc (.cells (byts ((blobsL ns).getD k [])).toArray 40))) := Lib.hid (fun b7 h7 hb7 => hK _ _ ((Ext.refl No W).alloc _) ⟨h', b7, h7, rfl, hb7⟩)
      have HBN := Lib.hid (Blk.new W (byts ((blobsL ns).getD k [])).toArray 40)
      have HS7 := Lib.hid hsz
      clear hK h' hsz hkN
      generalize (blobsL ns).getD k [] = x at *
      have HST := Lib.hid (store_id W x hx32)
      clear hx32
      gi_wp2_with ((with_reducible refine wpListIn_store_at ?_ 40 _ _ rfl ?_ ?_ (HST.out _ ?_) ?_); rfl; rfl; rfl; rfl)
      exact HKK.out _ HS7.out HBN.out
    case body =>
      rintro y k args a' W hkN hg ⟨-, b7, hb7, rfl, hb7b⟩ hsz
      obtain ⟨h0, h1, h2⟩ := HLT.out
      obtain ⟨g0, g1, g2⟩ := HBS.out
      have hst := idCells_take (blobsL ns) k hkN
      have hll := HL.out
      have hx32 := H32.out ((blobsL ns).getD k []) (by rw [List.getD_eq_getElem?_getD, List.getElem?_eq_getElem hkN]; exact List.getElem_mem _)
      generalize (blobsL ns).getD k [] = x at *
      obtain ⟨⟨a, c, hb, ho, hj⟩, h3, ⟨v4, h4⟩, hlt, he⟩ := hg
      obtain ⟨W2, hW2⟩ : ∃ W2, W.alloc (.cells (byts x).toArray 40) = W2 := ⟨_, rfl⟩
      have hx2 : Ext No W W2 := by rw [← hW2]; exact (Ext.refl No W).alloc _
      have hbb : Blk W2 W.heap.size (byts x).toArray 40 := by rw [← hW2]; exact Blk.new W (byts x).toArray 40
      have hbi := build_id x hx32 W
      rw [hW2] at hbi
      have HLY := Lib.hid (ids_load (rangeAt.blk hb7b 0) hx32 _ (Ext.refl _ _))
      have HBI := Lib.hid hbi; have HBB := Lib.hid hbb; have HX2 := Lib.hid hx2
      have HXL : Hid ((byts x).length = 32) := Lib.hid (by rw [byts_length, hx32])
      have HON : Hid (∀ u ∈ byts x, u.oneCell' = true) := Lib.hid (one_of (one_byts x))
      have HO := Lib.hid (own_ext ho hx2 (fun _ _ s => s)); have HB5 := Lib.hid (hb.ext hx2 (fun s => s)); have HB3 := Lib.hid (h3.ext hx2 (fun s => s)); have HB4 := Lib.hid (h4.ext hx2 (fun s => s))
      have HN5 := Lib.hid (own_ne_type HO.out HB5.out (by decide)); have HN4 := Lib.hid (own_ne_type HO.out HB4.out (by decide)); have HN3 := Lib.hid (own_ne_type HO.out HB3.out (by decide))
      have HNM := Lib.hid (show k + 1 ≤ 9223372036854775807 ∧ (k + 1) * 32 ≤ 140737488355328 by omega)
      have HZ := Lib.hid (show w.heap.size ≤ W2.heap.size by rw [← hW2, World.size_alloc]; omega)
      have HSZ2 := Lib.hid (show W.heap.size + 1 = W2.heap.size by rw [← hW2, World.size_alloc])
      have HSTP := Lib.hid hst; have HE := Lib.hid he; have HJ := Lib.hid hj; have HSZ := Lib.hid hsz; have HOW := Lib.hid ho
      have hcb := hb.cell 0
      simp only [List.getElem?_toArray, List.getElem?_cons_zero] at hcb
      have hn45 : b4 ≠ b5 := by omega
      have hn54 : b5 ≠ b4 := by omega
      have hn53 : b5 ≠ w.heap.size := by omega
      have hn35 : w.heap.size ≠ b5 := by omega
      have hn34 : w.heap.size ≠ b4 := by omega
      have hn43 : b4 ≠ w.heap.size := by omega
      clear hst hll hb ho hj he h3 h4 h0 h1 h2 g0 g1 g2 hsz hx32 hx2 hbb hbi hW2
      by_cases hme : (k : Int) + 1 = most
      · have hd2 : ((k : Int) + 1 == most) = true := by simpa using hme
        have HME := Lib.hid hme; clear hme
        gi_wp2_with (first | ((with_reducible refine wpListIn_load_at ?_ 40 _ rfl ?_ HLY.out ?_); rfl; rfl) | ((with_reducible refine wpListIn_build_at ?_ 38 1 _ rfl ?_ HBI.out ?_); rfl; rfl) | (gi_at_builtin; refine wpListIn_appS _ _ 32 (by decide) rfl _ _ 38 rfl w.heap.size 40 _ _ id_info Tryd.underlying38 rfl _ _ _ rfl HO.out _ 40 rfl HBB.out HXL.out HON.out HNM.out.1 HNM.out.2 HZ.out ?_; intro v' w2 hown hgrow hat; obtain ⟨a6, c6, rfl⟩ := own_form hown; have hd5 := (HB5.out.grown hgrow HN5.out).cell 0; have hg5 := (HB5.out.grown hgrow HN5.out).free 0; have hd3 := (HB3.out.grown hgrow HN3.out).cell 0; have hd4 := (HB4.out.grown hgrow HN4.out).cell 0; have hg4 := (HB4.out.grown hgrow HN4.out).free 0; simp only [List.getElem?_toArray, List.getElem?_cons_zero] at hd5 hd3 hd4))
        obtain ⟨h0, h1, h2⟩ := HLT.out
        obtain ⟨g0, g1, g2⟩ := HBS.out
        have hsz := HSZ.out; have hsz2 := HSZ2.out
        have hb5 := HB5.out.grown hgrow HN5.out; have hb4 := HB4.out.grown hgrow HN4.out; have hb3 := HB3.out.grown hgrow HN3.out
        have hne5 := own_ne_type hown hb5 (by decide); have hne4 := own_ne_type hown hb4 (by decide)
        have hU0 : Ext (UI b4 b5 b6 w1.heap.size W) W w2 := (HX2.out.mono (fun _ _ s => s.elim)).grown hgrow (fun j hj _ => by
          rcases HJ.out j hj with h | h
          · exact .inr (.inr (.inl h))
          · exact .inr (.inr (.inr ⟨h, own_blkN HOW.out hj⟩)))
        have hj6 : ∀ j, (Value.slice a6 (k + 1) c6).ownBlock = some j → j = b6 ∨ w1.heap.size + 2 ≤ j := fun j hj => by
          rcases hat with h | h
          · exact HJ.out j (h ▸ hj)
          · rw [h] at hj
            have := Option.some.inj hj
            omega
        have hU : Ext (UI b4 b5 b6 w1.heap.size W) W ((w2.setCell ⟨b5, 0, none⟩ (.slice a6 (k + 1) c6)).setCell ⟨b4, 0, none⟩ (.slice a6 (k + 1) c6)) := (hU0.setCell _ _ (fun _ => .inr (.inl rfl))).setCell _ _ (fun _ => .inl rfl)
        have hS : Ext (fun j => j = b5 ∨ j = b4) w2 ((w2.setCell ⟨b5, 0, none⟩ (.slice a6 (k + 1) c6)).setCell ⟨b4, 0, none⟩ (.slice a6 (k + 1) c6)) := ((Ext.refl _ w2).setCell _ _ (fun _ => .inl rfl)).setCell _ _ (fun _ => .inr rfl)
        refine ⟨hU, rfl, ⟨_, (hb4.set_other ⟨b5, 0, none⟩ (.slice a6 (k + 1) c6) hn45).set 0 (.slice a6 (k + 1) c6), ?_, hj6⟩, ?_, HE.out.trans hU (fun _ _ s => s) (fun j hj s => ?_)⟩
        · rw [HSTP.out]; exact own_ext hown hS (fun j hj s => s.elim (fun s => hne5 (by rw [hj, s])) (fun s => hne4 (by rw [hj, s])))
        · have := HME.out; omega
        · rcases s with s | s | s | ⟨s, -⟩ <;> omega
      · have hd2 : ((k : Int) + 1 == most) = false := by simpa using hme
        have HME := Lib.hid hme; clear hme
        gi_wp2_with (first | ((with_reducible refine wpListIn_load_at ?_ 40 _ rfl ?_ HLY.out ?_); rfl; rfl) | ((with_reducible refine wpListIn_build_at ?_ 38 1 _ rfl ?_ HBI.out ?_); rfl; rfl) | (gi_at_builtin; refine wpListIn_appS _ _ 32 (by decide) rfl _ _ 38 rfl w.heap.size 40 _ _ id_info Tryd.underlying38 rfl _ _ _ rfl HO.out _ 40 rfl HBB.out HXL.out HON.out HNM.out.1 HNM.out.2 HZ.out ?_; intro v' w2 hown hgrow hat; obtain ⟨a6, c6, rfl⟩ := own_form hown; have hd5 := (HB5.out.grown hgrow HN5.out).cell 0; have hg5 := (HB5.out.grown hgrow HN5.out).free 0; have hd3 := (HB3.out.grown hgrow HN3.out).cell 0; have hd4 := (HB4.out.grown hgrow HN4.out).cell 0; have hg4 := (HB4.out.grown hgrow HN4.out).free 0; simp only [List.getElem?_toArray, List.getElem?_cons_zero] at hd5 hd3 hd4))
        obtain ⟨h0, h1, h2⟩ := HLT.out
        obtain ⟨g0, g1, g2⟩ := HBS.out
        have hsz := HSZ.out; have hsz2 := HSZ2.out
        have hb5 := HB5.out.grown hgrow HN5.out; have hb4 := HB4.out.grown hgrow HN4.out; have hb3 := HB3.out.grown hgrow HN3.out
        have hne5 := own_ne_type hown hb5 (by decide); have hne4 := own_ne_type hown hb4 (by decide)
        have hU0 : Ext (UI b4 b5 b6 w1.heap.size W) W w2 := (HX2.out.mono (fun _ _ s => s.elim)).grown hgrow (fun j hj _ => by
          rcases HJ.out j hj with h | h
          · exact .inr (.inr (.inl h))
          · exact .inr (.inr (.inr ⟨h, own_blkN HOW.out hj⟩)))
        have hj6 : ∀ j, (Value.slice a6 (k + 1) c6).ownBlock = some j → j = b6 ∨ w1.heap.size + 2 ≤ j := fun j hj => by
          rcases hat with h | h
          · exact HJ.out j (h ▸ hj)
          · rw [h] at hj
            have := Option.some.inj hj
            omega
        have hU : Ext (UI b4 b5 b6 w1.heap.size W) W (w2.setCell ⟨b5, 0, none⟩ (.slice a6 (k + 1) c6)) := hU0.setCell _ _ (fun _ => .inr (.inl rfl))
        have hS : Ext (fun j => j = b5) w2 (w2.setCell ⟨b5, 0, none⟩ (.slice a6 (k + 1) c6)) := (Ext.refl _ w2).setCell _ _ (fun _ => rfl)
        refine ⟨hU, ⟨a6, c6, hb5.set 0 (.slice a6 (k + 1) c6), ?_, hj6⟩, hb3.set_other _ _ hn35, ⟨_, hb4.set_other _ _ hn45⟩, ?_, HE.out.trans hU (fun _ _ s => s) (fun j hj s => ?_)⟩
        · rw [HSTP.out]; exact own_ext hown hS (fun j hj s => hne5 (by rw [hj, s]))
        · have := HME.out; omega
        · rcases s with s | s | s | ⟨s, -⟩ <;> omega
    case done =>
      rintro W ⟨⟨a, c, hb, ho, hj⟩, h3, ⟨v4, h4⟩, hlt, he⟩ _ hK
      rw [List.take_length] at ho
      have hcb := hb.cell 0; have hcb4 := h4.cell 0; have hfb4 := h4.free 0
      simp only [List.getElem?_toArray, List.getElem?_cons_zero] at hcb hcb4
      have HO := Lib.hid ho; have HB4 := Lib.hid h4; have HB5 := Lib.hid hb; have HE := Lib.hid he; have HK := Lib.hid hK; have HT := Lib.hid hlt
      clear hb ho hj h3 h4 he hK hlt
      gi_wp2_with fail
      obtain ⟨h0, h1, h2⟩ := HLT.out
      obtain ⟨g0, g1, g2⟩ := HBS.out
      have hs : Ext (fun j => j = b4) W (W.setCell ⟨b4, 0, none⟩ (.slice a (blobsL ns).length c)) := (Ext.refl _ W).setCell _ _ (fun _ => rfl)
      have hE : Ext No w (W.setCell ⟨b4, 0, none⟩ (.slice a (blobsL ns).length c)) := HE.out.trans hs (fun _ _ s => s) (fun j hj s => by omega)
      have hb4 := HB4.out.set 0 (.slice a (blobsL ns).length c)
      have hne4 := own_ne_type HO.out HB4.out (by decide)
      have ho4 := own_ext HO.out hs (fun j hj s => hne4 (by rw [hj, s]))
      have hK1 := (hs.block w1.heap.size (Array.getElem?_eq_some_iff.1 HK.out).1 (by omega)).trans HK.out
      generalize W.setCell ⟨b4, 0, none⟩ (.slice a (blobsL ns).length c) = W4 at *
      refine ⟨by simp, .inl ⟨_, _, rfl, run_takeDeferred hK1, ?_⟩⟩
      have hxp : Ext (fun j => No j ∨ (j = w1.heap.size ∧ NC W4 j)) W4 (W4.putObj w1.heap.size (.deferred none)) := Ext.putObjN _ _ _ (NC.defs hK1)
      have hr := (hb4.extN hxp (fun h => h)).cell 0
      simp at hr
      have hE2 : Ext No w (W4.putObj w1.heap.size (.deferred none)) := hE.trans hxp (fun _ _ s => s) (fun j hj s => s.elim id (fun s => by omega))
      have e : (blobsL ns).take most.toNat = blobsL ns := List.take_of_length_le (by have := HT.out; omega)
      have h32 := HTK.out
      rw [e] at h32 ⊢
      exact ⟨.slice a (blobsL ns).length c, by simp [results, Tryd.func17, Tryd.f17, go_sem, hr], _, rfl, own_ids (own_extN (S := No) ho4 hxp (fun _ _ s => s)) h32, hE2⟩
    case stop =>
      rintro c k W4 hk ⟨rfl, ⟨v, hb4, ho, hj⟩, heq, hE⟩ _ hK1
      have HB4 := Lib.hid hb4; have HE := Lib.hid hE; have HK := Lib.hid hK1; have HO := Lib.hid ho; have HEQ := Lib.hid heq
      clear hb4 hE hK1 ho hj heq
      gi_wp2_with fail
      refine ⟨by simp, .inl ⟨_, _, rfl, run_takeDeferred HK.out, ?_⟩⟩
      obtain ⟨h0, h1, h2⟩ := HLT.out
      have hE := HE.out; have hb4 := HB4.out; have hK1 := HK.out
      have hxp : Ext (fun j => No j ∨ (j = w1.heap.size ∧ NC W4 j)) W4 (W4.putObj w1.heap.size (.deferred none)) := Ext.putObjN _ _ _ (NC.defs hK1)
      have hr := (hb4.extN hxp (fun h => h)).cell 0
      simp at hr
      have hE2 : Ext No w (W4.putObj w1.heap.size (.deferred none)) := hE.trans hxp (fun _ _ s => s) (fun j hj s => s.elim id (fun s => by omega))
      have hkl : ((blobsL ns).take k).length = k := by rw [List.length_take]; omega
      have e : most.toNat = k := by have := HEQ.out; omega
      have h32 := HTK.out
      rw [e] at h32 ⊢
      exact ⟨v, by simp [results, Tryd.func17, Tryd.f17, go_sem, hr], _, rfl, own_ids (by rw [hkl]; exact own_extN (S := No) HO.out hxp (fun _ _ s => s)) h32, hE2⟩

end Go.Proofs.YtefabpgfhghpgaaDoor
end
