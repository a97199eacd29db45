/-
  PROVED HERE: 'Rows.TreeErrorsCardSaid' (the tied card): of every input the law 'coldstorelaw10.TreeErrors' answers true, and each argument reads behind the call as it read before. No condition but the form's own; the listed tables of the library are tied to the program's text.
-/
import Derived.Test.YtefabpgfhghpgaaDoorTZF
import Derived.ArgAppend
import Derived.Test.YtefabpgfhghpgaaDoorRows
import Derived.Test.YtefabpgfhghpgaaDoorCards
import Derived.Test.YtefabpgfhghpgaaDoorTie
import Derived.Lay
import Derived.LaidOnce
import Derived.SevenTiedAt
import Derived.SizedLaws
set_option linter.unusedVariables false
set_option linter.unusedSimpArgs false

section
/- The walk of TreeBlobs. -/
namespace Go.Proofs.YtefabpgfhghpgaaDoor
open Go.RowKit Go.My

theorem Src.ext0 {α : Type} {w w' : World} {size : Nat} {E : α → List Value → Prop} {ys : List α} {v : Value} {css : List (List Value)} (h : Src w size E ys v css) (x : Ext No w w') : Src w' size E ys v css := by
  obtain ⟨⟨ad, c, h1, h2⟩, h3, h4⟩ := h
  exact ⟨⟨ad, c, h1, fun hp => by obtain ⟨b, o, h5, h6⟩ := h2 hp; exact ⟨b, o, h5, rangeAt.ext0 h6 x⟩⟩, h3, h4⟩
theorem ownseq_form {α : Type} {w : World} {base size : Nat} {T : TypeId} {E : World → α → List Value → Prop} {xs : List α} {v : Value} (h : OwnSeq w base T size E xs v) : ∃ a n c, v = .slice a n c ∧ n = xs.length := by
  obtain ⟨a, c, rfl⟩ := OwnSeq.len h
  exact ⟨a, _, c, rfl, rfl⟩
theorem ids_form {w : World} {ids : List (List UInt8)} {v : Value} (h : IsIDs w ids v) : ∃ a n c, v = .slice a n c ∧ n = ids.length := by
  obtain ⟨a, c, rfl, -⟩ := h
  exact ⟨a, _, c, rfl, rfl⟩
theorem nodes_form {w : World} {ns : List NodeL} {v : Value} (h : IsNodes w ns v) : ∃ a n c, v = .slice a n c ∧ n = ns.length := by
  obtain ⟨a, c, rfl, -⟩ := h
  exact ⟨a, _, c, rfl, rfl⟩
theorem seq_made (w : World) {α : Type} (T : TypeId) (size : Nat) (E : World → α → List Value → Prop) : OwnSeq (w.alloc (.cells #[] T)) w.heap.size T size E [] (.slice (some ⟨w.heap.size, 0, none⟩) 0 0) :=
  ⟨[], ⟨by simp, .inr ⟨_, 0, #[], rfl, Nat.le_refl _, Blk.new w #[] T, Nat.le_refl _, by decide, by simp, by simp⟩⟩, fun i x hx => by simp at hx⟩
theorem few_ok {ns : List NodeL} (h : fewB ns = true) : ns.length < 600 ∧ ∀ n ∈ ns, n.parts.length ≤ 4200 ∧ n.name.length ≤ 200 := by
  unfold fewB at h
  rw [Bool.and_eq_true] at h
  obtain ⟨h1, h2⟩ := h
  refine ⟨?_, fun n hn => ?_⟩
  · rw [Bool.or_eq_true] at h2
    rcases h2 with h2 | h2
    · have := of_decide_eq_true h2; omega
    · rw [Bool.and_eq_true] at h2; exact of_decide_eq_true h2.2
  · have := List.all_eq_true.1 h1 n hn
    unfold okN at this
    simp only [Bool.and_eq_true, Bool.or_eq_true, decide_eq_true_eq] at this
    omega
theorem blobs_len : ∀ ns : List NodeL, (∀ n ∈ ns, n.parts.length ≤ 4200) → (blobsL ns).length ≤ 4200 * ns.length
  | [], _ => by simp [blobsL]
  | n :: ns, h => by
    have h1 := h n (List.mem_cons_self ..)
    have h2 := blobs_len ns (fun m hm => h m (List.mem_cons_of_mem _ hm))
    have h3 : (blobsN n).length ≤ 4200 := by
      unfold blobsN; split
      · exact (by decide : 1 ≤ 4200)
      · exact h1
    have e : blobsL (n :: ns) = blobsN n ++ blobsL ns := by simp [blobsL]
    rw [e, List.length_append, List.length_cons]; omega
theorem few_blobs {ns : List NodeL} (h : fewB ns = true) : (blobsL ns).length ≤ 2520000 := by
  obtain ⟨h1, h2⟩ := few_ok h
  have := blobs_len ns (fun n hn => (h2 n hn).1)
  omega
theorem blobs_append (xs ys : List NodeL) : blobsL (xs ++ ys) = blobsL xs ++ blobsL ys := by simp [blobsL]
theorem take_all {α : Type} (l : List α) (h : l.length ≤ 5040000) : l.take (1073741824 : Int).toNat = l := List.take_of_length_le (by show l.length ≤ 1073741824; omega)
theorem OwnIDs.ext0 {w w' : World} {B : Nat} {ids : List (List UInt8)} {v : Value} (h : OwnIDs w B ids v) (x : Ext No w w') : OwnIDs w' B ids v := h.ext x (fun _ _ s => s)

set_option maxRecDepth 100000 in
set_option maxHeartbeats 8000000 in
theorem treeBlobs_fr (xs : List NodeL) (v0 : Value) (ys : List NodeL) (v1 : Value) (w : World) (hx : IsNodes w xs v0 ∧ ∀ n ∈ xs, n.name.length ≤ 9223372036854775807) (hy : IsNodes w ys v1 ∧ ∀ n ∈ ys, n.name.length ≤ 9223372036854775807) :
    Calls Tryd.prog 5 #[v0, v1] w fun e w' => e = .returned (.bool true) ∧ Ext No w w' := by
  obtain ⟨a, n, c, rfl, hn⟩ := nodes_form hx.1
  obtain ⟨b, m, d, rfl, hm⟩ := nodes_form hy.1
  have HX := Lib.hid hx; have HY := Lib.hid hy; have HN := Lib.hid hn; have HM := Lib.hid hm
  clear hx hy hn hm
  go_enter Tryd.func5, Tryd.ntmps5
  go_wp2_with fail
  refine (alive_any w).mono ?_
  rintro e w1 ⟨rfl, hE1⟩
  have HE1 := Lib.hid hE1
  clear hE1
  dsimp only
  go_wp2_with fail
  refine (few_any xs _ w1 (HX.out.1.ext0 HE1.out) HX.out.2).mono ?_
  rintro e w2 ⟨rfl, hE2⟩
  have HE2 := Lib.hid (HE1.out.trans' hE2)
  clear hE2 HE1
  dsimp only
  cases hfx : fewB xs
  · go_wp2_with fail
    go_ret
    exact ⟨rfl, HE2.out⟩
  have HFX := Lib.hid hfx
  have hn6 : n < 600 := by rw [HN.out]; exact (few_ok hfx).1
  clear hfx
  go_wp2_with fail
  refine (few_any ys _ w2 (HY.out.1.ext0 HE2.out) HY.out.2).mono ?_
  rintro e w3 ⟨rfl, hE3⟩
  have HE3 := Lib.hid (HE2.out.trans' hE3)
  clear hE3 HE2
  dsimp only
  cases hfy : fewB ys
  · go_wp2_with fail
    go_ret
    exact ⟨rfl, HE3.out⟩
  have HFY := Lib.hid hfy
  clear hfy
  have HO0 := Lib.hid (show OwnIDs (w3.alloc (.cells #[] 40)) w.heap.size [] (.slice (some ⟨w3.heap.size, 0, none⟩) 0 0) from OwnIDs.le (B := w3.heap.size) (seq_made w3 40 32 IdE) HE3.out.size)
  have HEA := Lib.hid (HE3.out.alloc (.cells #[] 40))
  go_wp2_with fail
  go_loopw [5, 24] (fun each i wr => ∃ k : Nat, i = .int .i64 k ∧ k ≤ n ∧ Ext No w wr ∧ OwnIDs wr w.heap.size (blobsL (xs.take k)) each) (fun _ i _ => n - (intOf i).toNat)
  case atStart => exact ⟨0, rfl, Nat.zero_le _, HEA.out, HO0.out⟩
  case round =>
    obtain ⟨k, rfl, hk, hx, hown⟩ := hrel
    obtain ⟨oa, om, oc, rfl, hom⟩ := ownseq_form hown
    have HXR := Lib.hid hx; have HOW := Lib.hid hown; have HOM := Lib.hid hom
    clear hx hown hom HO0 HEA HE3
    by_cases hlt : k < n
    · have hltI : (k : Int) < n := by omega
      have hlt' : k < xs.length := by rw [← HN.out]; exact hlt
      obtain ⟨a0, c0, ha0, -, -, hat⟩ := id HX.out.1
      obtain ⟨b, off, cs, ha1, hra, hnd⟩ := hat.at_ k hlt'
      have hcount := blobs_count xs k hlt'
      have hstep := blobs_step xs k hlt'
      have hpre := blobs_pre xs (k + 1)
      have htot := few_blobs HFX.out
      have hle : (blobsL (xs.take (k + 1))).length ≤ 2520000 := by
        obtain ⟨r, hr⟩ := hpre
        rw [hr, List.length_append] at htot; omega
      generalize xs.getD k node0 = nd at *
      have haa : a = some ⟨b, off, none⟩ := by cases ha0; exact ha1
      subst haa
      clear ha0 ha1 hat hpre htot
      have hl36 := hnd.length
      have h1 := hnd.one
      have hr := rangeAt.ext0 hra HXR.out
      obtain ⟨⟨pv, hcs, ⟨pa, pc, rfl, hp1, hp2, hids⟩⟩, hs32, -, -⟩ := hnd
      have hidv : IsIDs w nd.parts (.slice pa nd.parts.length pc) := ⟨pa, pc, rfl, hp1, hp2, hids⟩
      obtain ⟨np, hnp⟩ : ∃ m, m = nd.parts.length := ⟨_, rfl⟩
      rw [← hnp] at hidv hcs hp1
      have c1 : cs[1]? = some (.bool nd.dir) := by rw [hcs]; rfl
      have c3 : cs[3]? = some (.slice pa np pc) := by rw [hcs]; rfl
      have HL42 := Lib.hid (run_loadAt_mid (P := Tryd.prog) wr b (off + k * 36) 42 cs _ hr Tryd.underlying42 rfl (by rw [hl36]; exact info42))
      have HS42 := Lib.hid (store_node wr cs hl36 h1)
      have hbk := Blk.new wr cs.toArray 42
      have d1 : (wr.alloc (.cells cs.toArray 42)).cell? ⟨wr.heap.size, 1, none⟩ = some (.bool nd.dir) := by rw [hbk.cell]; simpa using c1
      have d3 : (wr.alloc (.cells cs.toArray 42)).cell? ⟨wr.heap.size, 3, none⟩ = some (.slice pa np pc) := by rw [hbk.cell]; simpa using c3
      have hra4 : (wr.alloc (.cells cs.toArray 42)).rangeAt wr.heap.size 4 (byts nd.sub) := by
        have h := rangeAt.blk hbk 4
        rw [hcs] at h ⊢
        exact h
      have HL40 := Lib.hid (ids_load hra4 hs32 _ (Ext.refl _ _))
      have HB40 := Lib.hid (build_id nd.sub hs32)
      have hXA : Ext No w (wr.alloc (.cells cs.toArray 42)) := HXR.out.alloc (.cells cs.toArray 42)
      have HXA := Lib.hid hXA
      have hbn : (nd.dir = true ∧ blobsN nd = [nd.sub]) ∨ (nd.dir = false ∧ blobsN nd = nd.parts) := by
        unfold blobsN
        cases nd.dir
        · exact .inr ⟨rfl, rfl⟩
        · exact .inl ⟨rfl, rfl⟩
      have HST := Lib.hid hstep; have HIV := Lib.hid (And.intro hidv hs32)
      have HCNT := Lib.hid (And.intro hcount hle)
      clear hra hcs c1 c3 hbk hlt' h1 hl36 hr hra4 hids hXA hstep hidv hs32 hnp hcount hle
      rcases hbn with ⟨hdir, hbn⟩ | ⟨hdir, hbn⟩
      · rw [hdir] at d1
        obtain ⟨w4, hw4⟩ : ∃ w4, (wr.alloc (.cells cs.toArray 42)).alloc (.cells (byts nd.sub).toArray 40) = w4 := ⟨_, rfl⟩
        have hx4 : Ext No wr w4 := by rw [← hw4]; exact ((Ext.refl No wr).alloc _).alloc _
        have hsrc : Src w4 32 IdC [nd.sub] (.slice (some ⟨wr.heap.size + 1, 0, none⟩) 1 1) ([nd.sub].map byts) := by
          have h := Blk.new (wr.alloc (.cells cs.toArray 42)) (byts nd.sub).toArray 40
          rw [World.size_alloc, hw4] at h
          exact src_ids (isIDs_one HIV.out.2 h)
        have hbi := HB40.out (wr.alloc (.cells cs.toArray 42))
        rw [World.size_alloc, hw4] at hbi
        have HSRC := Lib.hid hsrc; have HBI := Lib.hid hbi
        have HO4 := Lib.hid (show OwnSeq w4 w.heap.size 40 32 (fun _ => IdC) (blobsL (xs.take k)) (.slice oa om oc) from HOW.out.ext0 hx4)
        have HX4 := Lib.hid (HXR.out.trans' hx4)
        have HNM := Lib.hid (show (blobsL (xs.take k)).length + [nd.sub].length ≤ 9223372036854775807 ∧ ((blobsL (xs.take k)).length + [nd.sub].length) * 32 ≤ 140737488355328 by
          obtain ⟨h1, h2⟩ := HCNT.out
          rw [hbn] at h1; rw [← h1]; omega)
        have HS1 := Lib.hid (show blobsL (xs.take (k + 1)) = blobsL (xs.take k) ++ [nd.sub] by rw [HST.out, hbn])
        clear hw4 hx4 hsrc hbi hbn HST HB40 HCNT HOW
        go_wp2_with (first
          | ((with_reducible refine wpList_load_at ?_ 42 _ rfl ?_ HL42.out ?_); rfl; rfl)
          | ((with_reducible refine wpList_store_at ?_ 42 _ _ rfl ?_ ?_ (HS42.out _ ?_) ?_); rfl; rfl; rfl; rfl)
          | ((with_reducible refine wpList_load_at ?_ 40 _ rfl ?_ HL40.out ?_); rfl; rfl)
          | ((with_reducible refine wpList_buildS1 ?_ 38 1 0 _ rfl ?_ HBI.out ?_); rfl; rfl)
          | ((with_reducible refine wpList_appG _ ?_ _ _ 38 rfl w.heap.size 40 _ _ id_info Tryd.underlying38 rfl (by decide) _ _ ?_ ?_ HO4.out HSRC.out HNM.out.1 HNM.out.2 HX4.out.size ?_); rfl; rfl; rfl; intro v7 w7 hown7 hg7 hat7; obtain ⟨a7, m7, c7, rfl, -⟩ := ownseq_form hown7))
        go_roundw
        case rel =>
          refine ⟨k + 1, by go_num, by omega, HX4.out.grown hg7 (fun j hj h => absurd h (by have := (OwnSeq.lt HO4.out j hj).1; omega)), ?_⟩
          rw [HS1.out]
          exact hown7
        case measure => simp [intOf]; omega
      · rw [hdir] at d1
        have HSRC := Lib.hid (src_ids (HIV.out.1.ext0 HXA.out))
        have HO4 := Lib.hid (show OwnSeq (wr.alloc (.cells cs.toArray 42)) w.heap.size 40 32 (fun _ => IdC) (blobsL (xs.take k)) (.slice oa om oc) from HOW.out.ext0 ((Ext.refl No wr).alloc _))
        have HNM := Lib.hid (show (blobsL (xs.take k)).length + nd.parts.length ≤ 9223372036854775807 ∧ ((blobsL (xs.take k)).length + nd.parts.length) * 32 ≤ 140737488355328 by
          obtain ⟨h1, h2⟩ := HCNT.out
          rw [hbn] at h1; rw [← h1]; omega)
        have HS1 := Lib.hid (show blobsL (xs.take (k + 1)) = blobsL (xs.take k) ++ nd.parts by rw [HST.out, hbn])
        clear hbn HST HB40 HCNT HOW
        go_wp2_with (first
          | ((with_reducible refine wpList_load_at ?_ 42 _ rfl ?_ HL42.out ?_); rfl; rfl)
          | ((with_reducible refine wpList_store_at ?_ 42 _ _ rfl ?_ ?_ (HS42.out _ ?_) ?_); rfl; rfl; rfl; rfl)
          | ((with_reducible refine wpList_appG _ ?_ _ _ 38 rfl w.heap.size 40 _ _ id_info Tryd.underlying38 rfl (by decide) _ _ ?_ ?_ HO4.out HSRC.out HNM.out.1 HNM.out.2 HXA.out.size ?_); rfl; rfl; rfl; intro v7 w7 hown7 hg7 hat7; obtain ⟨a7, m7, c7, rfl, -⟩ := ownseq_form hown7))
        go_roundw
        case rel =>
          refine ⟨k + 1, by go_num, by omega, HXA.out.grown hg7 (fun j hj h => absurd h (by have := (OwnSeq.lt HO4.out j hj).1; omega)), ?_⟩
          rw [HS1.out]
          exact hown7
        case measure => simp [intOf]; omega
    · have hkn : n = k := by omega
      subst hkn
      have ho := HOW.out
      rw [show xs.take n = xs by rw [HN.out]; exact List.take_length] at ho
      have HOF := Lib.hid ho
      clear ho HOW hlt
      go_wp2_with fail
      refine (blobs_any xs _ 1073741824 wr (HX.out.1.ext0 HXR.out) (by have := few_blobs HFX.out; omega)).mono ?_
      rintro e w8 ⟨v8, rfl, hv8, hE8⟩
      rw [take_all _ (by have := few_blobs HFX.out; omega)] at hv8
      obtain ⟨a8, m8, c8, rfl, -⟩ := ownseq_form hv8
      have HE8 := Lib.hid (HXR.out.trans' hE8); have HEACH := Lib.hid ((OwnIDs.ids HOF.out).ext0 hE8); have HV8 := Lib.hid hv8.ids
      clear hv8 hE8 HOF HXR
      dsimp only
      go_wp2_with fail
      refine (blobs_any ys _ 1073741824 w8 (HY.out.1.ext0 HE8.out) (by have := few_blobs HFY.out; omega)).mono ?_
      rintro e w9 ⟨v9, rfl, hv9, hE9⟩
      rw [take_all _ (by have := few_blobs HFY.out; omega)] at hv9
      obtain ⟨a9, m9, c9, rfl, -⟩ := ownseq_form hv9
      have HE9 := Lib.hid (HE8.out.trans' hE9); have HEACH9 := Lib.hid (HEACH.out.ext0 hE9); have HV89 := Lib.hid (HV8.out.ext0 hE9); have HV9 := Lib.hid hv9.ids
      clear hv9 hE9 HE8 HEACH HV8
      obtain ⟨css1, hc1⟩ := src_nodes HX.out.1
      obtain ⟨css2, hc2⟩ := src_nodes HY.out.1
      have hEB : Ext No w (w9.alloc (.cells #[] 42)) := HE9.out.alloc _
      have HOB := Lib.hid (show OwnSeq (w9.alloc (.cells #[] 42)) w9.heap.size 42 36 (fun _ => IsNode w) [] (.slice (some ⟨w9.heap.size, 0, none⟩) 0 0) from seq_made w9 42 36 (fun _ => IsNode w))
      have HSB := Lib.hid (hc1.ext0 hEB); have HC2 := Lib.hid hc2
      have HXB := Lib.hid ((Ext.refl No w9).alloc (.cells #[] 42))
      have HNL := Lib.hid (show xs.length < 600 ∧ ys.length < 600 from ⟨(few_ok HFX.out).1, (few_ok HFY.out).1⟩)
      have HN1 := Lib.hid (show ([] : List NodeL).length + xs.length ≤ 9223372036854775807 ∧ (([] : List NodeL).length + xs.length) * 88 ≤ 140737488355328 by have := HNL.out.1; rw [List.length_nil]; omega)
      have HN2 := Lib.hid (show ([] ++ xs).length + ys.length ≤ 9223372036854775807 ∧ (([] ++ xs).length + ys.length) * 88 ≤ 140737488355328 by have := HNL.out; rw [List.nil_append]; omega)
      clear hc1 hc2 hEB
      dsimp only
      go_wp2_with (first
          | ((with_reducible refine wpList_appG _ ?_ _ _ 22 rfl w9.heap.size 42 _ _ node_info Tryd.underlying22 rfl (by decide) _ _ ?_ ?_ HOB.out HSB.out HN1.out.1 HN1.out.2 HXB.out.size ?_); rfl; rfl; rfl; intro v10 w10 hown10 hg10 hat10; obtain ⟨a10, m10, c10, rfl, -⟩ := ownseq_form hown10; have HE10 := Lib.hid (HXB.out.grown hg10 (fun j hj h => absurd h (by have := (OwnSeq.lt HOB.out j hj).1; omega))); have HS10 := Lib.hid (HC2.out.ext0 (HE9.out.trans' HE10.out)); have HO10 := Lib.hid hown10; clear hown10 hg10 hat10)
          | ((with_reducible refine wpList_appG _ ?_ _ _ 22 rfl w9.heap.size 42 _ _ node_info Tryd.underlying22 rfl (by decide) _ _ ?_ ?_ HO10.out HS10.out HN2.out.1 HN2.out.2 HE10.out.size ?_); rfl; rfl; rfl; intro v11 w11 hown11 hg11 hat11; obtain ⟨a11, m11, c11, rfl, -⟩ := ownseq_form hown11))
      have hE11 : Ext No w9 w11 := HE10.out.grown hg11 (fun j hj h => absurd h (by have := (OwnSeq.lt HO10.out j hj).1; omega))
      have hn11 := ownseq_nodes hown11 (HE9.out.trans' hE11)
      rw [List.nil_append] at hn11
      have HN11 := Lib.hid hn11
      have HE11 := Lib.hid (HE9.out.trans' hE11); have HEACH11 := Lib.hid (HEACH9.out.ext0 hE11); have HV811 := Lib.hid (HV89.out.ext0 hE11); have HV911 := Lib.hid (HV9.out.ext0 hE11)
      clear hown11 hg11 hat11 hE11 hn11 HE10 HS10 HO10 HOB HSB HC2 HXB HNL HN1 HN2 HE9 HEACH9 HV89 HV9
      have hbl : (blobsL (xs ++ ys)).length ≤ 5040000 := by
        have h1 := few_blobs HFX.out; have h2 := few_blobs HFY.out
        rw [blobs_append, List.length_append]; omega
      refine (blobs_any (xs ++ ys) _ 1073741824 w11 HN11.out (by omega)).mono ?_
      rintro e w12 ⟨v12, rfl, hv12, hE12⟩
      rw [take_all _ hbl, blobs_append] at hv12
      obtain ⟨a12, m12, c12, rfl, -⟩ := ownseq_form hv12
      have HE12 := Lib.hid (HE11.out.trans' hE12); have HEACH12 := Lib.hid (HEACH11.out.ext0 hE12); have HV812 := Lib.hid (HV811.out.ext0 hE12); have HV912 := Lib.hid (HV911.out.ext0 hE12); have HV12 := Lib.hid hv12.ids
      clear hv12 hE12 HE11 HEACH11 HV811 HV911 HN11 hbl
      dsimp only
      go_wp2_with fail
      refine (sameIDs_any _ _ _ _ w12 HV812.out HEACH12.out).mono ?_
      rintro e w13 ⟨rfl, hE13⟩
      rw [decide_eq_true rfl]
      have HE13 := Lib.hid (HE12.out.trans' hE13); have HV13 := Lib.hid (HV12.out.ext0 hE13)
      have hEB : Ext No w12 (w13.alloc (.cells #[] 40)) := hE13.alloc _
      have HOB := Lib.hid (show OwnSeq (w13.alloc (.cells #[] 40)) w13.heap.size 40 32 (fun _ => IdC) [] (.slice (some ⟨w13.heap.size, 0, none⟩) 0 0) from seq_made w13 40 32 (fun _ => IdC))
      have HSB := Lib.hid (src_ids (HV812.out.ext0 hEB)); have HC2 := Lib.hid (src_ids (HV912.out.ext0 hE13))
      have HXB := Lib.hid ((Ext.refl No w13).alloc (.cells #[] 40))
      have HNL := Lib.hid (show (blobsL xs).length ≤ 2520000 ∧ (blobsL ys).length ≤ 2520000 from ⟨few_blobs HFX.out, few_blobs HFY.out⟩)
      have HN1 := Lib.hid (show ([] : List (List UInt8)).length + (blobsL xs).length ≤ 9223372036854775807 ∧ (([] : List (List UInt8)).length + (blobsL xs).length) * 32 ≤ 140737488355328 by have := HNL.out.1; rw [List.length_nil]; omega)
      have HN2 := Lib.hid (show ([] ++ blobsL xs).length + (blobsL ys).length ≤ 9223372036854775807 ∧ (([] ++ blobsL xs).length + (blobsL ys).length) * 32 ≤ 140737488355328 by have := HNL.out; rw [List.nil_append]; omega)
      clear hE13 hEB HE12 HV12 HEACH12 HV812 HV912
      dsimp only
      go_wp2_with (first
          | ((with_reducible refine wpList_appG _ ?_ _ _ 38 rfl w13.heap.size 40 _ _ id_info Tryd.underlying38 rfl (by decide) _ _ ?_ ?_ HOB.out HSB.out HN1.out.1 HN1.out.2 HXB.out.size ?_); rfl; rfl; rfl; intro v14 w14 hown14 hg14 hat14; obtain ⟨a14, m14, c14, rfl, -⟩ := ownseq_form hown14; have HE14 := Lib.hid (HXB.out.grown hg14 (fun j hj h => absurd h (by have := (OwnSeq.lt HOB.out j hj).1; omega))); have HS14 := Lib.hid (HC2.out.ext0 HE14.out); have HO14 := Lib.hid hown14; clear hown14 hg14 hat14)
          | ((with_reducible refine wpList_appG _ ?_ _ _ 38 rfl w13.heap.size 40 _ _ id_info Tryd.underlying38 rfl (by decide) _ _ ?_ ?_ HO14.out HS14.out HN2.out.1 HN2.out.2 HE14.out.size ?_); rfl; rfl; rfl; intro v15 w15 hown15 hg15 hat15; obtain ⟨a15, m15, c15, rfl, -⟩ := ownseq_form hown15))
      have hE15 : Ext No w13 w15 := HE14.out.grown hg15 (fun j hj h => absurd h (by have := (OwnSeq.lt HO14.out j hj).1; omega))
      rw [List.nil_append] at hown15
      have hi15 : IsIDs w15 (blobsL xs ++ blobsL ys) (.slice a15 m15 c15) := OwnIDs.ids (show OwnIDs w15 w13.heap.size _ _ from hown15)
      refine (sameIDs_any _ _ _ _ w15 (HV13.out.ext0 hE15) hi15).mono ?_
      rintro e w16 ⟨rfl, hE16⟩
      rw [decide_eq_true rfl]
      have HE16 := Lib.hid ((HE13.out.trans' hE15).trans' hE16)
      clear hE15 hE16 hi15 hown15 hg15 hat15
      dsimp only
      go_wp2_with fail
      go_ret
      exact ⟨rfl, HE16.out⟩
end Go.Proofs.YtefabpgfhghpgaaDoor
end

section
/- A region that draws its order and whose operations read what was there, lay new blocks, and write whole values into them: each operation told once. No program in sight. -/
namespace Go.My
open Go.RowKit

section
variable {P : Program}
/-- the region's form: unguarded; an operation waits for earlier ones alone; stores fill no temporary, the others one of their own; a store waits for its block; no block has two stores -/
def copyForm (ops : Array Oper) (n : Nat) (al : List (Nat × TypeId × Array Value)) (st : List (Nat × Nat × (Array Value → Prop))) : Bool :=
  ((List.range ops.size).all fun i => match ops[i]? with
    | none => false
    | some o => o.guard.isNone && o.after.all (fun e => !Region.binds .any e || decide (e.on < i)) &&
        (match st.lookup i with
          | some (k, _) => o.dst.isNone && (al.lookup k).isSome && decide (k < ops.size) && o.after.any (fun e => Region.binds .any e && e.on == k)
          | none => (match o.dst with | none => false | some d => decide (d < n)) &&
              (List.range ops.size).all (fun j => j == i || (st.lookup j).isSome || slotOf ops j != slotOf ops i))) &&
    ((List.range ops.size).all fun i => (al.lookup i).isNone || (st.lookup i).isNone) && (List.range ops.size).all fun i => (List.range ops.size).all fun j => i == j || (match st.lookup i, st.lookup j with
      | some (k, _), some (l, _) => k != l
      | _, _ => true)

structure CopyForm (ops : Array Oper) (n : Nat) (al : List (Nat × TypeId × Array Value)) (st : List (Nat × Nat × (Array Value → Prop))) : Prop where
  op : ∀ i o, ops[i]? = some o → o.guard = none ∧ (∀ e ∈ o.after, Region.binds .any e = true → e.on < i) ∧
    (∀ k cs, st.lookup i = some (k, cs) → o.dst = none ∧ (al.lookup k).isSome = true ∧ k < ops.size ∧ (o.after.any fun e => Region.binds .any e && e.on == k) = true) ∧
    (st.lookup i = none → (∃ d, o.dst = some d ∧ d < n ∧ d = slotOf ops i) ∧ ∀ j, j < ops.size → j ≠ i → st.lookup j = none → slotOf ops j ≠ slotOf ops i)
  both : ∀ i, i < ops.size → al.lookup i = none ∨ st.lookup i = none
  one : ∀ i j k cs ds, i < ops.size → j < ops.size → st.lookup i = some (k, cs) → st.lookup j = some (k, ds) → i = j
theorem CopyForm.of {ops : Array Oper} {n : Nat} {al : List (Nat × TypeId × Array Value)} {st : List (Nat × Nat × (Array Value → Prop))} (h : copyForm ops n al st = true) : CopyForm ops n al st := by
  unfold copyForm at h
  rw [Bool.and_eq_true, Bool.and_eq_true, List.all_eq_true, List.all_eq_true, List.all_eq_true] at h
  obtain ⟨⟨h, hb⟩, h0⟩ := h
  refine ⟨fun i o ho => ?_, fun i hi => by have := hb i (List.mem_range.2 hi); simpa using this, fun i j k cs ds hi hj h1 h2 => ?_⟩
  · have hi : i < ops.size := (Array.getElem?_eq_some_iff.1 ho).1
    have h1 := h i (List.mem_range.2 hi)
    simp only [ho, Bool.and_eq_true] at h1
    obtain ⟨⟨h2, h3⟩, h4⟩ := h1
    refine ⟨by simpa using h2, ?_, ?_, ?_⟩
    · intro e he hb
      have := Array.all_eq_true_iff_forall_mem.1 h3 e he
      simpa [hb] using this
    · intro k cs hk
      simp only [hk, Bool.and_eq_true] at h4
      obtain ⟨⟨⟨h5, h6⟩, h7⟩, h8⟩ := h4
      exact ⟨by simpa using h5, h6, by simpa using h7, h8⟩
    · intro hn
      simp only [hn, Bool.and_eq_true] at h4
      obtain ⟨h5, h6⟩ := h4
      refine ⟨?_, ?_⟩
      · cases hd : o.dst with
        | none => rw [hd] at h5; cases h5
        | some d => rw [hd] at h5; exact ⟨d, rfl, by simpa using h5, by simp [slotOf, ho, hd]⟩
      · intro j hj hne hl
        rw [List.all_eq_true] at h6
        have := h6 j (List.mem_range.2 hj)
        simp only [Bool.or_eq_true, beq_iff_eq, bne_iff_ne] at this
        rcases this with (h | h) | h
        · exact absurd h hne
        · rw [hl] at h; cases h
        · exact h
  · have h3 := h0 i (List.mem_range.2 hi)
    rw [List.all_eq_true] at h3
    have h4 := h3 j (List.mem_range.2 hj)
    simp only [h1, h2] at h4
    simpa using h4

structure CopySt (ops : Array Oper) (w0 : World) (a0 : Act) (rd : Nat → Value → Prop) (al : List (Nat × TypeId × Array Value)) (st : List (Nat × Nat × (Array Value → Prop))) (listed : Array Bool) (a : Act) (w : World) : Prop where
  ext : Ext No w0 w
  defers : a.defers = a0.defers
  size : a.tmps.size = a0.tmps.size
  same : ∀ t, ((List.range ops.size).all fun j => (st.lookup j).isSome || slotOf ops j != t) = true → a.tmps.getD t undef = a0.tmps.getD t undef
  rds : ∀ i, i < ops.size → listed.getD i false = true → al.lookup i = none → st.lookup i = none → rd i (a.tmps.getD (slotOf ops i) undef)
  als : ∀ i T Z, i < ops.size → listed.getD i false = true → al.lookup i = some (T, Z) → st.lookup i = none → ∃ p X, a.tmps.getD (slotOf ops i) undef = .pointer (some ⟨p, 0, none⟩) ∧ w0.heap.size ≤ p ∧ Blk w p X T ∧ X.size = Z.size ∧
    (∀ j C, j < ops.size → listed.getD j false = true → st.lookup j = some (i, C) → C X) ∧ ((∀ j cs, j < ops.size → st.lookup j ≠ some (i, cs)) → X = Z)
  bef : ∀ j k cs, j < ops.size → listed.getD j false = true → st.lookup j = some (k, cs) → listed.getD k false = true
  sep : ∀ i j T Z T' Z' p, i < ops.size → j < ops.size → i ≠ j → listed.getD i false = true → listed.getD j false = true → al.lookup i = some (T, Z) → al.lookup j = some (T', Z') → st.lookup i = none → st.lookup j = none → a.tmps.getD (slotOf ops i) undef = .pointer (some p) → a.tmps.getD (slotOf ops j) undef ≠ .pointer (some p)

/-- what an operation that reads owes -/
def RdStep (P : Program) (ops : Array Oper) (w0 : World) (a0 : Act) (rd : Nat → Value → Prop) (al : List (Nat × TypeId × Array Value)) (st : List (Nat × Nat × (Array Value → Prop))) (Q : Exit → Act → World → Prop) (i : Nat) (o : Oper) : Prop :=
  ∀ a w, Ext No w0 w → (∀ t, ((List.range ops.size).all fun j => (st.lookup j).isSome || slotOf ops j != t) = true → a.tmps.getD t undef = a0.tmps.getD t undef) →
    (∀ j, ((o.after.any fun e => Region.binds .any e && e.on == j) && (al.lookup j).isNone && (st.lookup j).isNone) = true → rd j (a.tmps.getD (slotOf ops j) undef)) →
    ∀ K : Act → World → Prop, (∀ v w', Ext No w w' → rd i v → K (a.put o.dst v) w') → o.wp P a w K Q
def AlStep (P : Program) (Q : Exit → Act → World → Prop) (T : TypeId) (Z : Array Value) (o : Oper) : Prop :=
  ∀ a w, ∀ K : Act → World → Prop, K (a.put o.dst (.pointer (some ⟨w.heap.size, 0, none⟩))) (w.alloc (.cells Z T)) → o.wp P a w K Q
def StStep (P : Program) (ops : Array Oper) (rd : Nat → Value → Prop) (al : List (Nat × TypeId × Array Value)) (st : List (Nat × Nat × (Array Value → Prop))) (Q : Exit → Act → World → Prop) (T : TypeId) (Z : Array Value) (k : Nat) (C : Array Value → Prop) (o : Oper) : Prop :=
  ∀ a w p X, a.tmps.getD (slotOf ops k) undef = .pointer (some ⟨p, 0, none⟩) → Blk w p X T → X.size = Z.size →
    (∀ j, ((o.after.any fun e => Region.binds .any e && e.on == j) && (al.lookup j).isNone && (st.lookup j).isNone) = true → rd j (a.tmps.getD (slotOf ops j) undef)) →
    ∀ K : Act → World → Prop, (∀ cs, C cs → cs.size = Z.size → K a (w.setRow p cs)) → o.wp P a w K Q
def CopyStep (P : Program) (ops : Array Oper) (w0 : World) (a0 : Act) (rd : Nat → Value → Prop) (al : List (Nat × TypeId × Array Value)) (st : List (Nat × Nat × (Array Value → Prop))) (Q : Exit → Act → World → Prop) (i : Nat) (o : Oper) : Prop :=
  (al.lookup i = none → st.lookup i = none → RdStep P ops w0 a0 rd al st Q i o) ∧ (∀ T Z, al.lookup i = some (T, Z) → AlStep P Q T Z o) ∧
  (∀ k cs, st.lookup i = some (k, cs) → ∀ T Z, al.lookup k = some (T, Z) → StStep P ops rd al st Q T Z k cs o)
def CopySteps (P : Program) (ops : Array Oper) (w0 : World) (a0 : Act) (rd : Nat → Value → Prop) (al : List (Nat × TypeId × Array Value)) (st : List (Nat × Nat × (Array Value → Prop))) (Q : Exit → Act → World → Prop) : Nat → List Oper → Prop
  | _, [] => True
  | i, o :: os => CopyStep P ops w0 a0 rd al st Q i o ∧ CopySteps P ops w0 a0 rd al st Q (i + 1) os
section
variable {ops : Array Oper} {w0 : World} {a0 : Act} {rd : Nat → Value → Prop} {al : List (Nat × TypeId × Array Value)} {st : List (Nat × Nat × (Array Value → Prop))} {Q : Exit → Act → World → Prop} {i : Nat} {o : Oper} {os : List Oper}
theorem CopySteps.get : ∀ (os : List Oper) (i : Nat), CopySteps P ops w0 a0 rd al st Q i os → ∀ j o, os[j]? = some o → CopyStep P ops w0 a0 rd al st Q (i + j) o := by
  intro os
  induction os with
  | nil => intro i _ j o h; simp at h
  | cons x os ih =>
    intro i h j o hj
    cases j with
    | zero => simp at hj; subst hj; exact h.1
    | succ j => rw [show i + (j + 1) = (i + 1) + j by omega]; exact ih (i + 1) h.2 j o (by simpa using hj)
theorem CopySteps.nil : CopySteps P ops w0 a0 rd al st Q i [] := trivial
theorem CopySteps.rdC (h1 : al.lookup i = none) (h2 : st.lookup i = none) (h : RdStep P ops w0 a0 rd al st Q i o) (hs : CopySteps P ops w0 a0 rd al st Q (i + 1) os) : CopySteps P ops w0 a0 rd al st Q i (o :: os) :=
  ⟨⟨fun _ _ => h, fun T Z h3 => (by rw [h1] at h3; cases h3), fun k cs h3 => (by rw [h2] at h3; cases h3)⟩, hs⟩
theorem CopySteps.alC {T : TypeId} {Z : Array Value} (h1 : al.lookup i = some (T, Z)) (h2 : st.lookup i = none) (h : AlStep P Q T Z o) (hs : CopySteps P ops w0 a0 rd al st Q (i + 1) os) : CopySteps P ops w0 a0 rd al st Q i (o :: os) :=
  ⟨⟨fun h3 _ => (by rw [h1] at h3; cases h3), fun T' Z' h3 => (by rw [h1] at h3; cases h3; exact h), fun k cs h3 => (by rw [h2] at h3; cases h3)⟩, hs⟩
theorem CopySteps.stC {T : TypeId} {Z : Array Value} {cs : Array Value → Prop} {k : Nat} (h1 : al.lookup i = none) (h2 : st.lookup i = some (k, cs)) (h4 : al.lookup k = some (T, Z)) (h : StStep P ops rd al st Q T Z k cs o) (hs : CopySteps P ops w0 a0 rd al st Q (i + 1) os) : CopySteps P ops w0 a0 rd al st Q i (o :: os) :=
  ⟨⟨fun _ h3 => (by rw [h2] at h3; cases h3), fun T' Z' h3 => (by rw [h1] at h3; cases h3), fun k' cs' h3 T' Z' h5 => by rw [h2] at h3; cases h3; rw [h4] at h5; cases h5; exact h⟩, hs⟩
end

theorem setRow_blkM {w : World} {b : Nat} {old cs : Array Value} {T : TypeId} (h : Blk w b old T) : Blk (w.setRow b cs) b cs T := setRow_heap w b old cs T (0, 0) h
theorem setRow_extM (w : World) (b : Nat) (cs : Array Value) : Ext (fun j => j = b) w (w.setRow b cs) :=
  ⟨rfl, rfl, rfl, Nat.le_of_eq (by simp [World.setRow]), fun i _ hs => setRow_other w b i cs hs⟩
theorem Blk.dr {w w' : World} {b : Nat} {cs : Array Value} {T : TypeId} (h : Blk w b cs T) (d : Dr w w') : Blk w' b cs T := by unfold Blk at *; rw [d.heap]; exact h

theorem wpAny_copy {ops : Array Oper} {w0 : World} {a0 : Act} {rd : Nat → Value → Prop} {al : List (Nat × TypeId × Array Value)} {st : List (Nat × Nat × (Array Value → Prop))} {Q : Exit → Act → World → Prop} (hform : CopyForm ops a0.tmps.size al st)
    (hstep : CopySteps P ops w0 a0 rd al st Q 0 ops.toList)
    (hend : ∀ listed a w, CopySt ops w0 a0 rd al st listed a w → (∀ i, i < ops.size → listed.getD i false = true) → Q .normal a w) :
    ∀ (fuel : Nat) (listed : Array Bool) (a : Act) (w : World), CopySt ops w0 a0 rd al st listed a w → listed.size = ops.size → listed.toList.countP (fun b => !b) ≤ fuel → wpAny P .any ops Q fuel listed a w := by
  have hdone : ∀ listed : Array Bool, listed.size = ops.size → Region.ready .any ops listed = [] → ∀ i, i < ops.size → listed.getD i false = true := by
    intro listed hsz hr i
    induction i using Nat.strongRecOn with
    | _ i ih =>
      intro hi
      by_cases hl : listed.getD i false = true
      · exact hl
      · exfalso
        have hlt : listed.getD i true = false := by
          have h1 : i < listed.size := by omega
          have h2 : listed.getD i false = false := by simpa using hl
          simpa [h1] using h2
        obtain ⟨o, ho⟩ : ∃ o, ops[i]? = some o := ⟨ops[i], by simp [hi]⟩
        have hm : i ∈ Region.ready .any ops listed := by
          rw [mem_ready]
          exact ⟨hlt, o, ho, fun e he hb => by
            have hlt' := (hform.op i o ho).2.1 e he hb
            exact ih e.on hlt' (by omega)⟩
        rw [hr] at hm; cases hm
  intro fuel
  induction fuel with
  | zero =>
    intro listed a w h hsz hc
    have hall : ∀ i, i < ops.size → listed.getD i false = true := by
      intro i hi
      have h0 : listed.toList.countP (fun b => !b) = 0 := by omega
      rw [List.countP_eq_zero] at h0
      have h1 : i < listed.size := by omega
      have := h0 (listed[i]) (by simp)
      simpa [h1] using this
    refine ⟨?_, hend listed a w h hall⟩
    cases hr : Region.ready .any ops listed with
    | nil => rfl
    | cons i is =>
      have hm : i ∈ Region.ready .any ops listed := by rw [hr]; exact List.mem_cons_self ..
      obtain ⟨h1, o, ho, -⟩ := mem_ready.1 hm
      have hi : i < ops.size := (Array.getElem?_eq_some_iff.1 ho).1
      have h2 := hall i hi
      have h3 : i < listed.size := by omega
      simp [h3] at h1 h2
      rw [h1] at h2; cases h2
  | succ fuel ih =>
    intro listed a w h hsz hc
    refine ⟨fun hr => hend listed a w h (fun i hi => hdone listed hsz hr i hi), fun i hm => ?_⟩
    obtain ⟨hlt, o, ho, hdep⟩ := mem_ready.1 hm
    have hi : i < ops.size := (Array.getElem?_eq_some_iff.1 ho).1
    obtain ⟨hgd, hbefore, hst, hns⟩ := hform.op i o ho
    have hcs : CopyStep P ops w0 a0 rd al st Q i o := by
      have := CopySteps.get ops.toList 0 hstep i o (by simpa using ho)
      rwa [Nat.zero_add] at this
    unfold wpOp
    rw [ho]
    have hw : Region.wanted o (yielded ops a.tmps) = true := by simp [Region.wanted, hgd]
    simp only [hw, if_true]
    -- what is listed behind this step
    have hlist : ∀ j, j < ops.size → (listed.setIfInBounds i true).getD j false = true → j ≠ i → listed.getD j false = true := by
      intro j hj hl hne
      rw [getD_set_ne false (Ne.symm hne)] at hl
      exact hl
    have hnot : listed.getD i false = false := by
      have h1 : i < listed.size := by omega
      simpa [h1] using hlt
    have hdeps : ∀ j, (o.after.any fun e => Region.binds .any e && e.on == j) = true → listed.getD j false = true ∧ j < ops.size := by
      intro j hj
      obtain ⟨e, he, hb⟩ := Array.any_eq_true'.1 hj
      simp only [Bool.and_eq_true, beq_iff_eq] at hb
      obtain ⟨hb1, rfl⟩ := hb
      have h1 := hdep e he hb1
      refine ⟨h1, ?_⟩
      rcases Nat.lt_or_ge e.on listed.size with h' | h'
      · omega
      · simp [Array.getElem?_eq_none h'] at h1
    have hrdeps : ∀ j, ((o.after.any fun e => Region.binds .any e && e.on == j) && (al.lookup j).isNone && (st.lookup j).isNone) = true → rd j (a.tmps.getD (slotOf ops j) undef) := by
      intro j hj
      simp only [Bool.and_eq_true, Option.isNone_iff_eq_none] at hj
      obtain ⟨⟨h1, h2⟩, h3⟩ := hj
      obtain ⟨h4, h5⟩ := hdeps j h1
      exact h.rds j h5 h4 h2 h3
    have hcount := countP_lt hlt
    have hbef : ∀ j k cs, j < ops.size → (listed.setIfInBounds i true).getD j false = true → st.lookup j = some (k, cs) → (listed.setIfInBounds i true).getD k false = true := by
      intro j k cs hj hl hs
      have hup : ∀ m, listed.getD m false = true → (listed.setIfInBounds i true).getD m false = true := by
        intro m hm2
        by_cases e : m = i
        · subst e
          have h1 : m < listed.size := by omega
          simp [h1]
        · rw [getD_set_ne false (Ne.symm e)]; exact hm2
      by_cases e : j = i
      · subst e
        obtain ⟨-, -, -, hkd⟩ := hst k cs hs
        exact hup k (hdeps k hkd).1
      · exact hup k (h.bef j k cs hj (hlist j hj hl e) hs)
    -- a value that is put beside
    have hput : ∀ d v t, o.dst = some d → d < a.tmps.size → t ≠ d → (a.put o.dst v).tmps.getD t undef = a.tmps.getD t undef := fun d v t hd hda ht => by rw [hd, getD_put hda, if_neg ht]
    refine .inl ?_
    cases hsl : st.lookup i with
    | some kc =>
      obtain ⟨k, cs⟩ := kc
      obtain ⟨hd, hka, hko, hkd⟩ := hst k cs hsl
      obtain ⟨⟨T, Z⟩, hkal⟩ := Option.isSome_iff_exists.1 hka
      have hstp := hcs.2.2 k cs hsl T Z hkal
      obtain ⟨hkl, -⟩ := hdeps k hkd
      have hkst : st.lookup k = none := by
        rcases hform.both k hko with h1 | h1
        · rw [hkal] at h1; cases h1
        · exact h1
      obtain ⟨p, X, hpv, hp0, hpb, hpz, hpx, -⟩ := h.als k T Z hko hkl hkal hkst
      refine hstp a w p X hpv hpb hpz hrdeps _ ?_
      intro ws hcw hzz
      have hx := setRow_extM w p ws
      refine ih _ _ _ ⟨h.ext.trans hx (fun _ _ s => s) (fun j hj e => by omega), h.defers, h.size, h.same, fun j hj hl h1 h2 => ?_, fun j T' Z' hj hl h1 h2 => ?_, hbef, fun j l T1 Z1 T2 Z2 q hj hl' hne h1 h2 h3 h4 h5 h6 => ?_⟩ (by simp [hsz]) (by omega)
      · have hji : j ≠ i := by intro e; subst e; rw [hsl] at h2; cases h2
        exact h.rds j hj (hlist j hj hl hji) h1 h2
      · have hji : j ≠ i := by intro e; subst e; rw [hsl] at h2; cases h2
        have hlj := hlist j hj hl hji
        obtain ⟨p', X', g1, g2, g3, g4, g5, g6⟩ := h.als j T' Z' hj hlj h1 h2
        by_cases hjk : j = k
        · subst hjk
          rw [hkal] at h1
          cases h1
          have hpp : p' = p := by rw [hpv] at g1; cases g1; rfl
          subst hpp
          refine ⟨p', ws, g1, g2, setRow_blkM g3, hzz, fun m ds hm hml hms => ?_, fun hno => absurd hsl (hno i cs hi)⟩
          have := hform.one i m j cs ds hi hm hsl hms
          subst this
          rw [hsl] at hms
          cases hms; exact hcw
        · have hpp : p' ≠ p := fun e => by
            subst e
            exact h.sep j k T' Z' T Z _ hj hko hjk hlj hkl h1 hkal h2 hkst g1 hpv
          refine ⟨p', X', g1, g2, g3.ext hx hpp, g4, fun m ds hm hml hms => ?_, g6⟩
          have hmi : m ≠ i := by intro e; subst e; rw [hsl] at hms; cases hms; exact hjk rfl
          exact g5 m ds hm (hlist m hm hml hmi) hms
      · have hji : j ≠ i := by intro e; subst e; rw [hsl] at h5; cases h5
        by_cases hli : l = i
        · subst hli; intro _; rw [hsl] at h6; cases h6
        · exact fun g => h.sep j l T1 Z1 T2 Z2 q hj hl' hne (hlist j hj h1 hji) (hlist l hl' h2 hli) h3 h4 h5 h6 g
    | none =>
      obtain ⟨⟨d, hd, hdn, hds⟩, hother⟩ := hns hsl
      have hda : d < a.tmps.size := by rw [h.size]; exact hdn
      have hkeep : ∀ v j, j < ops.size → j ≠ i → st.lookup j = none → (a.put o.dst v).tmps.getD (slotOf ops j) undef = a.tmps.getD (slotOf ops j) undef := fun v j hj hne hn =>
        hput d v _ hd hda (fun e => hother j hj hne hn (by rw [e, hds]))
      have hsame : ∀ v t, ((List.range ops.size).all fun j => (st.lookup j).isSome || slotOf ops j != t) = true → (a.put o.dst v).tmps.getD t undef = a0.tmps.getD t undef := fun v t ht => by
        rw [hput d v t hd hda (fun e => by
          rw [List.all_eq_true] at ht
          have := ht i (List.mem_range.2 hi)
          rw [hsl] at this
          simp only [Option.isSome_none, Bool.false_or, bne_iff_ne] at this
          exact this (by rw [← hds, e]))]
        exact h.same t ht
      have hself : ∀ v, (a.put o.dst v).tmps.getD (slotOf ops i) undef = v := fun v => by rw [hd, getD_put hda, if_pos hds.symm]
      cases hal : al.lookup i with
      | none =>
        refine hcs.1 hal hsl a w h.ext h.same hrdeps _ ?_
        intro v w' hdr hv
        have hx := hdr
        refine ih _ _ _ ⟨h.ext.trans' hx, by rw [hd]; simp [Act.put, h.defers], by rw [hd]; simp [Act.put, h.size], hsame v, fun j hj hl h1 h2 => ?_, fun j T' Z' hj hl h1 h2 => ?_, hbef, fun j l T1 Z1 T2 Z2 q hj hl' hne h1 h2 h3 h4 h5 h6 => ?_⟩ (by simp [hsz]) (by omega)
        · by_cases e : j = i
          · subst e; rw [hself]; exact hv
          · rw [hkeep v j hj e h2]; exact h.rds j hj (hlist j hj hl e) h1 h2
        · have hji : j ≠ i := by intro e; subst e; rw [hal] at h1; cases h1
          obtain ⟨p', X', g1, g2, g3, g4, g5, g6⟩ := h.als j T' Z' hj (hlist j hj hl hji) h1 h2
          refine ⟨p', X', by rw [hkeep v j hj hji h2]; exact g1, g2, g3.ext hx (fun s => s), g4, fun m ds hm hml hms => ?_, g6⟩
          have hmi : m ≠ i := by intro e; subst e; rw [hsl] at hms; cases hms
          exact g5 m ds hm (hlist m hm hml hmi) hms
        · have hji : j ≠ i := by intro e; subst e; rw [hal] at h3; cases h3
          have hli : l ≠ i := by intro e; subst e; rw [hal] at h4; cases h4
          rw [hkeep v j hj hji h5, hkeep v l hl' hli h6]
          exact h.sep j l T1 Z1 T2 Z2 q hj hl' hne (hlist j hj h1 hji) (hlist l hl' h2 hli) h3 h4 h5 h6
      | some tz =>
        obtain ⟨T, Z⟩ := tz
        refine hcs.2.1 T Z hal a w _ ?_
        have hx : Ext No w (w.alloc (.cells Z T)) := (Ext.refl No w).alloc _
        have hold : ∀ j T' Z', j < ops.size → j ≠ i → listed.getD j false = true → al.lookup j = some (T', Z') → st.lookup j = none → ∃ p, a.tmps.getD (slotOf ops j) undef = .pointer (some ⟨p, 0, none⟩) ∧ p < w.heap.size := by
          intro j T' Z' hj _ hl h1 h2
          obtain ⟨p', X', g1, -, g3, -⟩ := h.als j T' Z' hj hl h1 h2
          exact ⟨p', g1, g3.lt⟩
        refine ih _ _ _ ⟨h.ext.trans' hx, by rw [hd]; simp [Act.put, h.defers], by rw [hd]; simp [Act.put, h.size], hsame _, fun j hj hl h1 h2 => ?_, fun j T' Z' hj hl h1 h2 => ?_, hbef, fun j l T1 Z1 T2 Z2 q hj hl' hne h1 h2 h3 h4 h5 h6 => ?_⟩ (by simp [hsz]) (by omega)
        · have hji : j ≠ i := by intro e; subst e; rw [hal] at h1; cases h1
          rw [hkeep _ j hj hji h2]; exact h.rds j hj (hlist j hj hl hji) h1 h2
        · by_cases e : j = i
          · subst e
            rw [hal] at h1; cases h1
            refine ⟨w.heap.size, Z, hself _, h.ext.size, Blk.new w Z T, rfl, fun m ds hm hml hms => ?_, fun _ => rfl⟩
            -- no store may be done ahead of its block
            exfalso
            have hmi : m ≠ j := by intro e; subst e; rw [hsl] at hms; cases hms
            have hml' := hlist m hm hml hmi
            have := h.bef m j ds hm hml' hms
            rw [hnot] at this; cases this
          · obtain ⟨p', X', g1, g2, g3, g4, g5, g6⟩ := h.als j T' Z' hj (hlist j hj hl e) h1 h2
            refine ⟨p', X', by rw [hkeep _ j hj e h2]; exact g1, g2, g3.ext hx (fun s => s), g4, fun m ds hm hml hms => ?_, g6⟩
            have hmi : m ≠ i := by intro e; subst e; rw [hsl] at hms; cases hms
            exact g5 m ds hm (hlist m hm hml hmi) hms
        · intro hq1 hq2
          by_cases hji : j = i
          · subst hji
            have hli : l ≠ j := fun e => hne e.symm
            rw [hself] at hq1
            rw [hkeep _ l hl' hli h6] at hq2
            obtain ⟨p, g1, g2⟩ := hold l T2 Z2 hl' hli (hlist l hl' h2 hli) h4 h6
            rw [g1] at hq2; cases hq2; cases hq1; omega
          · rw [hkeep _ j hj hji h5] at hq1
            by_cases hli : l = i
            · subst hli
              rw [hself] at hq2
              obtain ⟨p, g1, g2⟩ := hold j T1 Z1 hj hji (hlist j hj h1 hji) h3 h5
              rw [g1] at hq1; cases hq1; cases hq2; omega
            · rw [hkeep _ l hl' hli h6] at hq2
              exact h.sep j l T1 Z1 T2 Z2 q hj hl' hne (hlist j hj h1 hji) (hlist l hl' h2 hli) h3 h4 h5 h6 hq1 hq2
theorem wp_region_copy {l : List Oper} {id : Nat} {a : Act} {w : World} {Q : Exit → Act → World → Prop} (rd : Nat → Value → Prop) (al : List (Nat × TypeId × Array Value)) (st : List (Nat × Nat × (Array Value → Prop))) (hm : P.follows .mixedOrders = true)
    (hform : copyForm l.toArray a.tmps.size al st = true) (hstep : CopySteps P l.toArray w.drew a rd al st Q 0 l)
    (hend : ∀ a' w', Ext No w w' → a'.defers = a.defers → a'.tmps.size = a.tmps.size → (∀ t, ((List.range l.toArray.size).all fun j => (st.lookup j).isSome || slotOf l.toArray j != t) = true → a'.tmps.getD t undef = a.tmps.getD t undef) →
      (∀ i, i < l.toArray.size → al.lookup i = none → st.lookup i = none → rd i (a'.tmps.getD (slotOf l.toArray i) undef)) →
      (∀ i T Z, i < l.toArray.size → al.lookup i = some (T, Z) → st.lookup i = none → ∃ p X, a'.tmps.getD (slotOf l.toArray i) undef = .pointer (some ⟨p, 0, none⟩) ∧ w.heap.size ≤ p ∧ Blk w' p X T ∧
        (∀ j C, j < l.toArray.size → st.lookup j = some (i, C) → C X) ∧ ((∀ j cs, j < l.toArray.size → st.lookup j ≠ some (i, cs)) → X = Z)) →
      (∀ i j T Z T' Z' p, i < l.toArray.size → j < l.toArray.size → i ≠ j → al.lookup i = some (T, Z) → al.lookup j = some (T', Z') → st.lookup i = none → st.lookup j = none → a'.tmps.getD (slotOf l.toArray i) undef = .pointer (some p) → a'.tmps.getD (slotOf l.toArray j) undef ≠ .pointer (some p)) →
      Q .normal a' w') :
    (Code.region id l.toArray true).wp P Q a w := by
  refine wp_region_any hm (wpAny_copy (w0 := w.drew) (a0 := a) (CopyForm.of hform) (by simpa using hstep) (fun listed a' w' h hall => hend a' w' ((Ext.refl No w).drew.trans' h.ext) h.defers h.size h.same (fun i hi h1 h2 => h.rds i hi (hall i hi) h1 h2)
    (fun i T Z hi h1 h2 => ?_) (fun i j T Z T' Z' p hi hj hne h1 h2 h3 h4 => h.sep i j T Z T' Z' p hi hj hne (hall i hi) (hall j hj) h1 h2 h3 h4)) _ _ _ _ ⟨Ext.refl No _, rfl, rfl, fun _ _ => rfl, ?_, ?_, ?_, ?_⟩ (by simp) ?_)
  · obtain ⟨p, X, g1, g2, g3, -, g5, g6⟩ := h.als i T Z hi (hall i hi) h1 h2
    exact ⟨p, X, g1, g2, g3, fun j cs hj hs => g5 j cs hj (hall j hj) hs, g6⟩
  · intro i hi hl; have h0 : (Array.replicate l.toArray.size false).getD i false = false := getD_replicate_false _ _
    rw [h0] at hl; cases hl
  · intro i _ _ hi hl; have h0 : (Array.replicate l.toArray.size false).getD i false = false := getD_replicate_false _ _
    rw [h0] at hl; cases hl
  · intro i _ _ hi hl; have h0 : (Array.replicate l.toArray.size false).getD i false = false := getD_replicate_false _ _
    rw [h0] at hl; cases hl
  · intro i _ _ _ _ _ _ _ _ _ hl; have h0 : (Array.replicate l.toArray.size false).getD i false = false := getD_replicate_false _ _
    rw [h0] at hl; cases hl
  · exact Nat.le_trans List.countP_le_length (by simp)
/-- a whole value goes into a block -/
theorem wp_store_blk {op : Oper} {a : Act} {w : World} {K : Act → World → Prop} {Q : Exit → Act → World → Prop} {b : Nat} {X cs : Array Value} {T : TypeId} (ty : TypeId) (x y : Operand) (ho : op.op = .store ty x y) (hd : op.dst = none)
    (hx : a.eval x = .pointer (some ⟨b, 0, none⟩)) (hy : a.eval y = .agg cs) (hb : Blk w b X T) (hi : (P.info? ty).map (·.size) = some cs.size) (hs : X.size = cs.size) (h1 : cs.all (·.oneCell') = true)
    (h : K a (w.setRow b cs)) : op.wp P a w K Q := by
  unfold Oper.wp execOp
  simp only [ho, hx, hy, Instr.storeAt, Instr.sureAddr, Sem.run_bind, Sem.run_pure, Result.andThen_ok, run_storeVar_row (P := P) w b T ty X cs hb hi hs h1]
  have h2 : K (a.put op.dst undef) (w.setRow b cs) := by rw [hd]; exact h
  exact h2
theorem wp_alloc_new {op : Oper} {a : Act} {w w2 : World} {K : Act → World → Prop} {Q : Exit → Act → World → Prop} {v : Value} (hl : (execOp a.eval op).run P w = .ok (.value v) w2) (h : K (a.put op.dst v) w2) : op.wp P a w K Q := by
  unfold Oper.wp
  rw [hl]
  exact h
end
end Go.My
end

section
/- Element put into a row of the call's own; the closure of TreeErrors. -/
namespace Go.Proofs.YtefabpgfhghpgaaDoor
open Go.RowKit Go.My

/-- a part of a list, written over -/
def splice {α : Type} (l : List α) (a : Nat) (cs : List α) : List α := l.take a ++ cs ++ l.drop (a + cs.length)
theorem splice_get {α : Type} (l cs : List α) (a k : Nat) (ha : a + cs.length ≤ l.length) : (splice l a cs)[k]? = if k < a then l[k]? else if k < a + cs.length then cs[k - a]? else l[k]? := by
  unfold splice
  have h1 : (l.take a).length = a := by rw [List.length_take]; omega
  by_cases hk : k < a
  · rw [if_pos hk, List.append_assoc, List.getElem?_append_left (by omega), List.getElem?_take_of_lt hk]
  · rw [if_neg hk]
    by_cases hk2 : k < a + cs.length
    · rw [if_pos hk2, List.getElem?_append_left (by rw [List.length_append]; omega), List.getElem?_append_right (by omega), h1]
    · rw [if_neg hk2, List.getElem?_append_right (by rw [List.length_append]; omega), List.length_append, h1, List.getElem?_drop]
      congr 1; omega
theorem splice_len {α : Type} (l cs : List α) (a : Nat) (ha : a + cs.length ≤ l.length) : (splice l a cs).length = l.length := by
  unfold splice
  rw [List.length_append, List.length_append, List.length_take, List.length_drop]; omega
theorem ownseq_set {α : Type} {w : World} {B size g n c : Nat} {T : TypeId} {E : α → List Value → Prop} {xs : List α} (h : OwnSeq w B T size (fun _ => E) xs (.slice (some ⟨g, 0, none⟩) n c)) (q : Nat) (hq : q < xs.length) (y : α) (cs : List Value) (hl : cs.length = size) (hy : E y cs) :
    OwnSeq (w.setCells g (q * size) cs) B T size (fun _ => E) (xs.set q y) (.slice (some ⟨g, 0, none⟩) n c) ∧ w.there g (q * size) size ∧ B ≤ g := by
  obtain ⟨us, h1, h2⟩ := h
  obtain ⟨hlen, h1⟩ := h1
  rcases h1 with ⟨he, -⟩ | ⟨g', cap, cur, he, h3, h4, h5, h6, h7, h8⟩
  · cases he
  cases he
  have hb : Blk w g cur T := h4
  have hqs : q * size + size ≤ xs.length * size := by rw [← Nat.succ_mul]; exact Nat.mul_le_mul_right _ hq
  have hcs : xs.length * size ≤ cur.size := by
    rw [h7]; exact Nat.mul_le_mul_right _ h5
  have hcur : cur = (cur.toList.take (q * size) ++ (cur.toList.drop (q * size)).take size ++ cur.toList.drop (q * size + size)).toArray := by
    apply Array.toList_inj.1
    simp only [List.append_assoc]
    rw [← List.drop_drop, List.take_append_drop, List.take_append_drop]
  have ht : w.there g (q * size) size := by
    have hb' : Blk w g cur.toList.toArray T := by simpa using hb
    exact Blk.there hb' (q * size) size (by rw [Array.length_toList]; omega)
  have hb2 := setCells_blk g T cs w (cur.toList.take (q * size)) ((cur.toList.drop (q * size)).take size) (cur.toList.drop (q * size + size)) (by rw [← hcur]; exact hb) (by rw [List.length_take, List.length_drop, Array.length_toList, hl]; omega)
  rw [List.length_take, Array.length_toList, Nat.min_eq_left (by omega)] at hb2
  have hsp : cur.toList.take (q * size) ++ cs ++ cur.toList.drop (q * size + size) = splice cur.toList (q * size) cs := by unfold splice; rw [hl]
  rw [hsp] at hb2
  have hcl : q * size + cs.length ≤ cur.toList.length := by rw [hl, Array.length_toList]; omega
  have hul : q * size + cs.length ≤ us.length := by omega
  have htk : (splice cur.toList (q * size) cs).take (xs.length * size) = splice us (q * size) cs := by
    apply List.ext_getElem?
    intro k
    rw [List.getElem?_take]
    by_cases hk : k < xs.length * size
    · rw [if_pos hk, splice_get _ _ _ _ hcl, splice_get _ _ _ _ hul, ← h8, List.getElem?_take, if_pos hk]
    · rw [if_neg hk, List.getElem?_eq_none (by rw [splice_len _ _ _ hul, hlen]; omega)]
  refine ⟨⟨splice us (q * size) cs, ⟨by rw [splice_len _ _ _ hul, List.length_set]; exact hlen, .inr ⟨g, c, (splice cur.toList (q * size) cs).toArray, by rw [List.length_set], h3, hb2, by rw [List.length_set]; exact h5, h6, by rw [List.size_toArray, splice_len _ _ _ hcl, Array.length_toList]; exact h7, ?_⟩⟩, fun i x hx => ?_⟩, ht, h3⟩
  · rw [List.length_set]; exact htk
  · have hi : i < xs.length := by
      rcases Nat.lt_or_ge i xs.length with h | h
      · exact h
      · rw [List.getElem?_eq_none (by rw [List.length_set]; exact h)] at hx; cases hx
    by_cases hiq : q = i
    · subst hiq
      rw [List.getElem?_set_self hq] at hx
      cases hx
      have e : elC (splice us (q * size) cs) size q = cs := by
        apply List.ext_getElem?
        intro k
        by_cases hk : k < size
        · rw [elC_get _ _ _ _ hk, splice_get _ _ _ _ hul, if_neg (by omega), if_pos (by omega)]
          congr 1; omega
        · rw [List.getElem?_eq_none (by unfold elC; rw [List.length_take]; omega), List.getElem?_eq_none (by omega)]
      rw [e]; exact hy
    · rw [List.getElem?_set_ne hiq] at hx
      have e : elC (splice us (q * size) cs) size i = elC us size i := by
        apply List.ext_getElem?
        intro k
        by_cases hk : k < size
        · rw [elC_get _ _ _ _ hk, elC_get _ _ _ _ hk, splice_get _ _ _ _ hul]
          rcases Nat.lt_or_gt_of_ne hiq with hlt | hlt
          · have : q * size + size ≤ i * size := by rw [← Nat.succ_mul]; exact Nat.mul_le_mul_right _ hlt
            rw [if_neg (by omega), if_neg (by omega)]
          · have : i * size + size ≤ q * size := by rw [← Nat.succ_mul]; exact Nat.mul_le_mul_right _ hlt
            rw [if_pos (by omega)]
        · rw [List.getElem?_eq_none (by unfold elC; rw [List.length_take]; omega), List.getElem?_eq_none (by unfold elC; rw [List.length_take]; omega)]
      rw [e]; exact h2 i x hx

theorem ownseq_some {α : Type} {w : World} {B size n c : Nat} {T : TypeId} {E : World → α → List Value → Prop} {xs : List α} {a : Option Addr} (h : OwnSeq w B T size E xs (.slice a n c)) (hl : 0 < xs.length) : ∃ b, a = some ⟨b, 0, none⟩ := by
  obtain ⟨us, h1, -⟩ := h
  rcases h1.2 with ⟨he, h0⟩ | ⟨g, cap, cur, he, h3, -⟩
  · omega
  · cases he; exact ⟨g, rfl⟩
theorem tset_arm {w w1 w2 : World} {ns : List NodeL} {nd : NodeL} {cs : List Value} {n c ib q : Nat} {a0 : Option Addr} (hw1 : w1 = w.alloc (.cells cs.toArray 42)) (hE : Ext No w w2) (h12 : Ext No w1 w2) (ho : OwnSeq w2 (w.heap.size + 1) 42 36 (fun _ => IsNode w) [] (.slice a0 n c))
    (c3 : ∀ W, Ext No w W → W.cell? ⟨ib, 0, none⟩ = some (.int .i64 (q : Int))) (hnd : IsNode w nd cs) (hq : q < ns.length)
    (v' : Value) (w' : World) (hown : OwnSeq w' (w.heap.size + 1) 42 36 (fun _ => IsNode w) ([] ++ ns) v') (hg : w2.grownBy w' (Value.slice a0 n c).ownBlock) :
    ∃ g m d, v' = .slice (some ⟨g, 0, none⟩) m d ∧ (q : Int) < m ∧ Ext No w w' ∧ w'.cell? ⟨ib, 0, none⟩ = some (.int .i64 (q : Int)) ∧
      (Instr.loadAt 42 (.pointer (some ⟨w.heap.size, 0, none⟩))).run Tryd.prog w' = .ok (.agg cs.toArray) w' ∧
      (Instr.storeAt 42 (.pointer (some ⟨g, q * 36, none⟩)) (.agg cs.toArray)).run Tryd.prog w' = .ok () (w'.setCells g (q * 36) cs) ∧
      Ext No w (w'.setCells g (q * 36) cs) ∧ IsNodes (w'.setCells g (q * 36) cs) (ns.set q nd) (.slice (some ⟨g, 0, none⟩) m d) := by
  obtain ⟨a10, m10, c10, rfl, hm10⟩ := ownseq_form hown
  rw [List.nil_append] at hown hm10
  obtain ⟨g10, rfl⟩ := ownseq_some hown (by omega)
  have hE10 : Ext No w w' := hE.grown hg (fun j hj h => absurd h (by have := (OwnSeq.lt ho j hj).1; omega))
  have hx12 : Ext No w1 w' := h12.grown hg (fun j hj h => by have := (OwnSeq.lt ho j hj).1; rw [hw1, World.size_alloc] at h; omega)
  have hbb : Blk w1 w.heap.size cs.toArray 42 := by rw [hw1]; exact Blk.new _ _ _
  obtain ⟨hset, hth, hB⟩ := ownseq_set hown q hq nd cs hnd.length hnd
  have hxs : Ext No w (w'.setCells g10 (q * 36) cs) := hE10.trans (setCells_ext g10 cs w' (q * 36)) (fun _ _ s => s) (fun j hj h => absurd hj (by subst h; omega))
  have h36 := hnd.length
  refine ⟨g10, m10, c10, rfl, by omega, hE10, c3 _ hE10, run_loadAt_mid (P := Tryd.prog) w' w.heap.size 0 42 cs _ (rangeAt.blk (hbb.ext hx12 (fun s => s)) 0) Tryd.underlying42 rfl (by rw [h36]; exact info42),
    run_storeAt_mid (P := Tryd.prog) w' g10 (q * 36) 42 cs.toArray (by rw [List.size_toArray, h36]; exact hth) (by rw [List.size_toArray, h36]; exact info42) hnd.one, hxs, ownseq_nodes hset hxs⟩
set_option maxRecDepth 100000 in
set_option maxHeartbeats 8000000 in
theorem tset_any (ns : List NodeL) (nd : NodeL) (cs : List Value) (a : Option Addr) (n c lb ib q : Nat) (w : World) (hv : IsNodes w ns (.slice a n c)) (hnd : IsNode w nd cs) (hlb : Blk w lb #[.slice a n c] 22) (hib : Blk w ib #[.int .i64 (q : Int)] 3) (hq : q < ns.length) (hl : ns.length ≤ 600)
    (hlen : ∀ m ∈ ns, m.name.length ≤ 1000000000) (hlen2 : nd.name.length ≤ 1000000000) :
    Calls Tryd.prog 15 #[.agg cs.toArray, .pointer (some ⟨lb, 0, none⟩), .pointer (some ⟨ib, 0, none⟩)] w fun e w' => e = .returned (.int .i64 (nodesE (ns.set q nd))) ∧ Ext No w w' := by
  have hln : n = ns.length := by obtain ⟨_, _, he, -⟩ := hv; cases he; rfl
  have hl36 := hnd.length
  have hx1 : Ext No w (w.alloc (.cells cs.toArray 42)) := (Ext.refl No w).alloc _
  obtain ⟨css, hc1⟩ := src_nodes hv
  have hEB : Ext No w ((w.alloc (.cells cs.toArray 42)).alloc (.cells #[] 42)) := hx1.alloc _
  have HLN := Lib.hid hln
  clear hln
  have HOB := Lib.hid (show OwnSeq ((w.alloc (.cells cs.toArray 42)).alloc (.cells #[] 42)) (w.heap.size + 1) 42 36 (fun _ => IsNode w) [] (.slice (some ⟨w.heap.size + 1, 0, none⟩) 0 0) from by
    have := seq_made (w.alloc (.cells cs.toArray 42)) 42 36 (fun _ => IsNode w)
    rwa [World.size_alloc] at this)
  have HSB := Lib.hid (hc1.ext0 hEB)
  have HX1 := Lib.hid hx1; have HEB := Lib.hid hEB; have HND := Lib.hid hnd
  have HN1 := Lib.hid (show ([] : List NodeL).length + ns.length ≤ 9223372036854775807 ∧ (([] : List NodeL).length + ns.length) * 88 ≤ 140737488355328 by rw [List.length_nil]; omega)
  have HZ := Lib.hid (show w.heap.size + 1 ≤ ((w.alloc (.cells cs.toArray 42)).alloc (.cells #[] 42)).heap.size by rw [World.size_alloc, World.size_alloc]; omega)
  have c1 : (w.alloc (.cells cs.toArray 42)).cell? ⟨lb, 0, none⟩ = some (.slice a n c) := by rw [(hlb.ext hx1 (fun s => s)).cell]; rfl
  have c2 : ∀ W, Ext No w W → W.cell? ⟨lb, 0, none⟩ = some (.slice a n c) := fun W h => by rw [(hlb.ext h (fun s => s)).cell]; rfl
  have c3 : ∀ W, Ext No w W → W.cell? ⟨ib, 0, none⟩ = some (.int .i64 q) := fun W h => by rw [(hib.ext h (fun s => s)).cell]; rfl
  have C2 := Lib.hid c2; have C3 := Lib.hid c3
  have d2 := c2 _ hEB
  have HX12 := Lib.hid ((Ext.refl No (w.alloc (.cells cs.toArray 42))).alloc (.cells #[] 42))
  clear c2 c3 hx1 hc1 hEB hl36 hnd
  go_enter Tryd.func15, Tryd.ntmps15
  have HLEN := Lib.hid (show ∀ m ∈ ns.set q nd, m.name.length ≤ 1000000000 from fun m hm => by
    rcases List.mem_or_eq_of_mem_set hm with h | h
    · exact hlen m h
    · rw [h]; exact hlen2)
  have HARM := Lib.hid (fun (v' : Value) (w' : World) (ho : OwnSeq w' (w.heap.size + 1) 42 36 (fun _ => IsNode w) ([] ++ ns) v') (hg : ((w.alloc (.cells cs.toArray 42)).alloc (.cells #[] 42)).grownBy w' (Value.slice (some ⟨w.heap.size + 1, 0, none⟩) 0 0).ownBlock) =>
    tset_arm rfl HEB.out HX12.out HOB.out C3.out HND.out hq v' w' ho hg)
  clear HND hq HX12
  go_wp2_with (first
    | ((with_reducible refine wpList_appG _ ?_ _ _ 22 rfl (w.heap.size + 1) 42 _ _ node_info Tryd.underlying22 rfl (by decide) _ _ ?_ ?_ HOB.out HSB.out HN1.out.1 HN1.out.2 HZ.out ?_); rfl; rfl; rfl; intro v10 w10 hown10 hg10 hat10; obtain ⟨g10, m10, c10, rfl, hqm, hE10, c4, hl42, hs42, hxs, hnn⟩ := HARM.out v10 w10 hown10 hg10; have HE10 := Lib.hid hE10; have HL42 := Lib.hid hl42; have HS42 := Lib.hid hs42; have HNN := Lib.hid hnn; have HXS := Lib.hid hxs; clear hown10 hg10 hat10 hE10 hl42 hs42 hnn hxs)
    | ((with_reducible refine wpList_load_at ?_ 42 _ rfl ?_ HL42.out ?_); rfl; rfl)
    | ((with_reducible refine wpList_store_at ?_ 42 _ _ rfl ?_ ?_ (HS42.out) ?_); rfl; rfl; rfl))
  refine (tcheck_any (ns.set q nd) _ _ HNN.out HLEN.out).mono ?_
  rintro e w20 ⟨rfl, hE20⟩
  have HE20 := Lib.hid (HXS.out.trans' hE20)
  clear hE20
  dsimp only
  go_wp2_with fail
  go_ret
  exact ⟨rfl, HE20.out⟩
end Go.Proofs.YtefabpgfhghpgaaDoor
end

section
/- Slices of nodes; append onto an empty row. -/
namespace Go.Proofs.YtefabpgfhghpgaaDoor
open Go.RowKit Go.My

section
variable {P : Program}
theorem wp_exec {op : Oper} {a : Act} {w w2 : World} {K : Act → World → Prop} {Q : Exit → Act → World → Prop} {v : Value} (hl : (execOp a.eval op).run P w = .ok (.value v) w2) (h : K (a.put op.dst v) w2) : op.wp P a w K Q := by
  unfold Oper.wp
  rw [hl]
  exact h
theorem wp_slice_known {op : Oper} {a : Act} {w : World} {K : Act → World → Prop} {Q : Exit → Act → World → Prop} (ty : TypeId) (x : Operand) (lo hi : Option Operand) (ho : op.op = .slice ty x lo hi none) {u v : Value} {lo' hi' : Option Value} (hx : a.eval x = u) (h1 : lo.map a.eval = lo') (h2 : hi.map a.eval = hi')
    (hl : (Instr.sliceAt ty u lo' hi' none).run P w = .ok v w) (h : K (a.put op.dst v) w) : op.wp P a w K Q := by
  refine wp_exec (w2 := w) (v := v) ?_ h
  simp only [execOp, ho, hx, h1, h2, Option.map_none, Sem.run_bind, hl, Result.andThen_ok, Sem.run_pure]
theorem run_dropN {t e : TypeId} {s : Nat} (ht : P.underlying t = some (.slice e)) (hs : ∀ w, (sizeOf e).run P w = .ok s w) (a : Option Addr) (kd : IntKind) (k len cap : Nat) (hk : k ≤ len) (w : World) :
    (Instr.sliceAt t (.slice a len cap) (some (.int kd k)) none none).run P w = .ok (.slice (if cap = k then a else a.map (·.add (k * s))) (len - k) (cap - k)) w := by
  have hel : P.elem t = e := by simp [Program.elem, ht]
  have ht' : P.underlying t = some (.slice (P.elem t)) := by rw [hel]; exact ht
  rw [run_sliceAt_slice w t _ _ _ _ ht', run_slice_l w t a len cap ht' kd k (by omega) (by omega), hel, hs]
  simp [Result.andThen, sliced]
theorem run_takeN {t e : TypeId} {s : Nat} (ht : P.underlying t = some (.slice e)) (hs : ∀ w, (sizeOf e).run P w = .ok s w) (a : Option Addr) (kd : IntKind) (k len cap : Nat) (hk : k ≤ cap) (w : World) :
    (Instr.sliceAt t (.slice a len cap) none (some (.int kd k)) none).run P w = .ok (.slice a k cap) w := by
  have hel : P.elem t = e := by simp [Program.elem, ht]
  have ht' : P.underlying t = some (.slice (P.elem t)) := by rw [hel]; exact ht
  rw [run_sliceAt_slice w t _ _ _ _ ht', run_slice_h w t a len cap ht' kd k (by omega) (by omega), hel, hs]
  simp [Result.andThen, sliced]
  cases a <;> simp [Addr.add]
/-- append onto an empty row: what is there stays -/
theorem wp_appE {α : Type} {size : Nat} {E : α → List Value → Prop} {ys : List α} {css : List (List Value)} {o : Oper} {a : Act} {K : Act → World → Prop} {Q : Exit → Act → World → Prop} (w : World) (s x : Operand) (t : TypeId) (ho : o.op = .call { callee := .builtin .append, args := #[s, x], argTypes := #[t, t] }) (base : Nat) (e : TypeId) (z : Value) (bytes : Nat)
    (hinfo : (P.info? e).map (fun i => (i.zero, i.size, i.bytes)) = some (some z, size, bytes)) (ht : P.underlying t = some (.slice e)) (hzs : z.cells.size = size) (hsz : 0 < size)
    {g : Nat} {u : Value} (hs : a.eval s = .slice (some ⟨g, 0, none⟩) 0 0) (hx : a.eval x = u) (hown : OwnSeq w base e size (fun _ => E) [] (.slice (some ⟨g, 0, none⟩) 0 0)) (hsrc : Src w size E ys u css)
    (h63 : ys.length ≤ 9223372036854775807) (hbytes : ys.length * bytes ≤ 140737488355328) (hbase : base ≤ w.heap.size)
    (h : ∀ v' w', OwnSeq w' base e size (fun _ => E) ys v' → Ext No w w' → K (a.put o.dst v') w') : o.wp P a w K Q := by
  obtain ⟨i0, hi, hz0, hz1, hz2⟩ := info_parts hinfo
  obtain ⟨hl, hone⟩ := hsrc.lens
  obtain ⟨ad, c, rfl, hr⟩ := hsrc.form
  have hfl := flatN_len size css hl
  rw [hsrc.len] at hfl
  rcases Nat.eq_zero_or_pos ys.length with h0 | hp
  · have hy : ys = [] := List.eq_nil_of_length_eq_zero h0
    subst hy
    obtain ⟨us, h1, h2⟩ := id hown
    have h3 : (Builtin.append_ #[t, t] o.type #[.slice (some ⟨g, 0, none⟩) 0 0, .slice ad ([] : List α).length c]).run P w = .ok (.slice (some ⟨g, 0, none⟩) 0 0) w := by
      cases ad <;> simp [Builtin.append_, run_underlying ht, sizeOf, typeInfo, hi, Builtin.lenOf, Builtin.firstCells, storeCells, loadCells, loadCellsFrom, Result.andThen]
    unfold Oper.wp
    simp only [execOp, ho, resolve, invoke, builtin, Sem.run_bind, Sem.run_pure, Result.andThen_ok, List.map_toArray, List.map_cons, List.map_nil, hs, hx, h3]
    exact h _ _ hown (Ext.refl _ w)
  · obtain ⟨b, o', rfl, hra⟩ := hr hp
    obtain ⟨v', w', h3, h4, h5⟩ := run_append_arg_grows (P := P) w t o.type e i0 z size bytes ht hi hz0 hz1 hz2 hzs hsz ⟨g, 0, none⟩ 0 0 [] (by simp) (by intro j u hj; simp at hj) ⟨b, o', none⟩ ys.length c css.flatten hfl
      (by intro j u hj; rw [addr_add]; exact hra j u hj) (by omega) (by unfold maxLen; omega) (by rw [Nat.zero_add]; exact hbytes)
    rw [Nat.zero_add, List.nil_append] at h4
    have hown' : OwnSeq w' base e size (fun _ => E) ys v' := by
      refine ⟨css.flatten, ?_, fun i y hy => ?_⟩
      · exact own_le h4 hbase
      · have hi' : i < css.length := by
          rw [hsrc.len]
          rcases Nat.lt_or_ge i ys.length with h | h
          · exact h
          · rw [List.getElem?_eq_none h] at hy; cases hy
        rw [elC_flat size css i _ hl (List.getElem?_eq_getElem hi')]
        exact (hsrc.each i y _ hy (List.getElem?_eq_getElem hi')).2.1
    unfold Oper.wp
    simp only [execOp, ho, resolve, invoke, builtin, Sem.run_bind, Sem.run_pure, Result.andThen_ok, List.map_toArray, List.map_cons, List.map_nil, hs, hx, h3]
    exact h _ _ hown' ((Ext.refl No w).grown h5 (fun k hk => by cases hk))
end
theorem nodes_take {w : World} {ns : List NodeL} {a : Option Addr} {n c : Nat} (h : IsNodes w ns (.slice a n c)) (k : Nat) (hk : k ≤ n) : IsNodes w (ns.take k) (.slice a k c) := by
  obtain ⟨a0, c0, he, h1, h2, hat⟩ := h
  cases he
  have hl : (ns.take k).length = k := by rw [List.length_take]; omega
  refine ⟨a, c, by rw [hl], by omega, h2, ⟨fun i hi => ?_⟩⟩
  rw [hl] at hi
  obtain ⟨b, off, cs, h3, h4, h5⟩ := hat.at_ i (by omega)
  refine ⟨b, off, cs, h3, h4, ?_⟩
  have e : (ns.take k).getD i node0 = ns.getD i node0 := by simp [List.getD_eq_getElem?_getD, List.getElem?_take, hi]
  rw [e]; exact h5
theorem nodes_drop {w : World} {ns : List NodeL} {a : Option Addr} {n c : Nat} (h : IsNodes w ns (.slice a n c)) (k : Nat) (hk : k ≤ n) : IsNodes w (ns.drop k) (.slice (if c = k then a else a.map (·.add (k * 36))) (n - k) (c - k)) := by
  obtain ⟨a0, c0, he, h1, h2, hat⟩ := h
  cases he
  have hl : (ns.drop k).length = ns.length - k := List.length_drop
  refine ⟨_, _, by rw [hl], by omega, by omega, ⟨fun i hi => ?_⟩⟩
  rw [hl] at hi
  obtain ⟨b, off, cs, h3, h4, h5⟩ := hat.at_ (k + i) (by omega)
  have e : (ns.drop k).getD i node0 = ns.getD (k + i) node0 := by simp [List.getD_eq_getElem?_getD, List.getElem?_drop]
  rw [e, if_neg (by omega), h3]
  refine ⟨b, off + k * 36, cs, ?_, by rw [show off + k * 36 + i * 36 = off + (k + i) * 36 by rw [Nat.add_mul]; omega]; exact h4, h5⟩
  rw [Option.map_some, addr_add]
theorem OwnSeq.leB {α : Type} {w : World} {B B' size : Nat} {T : TypeId} {E : World → α → List Value → Prop} {xs : List α} {v : Value} (h : OwnSeq w B T size E xs v) (hb : B' ≤ B) : OwnSeq w B' T size E xs v := by
  obtain ⟨us, h1, h2⟩ := h
  exact ⟨us, own_le h1 hb, h2⟩
end Go.Proofs.YtefabpgfhghpgaaDoor
end

section
/- The walk of TreeErrors. Printed by wip/mktx.py. -/
namespace Go.Proofs.YtefabpgfhghpgaaDoor
open Go.RowKit Go.My

theorem node_loadT {w : World} {b o : Nat} {cs : List Value} (h : w.rangeAt b o cs) (hl : cs.length = 36) : ∀ W, Ext No w W → (Instr.loadAt 42 (.pointer (some ⟨b, o, none⟩))).run Tryd.prog W = .ok (.agg cs.toArray) W := fun W hW =>
  run_loadAt_mid (P := Tryd.prog) W b o 42 cs _ (rangeAt.ext0 h hW) Tryd.underlying42 rfl (by rw [hl]; exact info42)
def Fd (nm : List UInt8) (cs : List Value) : Prop := cs.length = 36 ∧ cs.toArray.all (·.oneCell') = true ∧ cs[0]? = some (.string (strB nm))
theorem te_info {cs : List Value} (h : cs.length = 36) : (Tryd.prog.info? 42).map (·.size) = some cs.toArray.size := by rw [List.size_toArray, h]; exact info42
theorem te_size {cs : List Value} (h : cs.length = 36) : (nodeV node0 (.slice none 0 0)).toArray.size = cs.toArray.size := by rw [List.size_toArray, List.size_toArray, h]; rfl
theorem Fd.of {w : World} {n : NodeL} {cs : List Value} (h : IsNode w n cs) : Fd n.name cs := ⟨h.length, h.one, by obtain ⟨⟨pv, h1, -⟩, -⟩ := h; rw [h1]; rfl⟩
theorem at_fit2 (i : Int) (n : Nat) (h : 0 < n) : ∃ q : Nat, (bits .and .i64 i 255).tmod (n : Int) = (q : Int) ∧ q < n := by
  have h1 := i64_mask i 8 (by decide)
  rw [show (((2 ^ 8 - 1 : Nat) : Int)) = 255 from rfl] at h1
  rw [h1]
  have h2 : 0 ≤ i % ((2 ^ 8 : Nat) : Int) := Int.emod_nonneg _ (by decide)
  generalize i % ((2 ^ 8 : Nat) : Int) = m at *
  rw [Int.tmod_eq_emod_of_nonneg h2]
  have h4 := Int.emod_nonneg m (show (n : Int) ≠ 0 by omega)
  have h5 := Int.emod_lt_of_pos m (show 0 < (n : Int) by omega)
  generalize m % (n : Int) = z at *
  exact ⟨z.toNat, by omega, by omega⟩
def TerV7 (cs : List Value) (b off n c q lb : Nat) : Nat → Value → Prop
  | 0, v => v = .slice (some ⟨b, off, none⟩) n c
  | 1, v => v = .int .i64 (q : Int)
  | 2, v => v = .pointer (some ⟨b, off + q * 36, none⟩)
  | 3, v => v = .agg cs.toArray
  | 4, v => v = .slice (some ⟨b, off, none⟩) n c
  | 5, v => v = .int .i64 (q : Int)
  | 6, v => v = .pointer (some ⟨b, off + q * 36, none⟩)
  | 7, v => v = .agg cs.toArray
  | _, _ => True
def TerV12 (ns : List NodeL) (wo : World) (B b off n c q q1 lb : Nat) : Nat → Value → World → Prop
  | 0, v, w => ∃ g, v = .slice (some ⟨g, 0, none⟩) 0 0 ∧ OwnSeq w B 42 36 (fun _ => IsNode wo) [] (.slice (some ⟨g, 0, none⟩) 0 0)
  | 1, v, w => v = .slice (some ⟨b, off, none⟩) n c
  | 2, v, w => v = .int .i64 (q : Int)
  | 3, v, w => v = .int .i64 (q1 : Int)
  | 4, v, w => ∃ ad m d, v = .slice ad m d ∧ IsNodes wo (ns.take q1) (.slice ad m d)
  | 5, v, w => OwnSeq w B 42 36 (fun _ => IsNode wo) (ns.take q1) v
  | 6, v, w => v = .slice (some ⟨b, off, none⟩) n c
  | 7, v, w => v = .int .i64 (q : Int)
  | 8, v, w => ∃ ad m d, v = .slice ad m d ∧ IsNodes wo (ns.drop q) (.slice ad m d)
  | _, _, _ => True
theorem TerV12_ext (ns : List NodeL) (wo : World) (B b off n c q q1 lb : Nat) : ∀ i v w w', TerV12 ns wo B b off n c q q1 lb i v w → Ext No w w' → TerV12 ns wo B b off n c q q1 lb i v w'
  | 0, _, _, _, h, x => (by obtain ⟨g, h1, h2⟩ := h; exact ⟨g, h1, h2.ext x (fun _ _ s => s) (fun _ _ h => h)⟩)
  | 1, _, _, _, h, _ => h
  | 2, _, _, _, h, _ => h
  | 3, _, _, _, h, _ => h
  | 4, _, _, _, h, x => h
  | 5, _, _, _, h, x => (OwnSeq.ext (S := No) (show OwnSeq _ B 42 36 (fun _ => IsNode wo) (ns.take q1) _ from h) x (fun _ _ s => s) (fun _ _ h => h))
  | 6, _, _, _, h, _ => h
  | 7, _, _, _, h, _ => h
  | 8, _, _, _, h, x => h
  | _ + 9, _, _, _, _, _ => trivial
def TerV13 (ns : List NodeL) (wo : World) (B b off n c q q1 lb : Nat) : Nat → Value → World → Prop
  | 0, v, w => ∃ g, v = .slice (some ⟨g, 0, none⟩) 0 0 ∧ OwnSeq w B 42 36 (fun _ => IsNode wo) [] (.slice (some ⟨g, 0, none⟩) 0 0)
  | 1, v, w => v = .slice (some ⟨b, off, none⟩) n c
  | 2, v, w => v = .int .i64 (q : Int)
  | 3, v, w => ∃ ad m d, v = .slice ad m d ∧ IsNodes wo (ns.take q) (.slice ad m d)
  | 4, v, w => OwnSeq w B 42 36 (fun _ => IsNode wo) (ns.take q) v
  | 5, v, w => v = .slice (some ⟨b, off, none⟩) n c
  | 6, v, w => v = .int .i64 (q : Int)
  | 7, v, w => v = .int .i64 (q1 : Int)
  | 8, v, w => ∃ ad m d, v = .slice ad m d ∧ IsNodes wo (ns.drop q1) (.slice ad m d)
  | _, _, _ => True
theorem TerV13_ext (ns : List NodeL) (wo : World) (B b off n c q q1 lb : Nat) : ∀ i v w w', TerV13 ns wo B b off n c q q1 lb i v w → Ext No w w' → TerV13 ns wo B b off n c q q1 lb i v w'
  | 0, _, _, _, h, x => (by obtain ⟨g, h1, h2⟩ := h; exact ⟨g, h1, h2.ext x (fun _ _ s => s) (fun _ _ h => h)⟩)
  | 1, _, _, _, h, _ => h
  | 2, _, _, _, h, _ => h
  | 3, _, _, _, h, x => h
  | 4, _, _, _, h, x => (OwnSeq.ext (S := No) (show OwnSeq _ B 42 36 (fun _ => IsNode wo) (ns.take q) _ from h) x (fun _ _ s => s) (fun _ _ h => h))
  | 5, _, _, _, h, _ => h
  | 6, _, _, _, h, _ => h
  | 7, _, _, _, h, _ => h
  | 8, _, _, _, h, x => h
  | _ + 9, _, _, _, _, _ => trivial
def TerV14 (nm : List UInt8) (b off n c q lb : Nat) : Nat → Value → Prop
  | 0, v => v = .slice (some ⟨b, off, none⟩) n c
  | 1, v => v = .slice (some ⟨b, off, none⟩) n c
  | 2, v => v = .int .i64 (q : Int)
  | 3, v => v = .pointer (some ⟨b, off + q * 36, none⟩)
  | 4, v => v = .pointer (some ⟨b, off + q * 36, none⟩)
  | 5, v => v = .string (strB nm)
  | 6, v => ∃ cs5 : List Value, v = .tuple #[.agg cs5.toArray, .bool true] ∧ Fd nm cs5
  | 7, v => ∃ cs5 : List Value, v = .tuple #[.agg cs5.toArray, .bool true] ∧ Fd nm cs5
  | 8, v => ∃ cs5 : List Value, v = .agg cs5.toArray ∧ Fd nm cs5
  | 9, v => v = .bool true
  | 12, v => v = .bool true
  | _, _ => True
def TerV16 (nm : List UInt8) (cs6 cs7 : List Value) (b off n c q lb p6 p7 p10 m8 c8 m9 c9 : Nat) (a8 a9 : Option Addr) : Nat → Value → World → Prop
  | 0, v, w => v = .func (.func 15) #[] #[.pointer (some ⟨lb, 0, none⟩), .pointer (some ⟨lb + 1, 0, none⟩)]
  | 1, v, w => v = .agg cs6.toArray
  | 2, v, w => v = .int .i64 38
  | 3, v, w => v = .bool true
  | 4, v, w => v = .bool true
  | 5, v, w => v = .func (.func 15) #[] #[.pointer (some ⟨lb, 0, none⟩), .pointer (some ⟨lb + 1, 0, none⟩)]
  | 6, v, w => v = .agg cs7.toArray
  | 7, v, w => v = .int .i64 21
  | 8, v, w => v = .bool true
  | 9, v, w => v = .bool true
  | 10, v, w => v = .bool true
  | 11, v, w => v = .slice a8 m8 c8
  | 12, v, w => v = .int .i64 24
  | 13, v, w => v = .bool true
  | 14, v, w => v = .bool true
  | 15, v, w => v = .bool true
  | 16, v, w => v = .slice a9 m9 c9
  | 17, v, w => v = .int .i64 0
  | 18, v, w => v = .bool true
  | 19, v, w => v = .bool true
  | 20, v, w => v = .bool true
  | 21, v, w => v = .bool true
  | 22, v, w => v = .bool true
  | 23, v, w => v = .bool true
  | 24, v, w => v = .pointer (some ⟨p10, 0, none⟩)
  | 25, v, w => v = .string (strB nm)
  | 26, v, w => v = .slice (some ⟨b, off, none⟩) n c
  | 27, v, w => v = .int .i64 (q : Int)
  | 28, v, w => v = .pointer (some ⟨b, off + q * 36, none⟩)
  | 29, v, w => v = .pointer (some ⟨b, off + q * 36, none⟩)
  | 30, v, w => v = .string (strB nm)
  | 31, v, w => v = .bool true
  | 32, v, w => v = .bool true
  | 33, v, w => v = .bool true
  | 34, v, w => v = .bool false
  | 35, v, w => v = .bool true
  | 36, v, w => v = .bool true
  | _, _, _ => True
theorem TerV16_ext (nm : List UInt8) (cs6 cs7 : List Value) (b off n c q lb p6 p7 p10 m8 c8 m9 c9 : Nat) (a8 a9 : Option Addr) : ∀ i v w w', TerV16 nm cs6 cs7 b off n c q lb p6 p7 p10 m8 c8 m9 c9 a8 a9 i v w → Ext No w w' → TerV16 nm cs6 cs7 b off n c q lb p6 p7 p10 m8 c8 m9 c9 a8 a9 i v w'
  | 0, _, _, _, h, _ => h
  | 1, _, _, _, h, _ => h
  | 2, _, _, _, h, _ => h
  | 3, _, _, _, h, _ => h
  | 4, _, _, _, h, _ => h
  | 5, _, _, _, h, _ => h
  | 6, _, _, _, h, _ => h
  | 7, _, _, _, h, _ => h
  | 8, _, _, _, h, _ => h
  | 9, _, _, _, h, _ => h
  | 10, _, _, _, h, _ => h
  | 11, _, _, _, h, _ => h
  | 12, _, _, _, h, _ => h
  | 13, _, _, _, h, _ => h
  | 14, _, _, _, h, _ => h
  | 15, _, _, _, h, _ => h
  | 16, _, _, _, h, _ => h
  | 17, _, _, _, h, _ => h
  | 18, _, _, _, h, _ => h
  | 19, _, _, _, h, _ => h
  | 20, _, _, _, h, _ => h
  | 21, _, _, _, h, _ => h
  | 22, _, _, _, h, _ => h
  | 23, _, _, _, h, _ => h
  | 24, _, _, _, h, _ => h
  | 25, _, _, _, h, _ => h
  | 26, _, _, _, h, _ => h
  | 27, _, _, _, h, _ => h
  | 28, _, _, _, h, _ => h
  | 29, _, _, _, h, _ => h
  | 30, _, _, _, h, _ => h
  | 31, _, _, _, h, _ => h
  | 32, _, _, _, h, _ => h
  | 33, _, _, _, h, _ => h
  | 34, _, _, _, h, _ => h
  | 35, _, _, _, h, _ => h
  | 36, _, _, _, h, _ => h
  | _ + 37, _, _, _, _, _ => trivial
def nd6 (n : NodeL) : NodeL := ⟨[97, 47, 98], n.dir, n.size, n.parts, n.sub⟩
def nd7 (n : NodeL) : NodeL := if n.dir then ⟨n.name, n.dir, 1, n.parts, n.sub⟩ else ⟨n.name, n.dir, n.size, n.parts, idK 1⟩
theorem nd7_bad (n : NodeL) : nodeE (nd7 n) = 21 := by
  cases hd : n.dir
  · have e : nd7 n = ⟨n.name, false, n.size, n.parts, idK 1⟩ := by unfold nd7; rw [hd]; rfl
    rw [e]; unfold nodeE; rw [if_pos (.inr ⟨rfl, .inr (show idK 1 ≠ zero32 by decide)⟩)]
  · have e : nd7 n = ⟨n.name, true, 1, n.parts, n.sub⟩ := by unfold nd7; rw [hd]; rfl
    rw [e]; unfold nodeE; rw [if_pos (.inl ⟨rfl, .inl (show (1 : Int) ≠ 0 by decide)⟩)]
theorem nd7_name (n : NodeL) : (nd7 n).name = n.name := by unfold nd7; split <;> rfl
theorem node_set6 {w : World} {n : NodeL} {cs : List Value} (h : IsNode w n cs) : IsNode w (nd6 n) (cs.set 0 (.string (strB [97, 47, 98]))) := by
  obtain ⟨⟨pv, h1, h2⟩, h3, h4, h5⟩ := h
  exact ⟨⟨pv, by rw [h1]; rfl, h2⟩, h3, h4, h5⟩
theorem node_set7a {w : World} {n : NodeL} {cs : List Value} (h : IsNode w n cs) (hd : n.dir = true) : IsNode w (nd7 n) (cs.set 2 (.int .i64 1)) := by
  obtain ⟨⟨pv, h1, h2⟩, h3, h4, h5⟩ := h
  unfold nd7
  rw [if_pos hd]
  exact ⟨⟨pv, by rw [h1]; rfl, h2⟩, h3, (show (-9223372036854775808 : Int) ≤ 1 by decide), (show (1 : Int) ≤ 9223372036854775807 by decide)⟩
theorem node_set7b {w : World} {n : NodeL} {cs : List Value} (h : IsNode w n cs) (hd : n.dir = false) : IsNode w (nd7 n) (cs.take 4 ++ byts (idK 1)) := by
  obtain ⟨⟨pv, h1, h2⟩, h3, h4, h5⟩ := h
  unfold nd7
  rw [if_neg (by rw [hd]; decide)]
  exact ⟨⟨pv, by rw [h1]; rfl, h2⟩, (show (idK 1).length = 32 from rfl), h4, h5⟩
structure TeSt (w W : World) (lb p6 p7 q : Nat) (LV : Value) (cs6 cs7 : List Value) (nd : NodeL) : Prop where
  ext : Ext No w W
  bl : Blk W lb #[LV] 22
  bi : Blk W (lb + 1) #[.int .i64 (q : Int)] 3
  b6 : Blk W p6 cs6.toArray 42
  b7 : Blk W p7 cs7.toArray 42
  n7 : IsNode W (nd7 nd) cs7
theorem TeSt.go {w W W' : World} {lb p6 p7 q : Nat} {LV : Value} {cs6 cs7 : List Value} {nd : NodeL} (h : TeSt w W lb p6 p7 q LV cs6 cs7 nd) (x : Ext No W W') : TeSt w W' lb p6 p7 q LV cs6 cs7 nd :=
  ⟨h.ext.trans' x, h.bl.ext x (fun s => s), h.bi.ext x (fun s => s), h.b6.ext x (fun s => s), h.b7.ext x (fun s => s), h.n7.ext0 x⟩
theorem TeSt.cl {w W : World} {lb p6 p7 q : Nat} {LV : Value} {cs6 cs7 : List Value} {nd : NodeL} (h : TeSt w W lb p6 p7 q LV cs6 cs7 nd) : W.cell? ⟨lb, 0, none⟩ = some LV := by rw [h.bl.cell]; rfl
theorem TeSt.ci {w W : World} {lb p6 p7 q : Nat} {LV : Value} {cs6 cs7 : List Value} {nd : NodeL} (h : TeSt w W lb p6 p7 q LV cs6 cs7 nd) : W.cell? ⟨lb + 1, 0, none⟩ = some (.int .i64 (q : Int)) := by rw [h.bi.cell]; rfl
set_option maxRecDepth 100000 in
set_option maxHeartbeats 16000000 in
theorem treeErrors_fr (ns : List NodeL) (v0 : Value) (i : Int) (w : World) (hx : IsNodes w ns v0 ∧ ∀ n ∈ ns, n.name.length ≤ 9223372036854775807) (_lo : -9223372036854775808 ≤ i) (_hi : i ≤ 9223372036854775807) :
    Calls Tryd.prog 4 #[v0, .int .i64 i] w fun e w' => e = .returned (.bool true) ∧ Ext No w w' := by
  obtain ⟨a, n, c, rfl, hn⟩ := nodes_form hx.1
  obtain ⟨w0, hw0⟩ : ∃ w0, (w.alloc (.cells #[.slice a n c] 22)).alloc (.cells #[.int .i64 i] 3) = w0 := ⟨_, rfl⟩
  have hE0 : Ext No w w0 := by rw [← hw0]; exact ((Ext.refl No w).alloc _).alloc _
  have hl0 : Blk w0 w.heap.size #[.slice a n c] 22 := by rw [← hw0]; exact (Blk.new _ _ _).alloc _
  have hi0 : Blk w0 (w.heap.size + 1) #[.int .i64 i] 3 := by
    have := Blk.new (w.alloc (.cells #[.slice a n c] 22)) #[.int .i64 i] 3
    rw [World.size_alloc, hw0] at this; exact this
  have HX := Lib.hid hx; have HN := Lib.hid hn; have HE0 := Lib.hid hE0; have HL0 := Lib.hid hl0; have HI0 := Lib.hid hi0; have HW0 := Lib.hid hw0
  clear hx hn hE0 hl0 hi0 hw0
  go_enter Tryd.func4, Tryd.ntmps4
  go_wp2_with fail
  rw [HW0.out]
  obtain ⟨lb, hlb⟩ : ∃ lb, w.heap.size = lb := ⟨_, rfl⟩
  rw [hlb] at HL0 HI0 ⊢
  have HLB := Lib.hid hlb
  clear hlb HW0
  refine (alive_any w0).mono ?_
  rintro e w1 ⟨rfl, hE1⟩
  have HE1 := Lib.hid (HE0.out.trans' hE1); have HL1 := Lib.hid (HL0.out.ext hE1 (fun s => s)); have HI1 := Lib.hid (HI0.out.ext hE1 (fun s => s))
  have d1 : w1.cell? ⟨lb, 0, none⟩ = some (.slice a n c) := by rw [HL1.out.cell]; rfl
  clear hE1 HE0 HL0 HI0
  dsimp only
  by_cases hn0 : n = 0
  · have hn0I : ((n : Int) == 0) = true := by rw [hn0]; rfl
    have HN0 := Lib.hid hn0
    clear hn0
    go_wp2_with fail
    go_ret
    exact ⟨rfl, HE1.out⟩
  by_cases hn30 : 30 < n
  · have hn0I : ((n : Int) == 0) = false := by simp; omega
    have hn30I : decide ((30 : Int) < n) = true := by simp; omega
    go_wp2_with fail
    go_ret
    exact ⟨rfl, HE1.out⟩
  have HN30 := Lib.hid hn30
  have hn0I : ((n : Int) == 0) = false := by simp; omega
  have hn0J : ¬ (n : Int) = 0 := by omega
  have hn30I : decide ((30 : Int) < n) = false := by simp; omega
  go_wp2_with fail
  refine (few_any ns _ w1 (HX.out.1.ext0 HE1.out) HX.out.2).mono ?_
  rintro e w2 ⟨rfl, hE2⟩
  have HE2 := Lib.hid (HE1.out.trans' hE2); have HL2 := Lib.hid (HL1.out.ext hE2 (fun s => s)); have HI2 := Lib.hid (HI1.out.ext hE2 (fun s => s))
  have d2 : w2.cell? ⟨lb, 0, none⟩ = some (.slice a n c) := by rw [HL2.out.cell]; rfl
  clear hE2 HE1 HL1 HI1 d1
  dsimp only
  cases hfx : fewB ns
  · go_wp2_with fail
    go_ret
    exact ⟨rfl, HE2.out⟩
  have HFX := Lib.hid hfx
  have HNL := Lib.hid (show ∀ m ∈ ns, m.name.length ≤ 1000000000 from fun m hm => by have := ((few_ok hfx).2 m hm).2; omega)
  clear hfx
  go_wp2_with fail
  refine (tcheck_any ns _ w2 (HX.out.1.ext0 HE2.out) HNL.out).mono ?_
  rintro e w3 ⟨rfl, hE3⟩
  have HE3 := Lib.hid (HE2.out.trans' hE3); have HL3 := Lib.hid (HL2.out.ext hE3 (fun s => s)); have HI3 := Lib.hid (HI2.out.ext hE3 (fun s => s))
  have d3 : w3.cell? ⟨lb, 0, none⟩ = some (.slice a n c) := by rw [HL3.out.cell]; rfl
  have d4 : w3.cell? ⟨lb + 1, 0, none⟩ = some (.int .i64 i) := by rw [HI3.out.cell]; rfl
  have d5 : w3.frozen? ⟨lb + 1, 0, none⟩ = false := HI3.out.free 0
  clear hE3 HE2 HL2 HI2 d2
  dsimp only
  by_cases hok : nodesE ns = 0
  case neg =>
    have hokb : (nodesE ns == 0) = false := by simpa using hok
    go_wp2_with fail
    go_ret
    exact ⟨rfl, HE3.out⟩
  rw [hok]
  obtain ⟨q, hq, hqn⟩ := at_fit2 i n (by omega)
  have HOK := Lib.hid hok; have HQN := Lib.hid hqn
  clear hok hqn
  go_wp2_with fail
  obtain ⟨w5, hw5⟩ : ∃ w5, w3.setCell ⟨lb + 1, 0, none⟩ (.int .i64 (q : Int)) = w5 := ⟨_, rfl⟩
  rw [hw5]
  have hx35 : Ext (fun j => j = lb + 1) w3 w5 := by rw [← hw5]; exact (Ext.refl _ w3).setCell _ _ (fun _ => rfl)
  have hE5 : Ext No w w5 := HE3.out.trans hx35 (fun _ _ s => s) (fun j hj h => by have := HLB.out; omega)
  have hl5 : Blk w5 lb #[.slice a n c] 22 := HL3.out.ext hx35 (fun h => by omega)
  have hi5 : Blk w5 (lb + 1) #[.int .i64 (q : Int)] 3 := by rw [← hw5]; exact Blk.set HI3.out 0 _
  obtain ⟨nd, hnd0⟩ : ∃ nd, ns.getD q node0 = nd := ⟨_, rfl⟩
  obtain ⟨b, off, cs, rfl, hra, hnd⟩ : ∃ b off cs, a = some ⟨b, off, none⟩ ∧ w.rangeAt b (off + q * 36) cs ∧ IsNode w nd cs := by
    obtain ⟨a0, c0, ha0, -, -, hat⟩ := id HX.out.1
    obtain ⟨b, off, cs, ha1, h1, h2⟩ := hat.at_ q (by rw [← HN.out]; exact HQN.out)
    rw [hnd0] at h2
    cases ha0; exact ⟨b, off, cs, ha1, h1, h2⟩
  have HCL := Lib.hid (fun W (h : Ext No w5 W) => show W.cell? ⟨lb, 0, none⟩ = some (.slice (some ⟨b, off, none⟩) n c) by rw [(hl5.ext h (fun s => s)).cell]; rfl)
  have HCI := Lib.hid (fun W (h : Ext No w5 W) => show W.cell? ⟨lb + 1, 0, none⟩ = some (.int .i64 (q : Int)) by rw [(hi5.ext h (fun s => s)).cell]; rfl)
  have h36 := hnd.length
  have HL42 := Lib.hid (fun W (h : Ext No w5 W) => node_loadT (rangeAt.ext0 hra hE5) h36 W h)
  have HI36 := Lib.hid (show (Tryd.prog.info? 42).map (·.size) = some cs.toArray.size by rw [List.size_toArray, h36]; exact info42)
  have HZ36 := Lib.hid (show (nodeV node0 (.slice none 0 0)).toArray.size = cs.toArray.size by rw [List.size_toArray, List.size_toArray, h36]; rfl)
  have HONE := Lib.hid hnd.one
  have HE5 := Lib.hid hE5; have HL5 := Lib.hid hl5; have HI5 := Lib.hid hi5; have HND := Lib.hid hnd; have HND0 := Lib.hid hnd0; have HRA := Lib.hid hra; have H36 := Lib.hid h36
  have hqn := HQN.out
  have hqnI : (q : Int) < n := by omega
  clear hw5 hx35 hE5 hl5 hi5 hnd0 hra hnd h36 HE3 HL3 HI3 d3 d4 d5 hq hn0I hn0J hn30I hn0 hn30
  refine wp_region_copy (TerV7 cs b off n c q lb) [(8, 42, (nodeV node0 (.slice none 0 0)).toArray), (9, 42, (nodeV node0 (.slice none 0 0)).toArray)] [(10, 8, fun X => X = cs.toArray), (11, 9, fun X => X = cs.toArray)] (by kernel_rfl) (by kernel_rfl) (CopySteps.rdC rfl rfl ?_ (CopySteps.rdC rfl rfl ?_ (CopySteps.rdC rfl rfl ?_ (CopySteps.rdC rfl rfl ?_ (CopySteps.rdC rfl rfl ?_ (CopySteps.rdC rfl rfl ?_ (CopySteps.rdC rfl rfl ?_ (CopySteps.rdC rfl rfl ?_ (CopySteps.alC rfl rfl ?_ (CopySteps.alC rfl rfl ?_ (CopySteps.stC rfl rfl rfl ?_ (CopySteps.stC rfl rfl rfl ?_ CopySteps.nil)))))))))))) ?_
  · -- slot 40
    intro ac wk hx hsame hdep K hK
    have d2 : ac.tmps.getD 2 undef = .pointer (some ⟨lb, 0, none⟩) := hsame 2 (by kernel_rfl)
    have e2 := d2
    rw [Array.getD_eq_getD_getElem?] at e2
    clear hsame hdep
    have hc := HCL.out wk (Dr.extN hx)
    go_simp
    exact hK _ _ (Ext.refl _ wk) rfl
  · -- slot 41
    intro ac wk hx hsame hdep K hK
    have d3 : ac.tmps.getD 3 undef = .pointer (some ⟨lb + 1, 0, none⟩) := hsame 3 (by kernel_rfl)
    have e3 := d3
    rw [Array.getD_eq_getD_getElem?] at e3
    clear hsame hdep
    have hc := HCI.out wk (Dr.extN hx)
    go_simp
    exact hK _ _ (Ext.refl _ wk) rfl
  · -- slot 42
    intro ac wk hx hsame hdep K hK
    have d40 : ac.tmps.getD 40 undef = .slice (some ⟨b, off, none⟩) n c := hdep 0 (by kernel_rfl)
    have e40 := d40
    rw [Array.getD_eq_getD_getElem?] at e40
    have d41 : ac.tmps.getD 41 undef = .int .i64 (q : Int) := hdep 1 (by kernel_rfl)
    have e41 := d41
    rw [Array.getD_eq_getD_getElem?] at e41
    clear hsame hdep
    go_simp
    exact hK _ _ (Ext.refl _ wk) rfl
  · -- slot 43
    intro ac wk hx hsame hdep K hK
    have d42 : ac.tmps.getD 42 undef = .pointer (some ⟨b, off + q * 36, none⟩) := hdep 2 (by kernel_rfl)
    have e42 := d42
    rw [Array.getD_eq_getD_getElem?] at e42
    clear hsame hdep
    exact wp_load_known _ _ rfl d42 (HL42.out wk (Dr.extN hx)) (hK _ _ (Ext.refl _ wk) rfl)
  · -- slot 44
    intro ac wk hx hsame hdep K hK
    have d2 : ac.tmps.getD 2 undef = .pointer (some ⟨lb, 0, none⟩) := hsame 2 (by kernel_rfl)
    have e2 := d2
    rw [Array.getD_eq_getD_getElem?] at e2
    clear hsame hdep
    have hc := HCL.out wk (Dr.extN hx)
    go_simp
    exact hK _ _ (Ext.refl _ wk) rfl
  · -- slot 45
    intro ac wk hx hsame hdep K hK
    have d3 : ac.tmps.getD 3 undef = .pointer (some ⟨lb + 1, 0, none⟩) := hsame 3 (by kernel_rfl)
    have e3 := d3
    rw [Array.getD_eq_getD_getElem?] at e3
    clear hsame hdep
    have hc := HCI.out wk (Dr.extN hx)
    go_simp
    exact hK _ _ (Ext.refl _ wk) rfl
  · -- slot 46
    intro ac wk hx hsame hdep K hK
    have d44 : ac.tmps.getD 44 undef = .slice (some ⟨b, off, none⟩) n c := hdep 4 (by kernel_rfl)
    have e44 := d44
    rw [Array.getD_eq_getD_getElem?] at e44
    have d45 : ac.tmps.getD 45 undef = .int .i64 (q : Int) := hdep 5 (by kernel_rfl)
    have e45 := d45
    rw [Array.getD_eq_getD_getElem?] at e45
    clear hsame hdep
    go_simp
    exact hK _ _ (Ext.refl _ wk) rfl
  · -- slot 47
    intro ac wk hx hsame hdep K hK
    have d46 : ac.tmps.getD 46 undef = .pointer (some ⟨b, off + q * 36, none⟩) := hdep 6 (by kernel_rfl)
    have e46 := d46
    rw [Array.getD_eq_getD_getElem?] at e46
    clear hsame hdep
    exact wp_load_known _ _ rfl d46 (HL42.out wk (Dr.extN hx)) (hK _ _ (Ext.refl _ wk) rfl)
  · -- slot 6
    intro ac wk K hK
    go_simp
    exact hK
  · -- slot 7
    intro ac wk K hK
    go_simp
    exact hK
  · -- store
    intro ac wk p X hp hb hz hdep K hK
    have dv : ac.tmps.getD 43 undef = .agg cs.toArray := hdep 3 (by kernel_rfl)
    exact wp_store_blk 42 (.tmp 6) (.tmp 43) rfl rfl hp dv hb HI36.out (hz.trans HZ36.out) HONE.out (hK _ rfl HZ36.out.symm)
  · -- store
    intro ac wk p X hp hb hz hdep K hK
    have dv : ac.tmps.getD 47 undef = .agg cs.toArray := hdep 7 (by kernel_rfl)
    exact wp_store_blk 42 (.tmp 7) (.tmp 47) rfl rfl hp dv hb HI36.out (hz.trans HZ36.out) HONE.out (hK _ rfl HZ36.out.symm)
  · intro ac wk hx hdf hsz hsame hvals hals hsep
    obtain ⟨u0, f0⟩ : ∃ u, ac.tmps.getD 0 undef = u := ⟨_, rfl⟩
    obtain ⟨u1, f1⟩ : ∃ u, ac.tmps.getD 1 undef = u := ⟨_, rfl⟩
    have f2 : ac.tmps.getD 2 undef = .pointer (some ⟨lb, 0, none⟩) := hsame 2 (by kernel_rfl)
    have f3 : ac.tmps.getD 3 undef = .pointer (some ⟨lb + 1, 0, none⟩) := hsame 3 (by kernel_rfl)
    have f4 : ac.tmps.getD 4 undef = .bool false := hsame 4 (by kernel_rfl)
    have f5 : ac.tmps.getD 5 undef = .func (.func 15) #[] #[.pointer (some ⟨lb, 0, none⟩), .pointer (some ⟨lb + 1, 0, none⟩)] := hsame 5 (by kernel_rfl)
    obtain ⟨p6, X6, g6, hp6, hb6, hs6, hn6⟩ := hals 8 _ _ (by decide) rfl rfl
    have f6 : ac.tmps.getD 6 undef = .pointer (some ⟨p6, 0, none⟩) := g6
    clear g6
    obtain rfl := hs6 10 _ (by decide) rfl
    clear hs6 hn6
    obtain ⟨p7, X7, g7, hp7, hb7, hs7, hn7⟩ := hals 9 _ _ (by decide) rfl rfl
    have f7 : ac.tmps.getD 7 undef = .pointer (some ⟨p7, 0, none⟩) := g7
    clear g7
    obtain rfl := hs7 11 _ (by decide) rfl
    clear hs7 hn7
    obtain ⟨u8, f8⟩ : ∃ u, ac.tmps.getD 8 undef = u := ⟨_, rfl⟩
    obtain ⟨u9, f9⟩ : ∃ u, ac.tmps.getD 9 undef = u := ⟨_, rfl⟩
    obtain ⟨u10, f10⟩ : ∃ u, ac.tmps.getD 10 undef = u := ⟨_, rfl⟩
    obtain ⟨u11, f11⟩ : ∃ u, ac.tmps.getD 11 undef = u := ⟨_, rfl⟩
    obtain ⟨u12, f12⟩ : ∃ u, ac.tmps.getD 12 undef = u := ⟨_, rfl⟩
    obtain ⟨u13, f13⟩ : ∃ u, ac.tmps.getD 13 undef = u := ⟨_, rfl⟩
    obtain ⟨u14, f14⟩ : ∃ u, ac.tmps.getD 14 undef = u := ⟨_, rfl⟩
    obtain ⟨u15, f15⟩ : ∃ u, ac.tmps.getD 15 undef = u := ⟨_, rfl⟩
    obtain ⟨u16, f16⟩ : ∃ u, ac.tmps.getD 16 undef = u := ⟨_, rfl⟩
    obtain ⟨u17, f17⟩ : ∃ u, ac.tmps.getD 17 undef = u := ⟨_, rfl⟩
    obtain ⟨u18, f18⟩ : ∃ u, ac.tmps.getD 18 undef = u := ⟨_, rfl⟩
    obtain ⟨u19, f19⟩ : ∃ u, ac.tmps.getD 19 undef = u := ⟨_, rfl⟩
    obtain ⟨u20, f20⟩ : ∃ u, ac.tmps.getD 20 undef = u := ⟨_, rfl⟩
    obtain ⟨u21, f21⟩ : ∃ u, ac.tmps.getD 21 undef = u := ⟨_, rfl⟩
    obtain ⟨u22, f22⟩ : ∃ u, ac.tmps.getD 22 undef = u := ⟨_, rfl⟩
    obtain ⟨u23, f23⟩ : ∃ u, ac.tmps.getD 23 undef = u := ⟨_, rfl⟩
    obtain ⟨u24, f24⟩ : ∃ u, ac.tmps.getD 24 undef = u := ⟨_, rfl⟩
    obtain ⟨u25, f25⟩ : ∃ u, ac.tmps.getD 25 undef = u := ⟨_, rfl⟩
    obtain ⟨u26, f26⟩ : ∃ u, ac.tmps.getD 26 undef = u := ⟨_, rfl⟩
    obtain ⟨u27, f27⟩ : ∃ u, ac.tmps.getD 27 undef = u := ⟨_, rfl⟩
    obtain ⟨u28, f28⟩ : ∃ u, ac.tmps.getD 28 undef = u := ⟨_, rfl⟩
    obtain ⟨u29, f29⟩ : ∃ u, ac.tmps.getD 29 undef = u := ⟨_, rfl⟩
    obtain ⟨u30, f30⟩ : ∃ u, ac.tmps.getD 30 undef = u := ⟨_, rfl⟩
    obtain ⟨u31, f31⟩ : ∃ u, ac.tmps.getD 31 undef = u := ⟨_, rfl⟩
    obtain ⟨u32, f32⟩ : ∃ u, ac.tmps.getD 32 undef = u := ⟨_, rfl⟩
    obtain ⟨u33, f33⟩ : ∃ u, ac.tmps.getD 33 undef = u := ⟨_, rfl⟩
    obtain ⟨u34, f34⟩ : ∃ u, ac.tmps.getD 34 undef = u := ⟨_, rfl⟩
    obtain ⟨u35, f35⟩ : ∃ u, ac.tmps.getD 35 undef = u := ⟨_, rfl⟩
    obtain ⟨u36, f36⟩ : ∃ u, ac.tmps.getD 36 undef = u := ⟨_, rfl⟩
    obtain ⟨u37, f37⟩ : ∃ u, ac.tmps.getD 37 undef = u := ⟨_, rfl⟩
    obtain ⟨u38, f38⟩ : ∃ u, ac.tmps.getD 38 undef = u := ⟨_, rfl⟩
    obtain ⟨u39, f39⟩ : ∃ u, ac.tmps.getD 39 undef = u := ⟨_, rfl⟩
    have f40 : ac.tmps.getD 40 undef = .slice (some ⟨b, off, none⟩) n c := hvals 0 (by decide) rfl rfl
    have f41 : ac.tmps.getD 41 undef = .int .i64 (q : Int) := hvals 1 (by decide) rfl rfl
    have f42 : ac.tmps.getD 42 undef = .pointer (some ⟨b, off + q * 36, none⟩) := hvals 2 (by decide) rfl rfl
    have f43 : ac.tmps.getD 43 undef = .agg cs.toArray := hvals 3 (by decide) rfl rfl
    have f44 : ac.tmps.getD 44 undef = .slice (some ⟨b, off, none⟩) n c := hvals 4 (by decide) rfl rfl
    have f45 : ac.tmps.getD 45 undef = .int .i64 (q : Int) := hvals 5 (by decide) rfl rfl
    have f46 : ac.tmps.getD 46 undef = .pointer (some ⟨b, off + q * 36, none⟩) := hvals 6 (by decide) rfl rfl
    have f47 : ac.tmps.getD 47 undef = .agg cs.toArray := hvals 7 (by decide) rfl rfl
    obtain ⟨u48, f48⟩ : ∃ u, ac.tmps.getD 48 undef = u := ⟨_, rfl⟩
    obtain ⟨u49, f49⟩ : ∃ u, ac.tmps.getD 49 undef = u := ⟨_, rfl⟩
    obtain ⟨u50, f50⟩ : ∃ u, ac.tmps.getD 50 undef = u := ⟨_, rfl⟩
    obtain ⟨u51, f51⟩ : ∃ u, ac.tmps.getD 51 undef = u := ⟨_, rfl⟩
    obtain ⟨u52, f52⟩ : ∃ u, ac.tmps.getD 52 undef = u := ⟨_, rfl⟩
    obtain ⟨u53, f53⟩ : ∃ u, ac.tmps.getD 53 undef = u := ⟨_, rfl⟩
    obtain ⟨u54, f54⟩ : ∃ u, ac.tmps.getD 54 undef = u := ⟨_, rfl⟩
    obtain ⟨u55, f55⟩ : ∃ u, ac.tmps.getD 55 undef = u := ⟨_, rfl⟩
    obtain ⟨u56, f56⟩ : ∃ u, ac.tmps.getD 56 undef = u := ⟨_, rfl⟩
    obtain ⟨u57, f57⟩ : ∃ u, ac.tmps.getD 57 undef = u := ⟨_, rfl⟩
    obtain ⟨u58, f58⟩ : ∃ u, ac.tmps.getD 58 undef = u := ⟨_, rfl⟩
    obtain ⟨u59, f59⟩ : ∃ u, ac.tmps.getD 59 undef = u := ⟨_, rfl⟩
    obtain ⟨u60, f60⟩ : ∃ u, ac.tmps.getD 60 undef = u := ⟨_, rfl⟩
    obtain ⟨u61, f61⟩ : ∃ u, ac.tmps.getD 61 undef = u := ⟨_, rfl⟩
    obtain ⟨u62, f62⟩ : ∃ u, ac.tmps.getD 62 undef = u := ⟨_, rfl⟩
    obtain ⟨u63, f63⟩ : ∃ u, ac.tmps.getD 63 undef = u := ⟨_, rfl⟩
    obtain ⟨u64, f64⟩ : ∃ u, ac.tmps.getD 64 undef = u := ⟨_, rfl⟩
    obtain ⟨u65, f65⟩ : ∃ u, ac.tmps.getD 65 undef = u := ⟨_, rfl⟩
    obtain ⟨u66, f66⟩ : ∃ u, ac.tmps.getD 66 undef = u := ⟨_, rfl⟩
    obtain ⟨u67, f67⟩ : ∃ u, ac.tmps.getD 67 undef = u := ⟨_, rfl⟩
    obtain ⟨u68, f68⟩ : ∃ u, ac.tmps.getD 68 undef = u := ⟨_, rfl⟩
    obtain ⟨u69, f69⟩ : ∃ u, ac.tmps.getD 69 undef = u := ⟨_, rfl⟩
    obtain ⟨u70, f70⟩ : ∃ u, ac.tmps.getD 70 undef = u := ⟨_, rfl⟩
    obtain ⟨u71, f71⟩ : ∃ u, ac.tmps.getD 71 undef = u := ⟨_, rfl⟩
    obtain ⟨u72, f72⟩ : ∃ u, ac.tmps.getD 72 undef = u := ⟨_, rfl⟩
    obtain ⟨u73, f73⟩ : ∃ u, ac.tmps.getD 73 undef = u := ⟨_, rfl⟩
    obtain ⟨u74, f74⟩ : ∃ u, ac.tmps.getD 74 undef = u := ⟨_, rfl⟩
    obtain ⟨u75, f75⟩ : ∃ u, ac.tmps.getD 75 undef = u := ⟨_, rfl⟩
    obtain ⟨u76, f76⟩ : ∃ u, ac.tmps.getD 76 undef = u := ⟨_, rfl⟩
    obtain ⟨u77, f77⟩ : ∃ u, ac.tmps.getD 77 undef = u := ⟨_, rfl⟩
    obtain ⟨u78, f78⟩ : ∃ u, ac.tmps.getD 78 undef = u := ⟨_, rfl⟩
    obtain ⟨u79, f79⟩ : ∃ u, ac.tmps.getD 79 undef = u := ⟨_, rfl⟩
    obtain ⟨u80, f80⟩ : ∃ u, ac.tmps.getD 80 undef = u := ⟨_, rfl⟩
    obtain ⟨u81, f81⟩ : ∃ u, ac.tmps.getD 81 undef = u := ⟨_, rfl⟩
    obtain ⟨u82, f82⟩ : ∃ u, ac.tmps.getD 82 undef = u := ⟨_, rfl⟩
    obtain ⟨u83, f83⟩ : ∃ u, ac.tmps.getD 83 undef = u := ⟨_, rfl⟩
    obtain ⟨u84, f84⟩ : ∃ u, ac.tmps.getD 84 undef = u := ⟨_, rfl⟩
    obtain ⟨u85, f85⟩ : ∃ u, ac.tmps.getD 85 undef = u := ⟨_, rfl⟩
    obtain ⟨u86, f86⟩ : ∃ u, ac.tmps.getD 86 undef = u := ⟨_, rfl⟩
    obtain ⟨u87, f87⟩ : ∃ u, ac.tmps.getD 87 undef = u := ⟨_, rfl⟩
    obtain ⟨u88, f88⟩ : ∃ u, ac.tmps.getD 88 undef = u := ⟨_, rfl⟩
    obtain ⟨u89, f89⟩ : ∃ u, ac.tmps.getD 89 undef = u := ⟨_, rfl⟩
    obtain ⟨u90, f90⟩ : ∃ u, ac.tmps.getD 90 undef = u := ⟨_, rfl⟩
    obtain ⟨u91, f91⟩ : ∃ u, ac.tmps.getD 91 undef = u := ⟨_, rfl⟩
    obtain ⟨u92, f92⟩ : ∃ u, ac.tmps.getD 92 undef = u := ⟨_, rfl⟩
    obtain ⟨u93, f93⟩ : ∃ u, ac.tmps.getD 93 undef = u := ⟨_, rfl⟩
    obtain ⟨u94, f94⟩ : ∃ u, ac.tmps.getD 94 undef = u := ⟨_, rfl⟩
    obtain ⟨u95, f95⟩ : ∃ u, ac.tmps.getD 95 undef = u := ⟨_, rfl⟩
    obtain ⟨u96, f96⟩ : ∃ u, ac.tmps.getD 96 undef = u := ⟨_, rfl⟩
    obtain ⟨u97, f97⟩ : ∃ u, ac.tmps.getD 97 undef = u := ⟨_, rfl⟩
    obtain ⟨u98, f98⟩ : ∃ u, ac.tmps.getD 98 undef = u := ⟨_, rfl⟩
    obtain ⟨u99, f99⟩ : ∃ u, ac.tmps.getD 99 undef = u := ⟨_, rfl⟩
    obtain ⟨u100, f100⟩ : ∃ u, ac.tmps.getD 100 undef = u := ⟨_, rfl⟩
    obtain ⟨u101, f101⟩ : ∃ u, ac.tmps.getD 101 undef = u := ⟨_, rfl⟩
    obtain ⟨u102, f102⟩ : ∃ u, ac.tmps.getD 102 undef = u := ⟨_, rfl⟩
    obtain ⟨u103, f103⟩ : ∃ u, ac.tmps.getD 103 undef = u := ⟨_, rfl⟩
    obtain ⟨u104, f104⟩ : ∃ u, ac.tmps.getD 104 undef = u := ⟨_, rfl⟩
    obtain ⟨u105, f105⟩ : ∃ u, ac.tmps.getD 105 undef = u := ⟨_, rfl⟩
    obtain ⟨u106, f106⟩ : ∃ u, ac.tmps.getD 106 undef = u := ⟨_, rfl⟩
    obtain ⟨u107, f107⟩ : ∃ u, ac.tmps.getD 107 undef = u := ⟨_, rfl⟩
    obtain ⟨u108, f108⟩ : ∃ u, ac.tmps.getD 108 undef = u := ⟨_, rfl⟩
    obtain ⟨u109, f109⟩ : ∃ u, ac.tmps.getD 109 undef = u := ⟨_, rfl⟩
    obtain ⟨u110, f110⟩ : ∃ u, ac.tmps.getD 110 undef = u := ⟨_, rfl⟩
    obtain ⟨u111, f111⟩ : ∃ u, ac.tmps.getD 111 undef = u := ⟨_, rfl⟩
    obtain ⟨u112, f112⟩ : ∃ u, ac.tmps.getD 112 undef = u := ⟨_, rfl⟩
    obtain ⟨u113, f113⟩ : ∃ u, ac.tmps.getD 113 undef = u := ⟨_, rfl⟩
    obtain ⟨u114, f114⟩ : ∃ u, ac.tmps.getD 114 undef = u := ⟨_, rfl⟩
    obtain ⟨u115, f115⟩ : ∃ u, ac.tmps.getD 115 undef = u := ⟨_, rfl⟩
    obtain ⟨u116, f116⟩ : ∃ u, ac.tmps.getD 116 undef = u := ⟨_, rfl⟩
    obtain ⟨u117, f117⟩ : ∃ u, ac.tmps.getD 117 undef = u := ⟨_, rfl⟩
    obtain ⟨u118, f118⟩ : ∃ u, ac.tmps.getD 118 undef = u := ⟨_, rfl⟩
    obtain ⟨u119, f119⟩ : ∃ u, ac.tmps.getD 119 undef = u := ⟨_, rfl⟩
    obtain ⟨u120, f120⟩ : ∃ u, ac.tmps.getD 120 undef = u := ⟨_, rfl⟩
    obtain ⟨u121, f121⟩ : ∃ u, ac.tmps.getD 121 undef = u := ⟨_, rfl⟩
    obtain ⟨u122, f122⟩ : ∃ u, ac.tmps.getD 122 undef = u := ⟨_, rfl⟩
    obtain ⟨u123, f123⟩ : ∃ u, ac.tmps.getD 123 undef = u := ⟨_, rfl⟩
    obtain ⟨u124, f124⟩ : ∃ u, ac.tmps.getD 124 undef = u := ⟨_, rfl⟩
    obtain ⟨u125, f125⟩ : ∃ u, ac.tmps.getD 125 undef = u := ⟨_, rfl⟩
    obtain ⟨u126, f126⟩ : ∃ u, ac.tmps.getD 126 undef = u := ⟨_, rfl⟩
    obtain ⟨u127, f127⟩ : ∃ u, ac.tmps.getD 127 undef = u := ⟨_, rfl⟩
    obtain ⟨u128, f128⟩ : ∃ u, ac.tmps.getD 128 undef = u := ⟨_, rfl⟩
    obtain ⟨u129, f129⟩ : ∃ u, ac.tmps.getD 129 undef = u := ⟨_, rfl⟩
    obtain ⟨u130, f130⟩ : ∃ u, ac.tmps.getD 130 undef = u := ⟨_, rfl⟩
    have hne6_7 : p6 ≠ p7 := fun e => hsep 8 9 _ _ _ _ _ (by decide) (by decide) (by decide) rfl rfl rfl rfl f6 (by rw [e]; exact f7)
    have hne7_6 : p7 ≠ p6 := fun e => hsep 9 8 _ _ _ _ _ (by decide) (by decide) (by decide) rfl rfl rfl rfl f7 (by rw [e]; exact f6)
    have hlit : ac = ⟨#[u0, u1, .pointer (some ⟨lb, 0, none⟩), .pointer (some ⟨lb + 1, 0, none⟩), .bool false, .func (.func 15) #[] #[.pointer (some ⟨lb, 0, none⟩), .pointer (some ⟨lb + 1, 0, none⟩)], .pointer (some ⟨p6, 0, none⟩), .pointer (some ⟨p7, 0, none⟩), u8, u9, u10, u11, u12, u13, u14, u15, u16, u17, u18, u19, u20, u21, u22, u23, u24, u25, u26, u27, u28, u29, u30, u31, u32, u33, u34, u35, u36, u37, u38, u39, .slice (some ⟨b, off, none⟩) n c, .int .i64 (q : Int), .pointer (some ⟨b, off + q * 36, none⟩), .agg cs.toArray, .slice (some ⟨b, off, none⟩) n c, .int .i64 (q : Int), .pointer (some ⟨b, off + q * 36, none⟩), .agg cs.toArray, u48, u49, u50, u51, u52, u53, u54, u55, u56, u57, u58, u59, u60, u61, u62, u63, u64, u65, u66, u67, u68, u69, u70, u71, u72, u73, u74, u75, u76, u77, u78, u79, u80, u81, u82, u83, u84, u85, u86, u87, u88, u89, u90, u91, u92, u93, u94, u95, u96, u97, u98, u99, u100, u101, u102, u103, u104, u105, u106, u107, u108, u109, u110, u111, u112, u113, u114, u115, u116, u117, u118, u119, u120, u121, u122, u123, u124, u125, u126, u127, u128, u129, u130], []⟩ := by
      refine (act_lit hsz hdf).trans ?_
      rw [show List.range _ = [0, 1, 2, 3, 4, 5, 6, 7, 8, 9, 10, 11, 12, 13, 14, 15, 16, 17, 18, 19, 20, 21, 22, 23, 24, 25, 26, 27, 28, 29, 30, 31, 32, 33, 34, 35, 36, 37, 38, 39, 40, 41, 42, 43, 44, 45, 46, 47, 48, 49, 50, 51, 52, 53, 54, 55, 56, 57, 58, 59, 60, 61, 62, 63, 64, 65, 66, 67, 68, 69, 70, 71, 72, 73, 74, 75, 76, 77, 78, 79, 80, 81, 82, 83, 84, 85, 86, 87, 88, 89, 90, 91, 92, 93, 94, 95, 96, 97, 98, 99, 100, 101, 102, 103, 104, 105, 106, 107, 108, 109, 110, 111, 112, 113, 114, 115, 116, 117, 118, 119, 120, 121, 122, 123, 124, 125, 126, 127, 128, 129, 130] from rfl]
      simp only [List.map_cons, List.map_nil, f0, f1, f2, f3, f4, f5, f6, f7, f8, f9, f10, f11, f12, f13, f14, f15, f16, f17, f18, f19, f20, f21, f22, f23, f24, f25, f26, f27, f28, f29, f30, f31, f32, f33, f34, f35, f36, f37, f38, f39, f40, f41, f42, f43, f44, f45, f46, f47, f48, f49, f50, f51, f52, f53, f54, f55, f56, f57, f58, f59, f60, f61, f62, f63, f64, f65, f66, f67, f68, f69, f70, f71, f72, f73, f74, f75, f76, f77, f78, f79, f80, f81, f82, f83, f84, f85, f86, f87, f88, f89, f90, f91, f92, f93, f94, f95, f96, f97, f98, f99, f100, f101, f102, f103, f104, f105, f106, f107, f108, f109, f110, f111, f112, f113, f114, f115, f116, f117, f118, f119, f120, f121, f122, f123, f124, f125, f126, f127, f128, f129, f130]
    clear hvals hsame hdf hsz hals hsep f0 f1 f2 f3 f4 f5 f6 f7 f8 f9 f10 f11 f12 f13 f14 f15 f16 f17 f18 f19 f20 f21 f22 f23 f24 f25 f26 f27 f28 f29 f30 f31 f32 f33 f34 f35 f36 f37 f38 f39 f40 f41 f42 f43 f44 f45 f46 f47 f48 f49 f50 f51 f52 f53 f54 f55 f56 f57 f58 f59 f60 f61 f62 f63 f64 f65 f66 f67 f68 f69 f70 f71 f72 f73 f74 f75 f76 f77 f78 f79 f80 f81 f82 f83 f84 f85 f86 f87 f88 f89 f90 f91 f92 f93 f94 f95 f96 f97 f98 f99 f100 f101 f102 f103 f104 f105 f106 f107 f108 f109 f110 f111 f112 f113 f114 f115 f116 f117 f118 f119 f120 f121 f122 f123 f124 f125 f126 f127 f128 f129 f130
    subst hlit
    obtain ⟨ce, hce⟩ : ∃ ce, nd.dir = ce := ⟨_, rfl⟩
    have hE6 := HE5.out.trans' hx
    have hl6 := HL5.out.ext hx (fun s => s); have hi6 := HI5.out.ext hx (fun s => s)
    have hn6 := HND.out.ext0 hE6
    have c1 : wk.cell? ⟨p7, 1, none⟩ = some (.bool nd.dir) := by
      rw [hb7.cell]; obtain ⟨⟨pv, h1, -⟩, -⟩ := HND.out; rw [h1]; rfl
    have e0 := hb6.free 0; have e2 := hb7.free 2
    have c0 : ∃ v, wk.cell? ⟨p6, 0, none⟩ = some v := by
      obtain ⟨⟨pv, h1, -⟩, -⟩ := HND.out; exact ⟨_, by rw [hb6.cell, h1]; rfl⟩
    have c2 : ∃ v, wk.cell? ⟨p7, 2, none⟩ = some v := by
      obtain ⟨⟨pv, h1, -⟩, -⟩ := HND.out; exact ⟨_, by rw [hb7.cell, h1]; rfl⟩
    obtain ⟨y0, c0⟩ := c0; obtain ⟨y2, c2⟩ := c2
    have HB6 := Lib.hid hb6; have HB7 := Lib.hid hb7; have HE6 := Lib.hid hE6; have HL6 := Lib.hid hl6; have HI6 := Lib.hid hi6
    have HP := Lib.hid (show lb < p6 ∧ lb + 1 < p6 ∧ lb < p7 ∧ lb + 1 < p7 by have := HL5.out.lt; have := HI5.out.lt; omega)
    have HCE := Lib.hid hce
    rw [hce] at c1
    clear hb6 hb7 hE6 hl6 hi6 hn6 hx HL5 HI5 HE5 HCL HCI HL42 hce hp6 hp7
    simp only [Exit.then]
    go_upto_if 50 with fail
    obtain ⟨w8, hw8⟩ : ∃ w8, wk.setCell ⟨p6, 0, none⟩ (.string ⟨#[97, 47, 98]⟩) = w8 := ⟨_, rfl⟩
    rw [hw8]
    have hx8 : Ext (fun j => j = p6) wk w8 := by rw [← hw8]; exact (Ext.refl _ wk).setCell _ _ (fun _ => rfl)
    have hz8 := HE6.out.size
    have hE8 : Ext No w w8 := HE6.out.trans hx8 (fun _ _ s => s) (fun j hj h => by have := HP.out; have := HLB.out; omega)
    have hb6 : Blk w8 p6 (cs.set 0 (.string (strB [97, 47, 98]))).toArray 42 := by
      rw [← hw8]; have := Blk.set HB6.out 0 (.string ⟨#[97, 47, 98]⟩); rw [List.setIfInBounds_toArray] at this; exact this
    have hb7 := HB7.out.ext hx8 (fun h => hne6_7 h.symm)
    have hl8 := HL6.out.ext hx8 (fun h => by have := HP.out; omega); have hi8 := HI6.out.ext hx8 (fun h => by have := HP.out; omega)
    have hth := Blk.there hb7 4 32 (by rw [H36.out]; decide)
    have HS40 := Lib.hid (run_storeAt_mid (P := Tryd.prog) w8 p7 4 40 (byts (idK 1)).toArray (by rw [List.size_toArray, byts_length]; exact hth) (by rw [List.size_toArray, byts_length]; exact info40) (one_byts _))
    have HI1 := Lib.hid b_id1
    have hb7s : Blk (w8.setCells p7 4 (byts (idK 1))) p7 (cs.take 4 ++ byts (idK 1)).toArray 42 := by
      have h := setCells_blk p7 42 (byts (idK 1)) w8 (cs.take 4) (cs.drop 4) [] (by rw [List.append_nil, List.take_append_drop]; exact hb7) (by rw [List.length_drop, H36.out, byts_length]; rfl)
      rw [List.length_take, H36.out, List.append_nil] at h
      exact h
    have hx9 := setCells_ext p7 (byts (idK 1)) w8 4
    have e2 := hb7.free 2
    have c2 : w8.cell? ⟨p7, 2, none⟩ = some y2 := by rw [hb7.cell, ← HB7.out.cell]; exact c2
    have hb7t : Blk (w8.setCell ⟨p7, 2, none⟩ (.int .i64 1)) p7 (cs.set 2 (.int .i64 1)).toArray 42 := by
      have := Blk.set hb7 2 (.int .i64 1); rw [List.setIfInBounds_toArray] at this; exact this
    have HB8 := Lib.hid hb6; have HB9 := Lib.hid hb7s; have HBT := Lib.hid hb7t; have HL8 := Lib.hid hl8; have HI8 := Lib.hid hi8; have HX9 := Lib.hid hx9; have HE8 := Lib.hid hE8; have HZ8 := Lib.hid hz8
    clear hw8 hx8 hE8 hb6 hb7 hl8 hi8 hth hb7s hb7t hx9 hz8 HB6 HB7 HL6 HI6 c0 e0 c1
    go_cut [] (fun wx => ∃ cs7, Ext No w wx ∧ Blk wx lb #[.slice (some ⟨b, off, none⟩) n c] 22 ∧ Blk wx (lb + 1) #[.int .i64 (q : Int)] 3 ∧ Blk wx p6 (cs.set 0 (.string (strB [97, 47, 98]))).toArray 42 ∧ Blk wx p7 cs7.toArray 42 ∧ IsNode wx (nd7 nd) cs7)
    case first =>
      cases ce
      · go_wp2_with (first
          | ((with_reducible refine wpList_build1 ?_ 40 0 (.const (.int .u8 1)) rfl ?_ (HI1.out _) ?_); rfl; rfl)
          | ((with_reducible refine wpList_store_at ?_ 40 _ _ rfl ?_ ?_ (HS40.out) ?_); rfl; rfl; rfl))
        go_meet
        have hEX : Ext No w (w8.setCells p7 4 (byts (idK 1))) := HE8.out.trans HX9.out (fun _ _ s => s) (fun j hj h => by have := HP.out; have := HLB.out; omega)
        exact ⟨_, hEX, HL8.out.ext HX9.out (fun h => by have := HP.out; omega), HI8.out.ext HX9.out (fun h => by have := HP.out; omega), HB8.out.ext HX9.out hne6_7, HB9.out, node_set7b (HND.out.ext0 hEX) HCE.out⟩
      · go_wp2_with fail
        go_meet
        have hx9 : Ext (fun j => j = p7) w8 (w8.setCell ⟨p7, 2, none⟩ (.int .i64 1)) := (Ext.refl _ w8).setCell _ _ (fun _ => rfl)
        have hEX := HE8.out.trans hx9 (U := No) (fun _ _ s => s) (fun j hj h => by have := HP.out; have := HLB.out; omega)
        exact ⟨_, hEX, HL8.out.ext hx9 (fun h => by have := HP.out; omega), HI8.out.ext hx9 (fun h => by have := HP.out; omega), HB8.out.ext hx9 hne6_7, HBT.out, node_set7a (HND.out.ext0 hEX) HCE.out⟩
    case rest =>
      obtain ⟨cs7, hx10, hl10, hi10, hb10, hc10, hn10⟩ := hcut
      generalize wc = w10 at *
      obtain ⟨q1, hq1⟩ : ∃ q1, q + 1 = q1 := ⟨_, rfl⟩
      have hst : TeSt w w10 lb p6 p7 q (.slice (some ⟨b, off, none⟩) n c) (cs.set 0 (.string (strB [97, 47, 98]))) cs7 nd := ⟨hx10, hl10, hi10, hb10, hc10, hn10⟩
      have hn6 := node_set6 (HND.out.ext0 hx10)
      have hin := HX.out.1.ext0 hx10
      have hcn : n ≤ c := by obtain ⟨_, _, he, h1, -⟩ := hin; cases he; rw [HN.out]; exact h1
      obtain ⟨cs6, hcs6⟩ : ∃ cs6, cs.set 0 (.string (strB [97, 47, 98])) = cs6 := ⟨_, rfl⟩
      rw [hcs6] at hst hn6
      have HQ1 := Lib.hid (show (q : Int) + 1 = (q1 : Int) by omega)
      have HQW := Lib.hid (show IntKind.i64.wrap (q1 : Int) = q1 by rw [IntKind.wrap_i64]; have := HQN.out; have := (few_ok HFX.out).1; have := HN.out; omega)
      have HST := Lib.hid hst; have HIN := Lib.hid hin; have HN6 := Lib.hid hn6
      have HCL := Lib.hid (fun W (h : Ext No w10 W) => (hst.go h).cl); have HCI := Lib.hid (fun W (h : Ext No w10 W) => (hst.go h).ci)
      have hn30 : ns.length ≤ 600 := Nat.le_of_lt (few_ok HFX.out).1
      have HTK := Lib.hid (fun W => run_takeN (P := Tryd.prog) Tryd.underlying22 Tryd.sizeOf42 (some ⟨b, off, none⟩) .i64 q1 n c (by omega) W)
      have HDK := Lib.hid (fun W => run_dropN (P := Tryd.prog) Tryd.underlying22 Tryd.sizeOf42 (some ⟨b, off, none⟩) .i64 q n c (by omega) W)
      have HNT := Lib.hid (nodes_take hin q1 (by omega)); have HND2 := Lib.hid (nodes_drop hin q (by omega))
      have HTL := Lib.hid (show (ns.take q1).length ≤ 9223372036854775807 ∧ (ns.take q1).length * 88 ≤ 140737488355328 by rw [List.length_take]; omega)
      have HSUM := Lib.hid (show ∀ i j, (ns.take i).length + (ns.drop j).length ≤ 9223372036854775807 ∧ ((ns.take i).length + (ns.drop j).length) * 88 ≤ 140737488355328 by intro i j; rw [List.length_take, List.length_drop]; omega)
      have H30 := Lib.hid hn30; have HCN := Lib.hid hcn; have HQ1N := Lib.hid hq1
      clear hst hin hn6 hx10 hl10 hi10 hb10 hc10 hn10 hcs6 hn30 hcn hq1 HB8 HB9 HBT HL8 HI8 HX9 HE8 HS40 HI1 c2 e2 HCE
      go_wp2_with fail
      refine wp_region_head 9 No (TerV12 ns w10 w10.heap.size b off n c q q1 lb) (by kernel_rfl) (by kernel_rfl) (by kernel_rfl) (TerV12_ext ns w10 w10.heap.size b off n c q q1 lb) (HeadSteps.cons ?_ (HeadSteps.cons ?_ (HeadSteps.cons ?_ (HeadSteps.cons ?_ (HeadSteps.cons ?_ (HeadSteps.cons ?_ (HeadSteps.cons ?_ (HeadSteps.cons ?_ (HeadSteps.cons ?_ HeadSteps.nil))))))))) ?_
      · -- slot 54
        intro ac wk hx hsame hdep K hK
        clear hsame hdep
        go_simp
        exact hK _ _ ((Ext.refl No wk).alloc _) ⟨_, rfl, OwnSeq.leB (seq_made wk 42 36 (fun _ => IsNode w10)) (Dr.extN hx).size⟩
      · -- slot 55
        intro ac wk hx hsame hdep K hK
        have d2 : ac.tmps.getD 2 undef = .pointer (some ⟨lb, 0, none⟩) := hsame 2 (by kernel_rfl)
        have e2 := d2
        rw [Array.getD_eq_getD_getElem?] at e2
        clear hsame hdep
        have hc := HCL.out wk (Dr.extN hx)
        go_simp
        exact hK _ _ (Ext.refl _ wk) rfl
      · -- slot 56
        intro ac wk hx hsame hdep K hK
        have d3 : ac.tmps.getD 3 undef = .pointer (some ⟨lb + 1, 0, none⟩) := hsame 3 (by kernel_rfl)
        have e3 := d3
        rw [Array.getD_eq_getD_getElem?] at e3
        clear hsame hdep
        have hc := HCI.out wk (Dr.extN hx)
        go_simp
        exact hK _ _ (Ext.refl _ wk) rfl
      · -- slot 57
        intro ac wk hx hsame hdep K hK
        have d56 : ac.tmps.getD 56 undef = .int .i64 (q : Int) := hdep 2 (by kernel_rfl)
        have e56 := d56
        rw [Array.getD_eq_getD_getElem?] at e56
        clear hsame hdep
        have hq1 := HQ1.out
        have hqw := HQW.out
        go_simp
        exact hK _ _ (Ext.refl _ wk) rfl
      · -- slot 58
        intro ac wk hx hsame hdep K hK
        have d55 : ac.tmps.getD 55 undef = .slice (some ⟨b, off, none⟩) n c := hdep 1 (by kernel_rfl)
        have e55 := d55
        rw [Array.getD_eq_getD_getElem?] at e55
        have d57 : ac.tmps.getD 57 undef = .int .i64 (q1 : Int) := hdep 3 (by kernel_rfl)
        have e57 := d57
        rw [Array.getD_eq_getD_getElem?] at e57
        clear hsame hdep
        exact wp_slice_known 22 (.tmp 55) none (some (.tmp 57)) rfl d55 rfl (congrArg some d57) (HTK.out wk) (hK _ _ (Ext.refl _ wk) ⟨_, _, _, rfl, HNT.out⟩)
      · -- slot 59
        intro ac wk hx hsame hdep K hK
        have p54 : ∃ g, (ac.tmps.getD 54 undef) = .slice (some ⟨g, 0, none⟩) 0 0 ∧ OwnSeq wk w10.heap.size 42 36 (fun _ => IsNode w10) [] (.slice (some ⟨g, 0, none⟩) 0 0) := hdep 0 (by kernel_rfl)
        obtain ⟨g54, d54, o54⟩ := p54
        have e54 := d54
        rw [Array.getD_eq_getD_getElem?] at e54
        have p58 : ∃ ad m d, (ac.tmps.getD 58 undef) = .slice ad m d ∧ IsNodes w10 (ns.take q1) (.slice ad m d) := hdep 4 (by kernel_rfl)
        obtain ⟨y58, m58, z58, d58, o58⟩ := p58
        have e58 := d58
        rw [Array.getD_eq_getD_getElem?] at e58
        clear hsame hdep
        obtain ⟨css, hcs⟩ := src_nodes o58
        exact wp_appE wk (.tmp 54) (.tmp 58) 22 rfl w10.heap.size 42 _ 88 node_info Tryd.underlying22 rfl (by decide) d54 d58 o54 (hcs.ext0 (Dr.extN hx)) HTL.out.1 HTL.out.2 (Dr.extN hx).size (fun v1 w1 h1 h2 => hK v1 w1 h2 h1)
      · -- slot 60
        intro ac wk hx hsame hdep K hK
        have d2 : ac.tmps.getD 2 undef = .pointer (some ⟨lb, 0, none⟩) := hsame 2 (by kernel_rfl)
        have e2 := d2
        rw [Array.getD_eq_getD_getElem?] at e2
        clear hsame hdep
        have hc := HCL.out wk (Dr.extN hx)
        go_simp
        exact hK _ _ (Ext.refl _ wk) rfl
      · -- slot 61
        intro ac wk hx hsame hdep K hK
        have d3 : ac.tmps.getD 3 undef = .pointer (some ⟨lb + 1, 0, none⟩) := hsame 3 (by kernel_rfl)
        have e3 := d3
        rw [Array.getD_eq_getD_getElem?] at e3
        clear hsame hdep
        have hc := HCI.out wk (Dr.extN hx)
        go_simp
        exact hK _ _ (Ext.refl _ wk) rfl
      · -- slot 62
        intro ac wk hx hsame hdep K hK
        have d60 : ac.tmps.getD 60 undef = .slice (some ⟨b, off, none⟩) n c := hdep 6 (by kernel_rfl)
        have e60 := d60
        rw [Array.getD_eq_getD_getElem?] at e60
        have d61 : ac.tmps.getD 61 undef = .int .i64 (q : Int) := hdep 7 (by kernel_rfl)
        have e61 := d61
        rw [Array.getD_eq_getD_getElem?] at e61
        clear hsame hdep
        exact wp_slice_known 22 (.tmp 60) (some (.tmp 61)) none rfl d60 (congrArg some d61) rfl (HDK.out wk) (hK _ _ (Ext.refl _ wk) ⟨_, _, _, rfl, HND2.out⟩)
      · intro ac wk hx hdf hsz hsame hvals
        obtain ⟨u0, f0⟩ : ∃ u, ac.tmps.getD 0 undef = u := ⟨_, rfl⟩
        obtain ⟨u1, f1⟩ : ∃ u, ac.tmps.getD 1 undef = u := ⟨_, rfl⟩
        have f2 : ac.tmps.getD 2 undef = .pointer (some ⟨lb, 0, none⟩) := hsame 2 (by kernel_rfl)
        have f3 : ac.tmps.getD 3 undef = .pointer (some ⟨lb + 1, 0, none⟩) := hsame 3 (by kernel_rfl)
        have f4 : ac.tmps.getD 4 undef = .bool false := hsame 4 (by kernel_rfl)
        have f5 : ac.tmps.getD 5 undef = .func (.func 15) #[] #[.pointer (some ⟨lb, 0, none⟩), .pointer (some ⟨lb + 1, 0, none⟩)] := hsame 5 (by kernel_rfl)
        have f6 : ac.tmps.getD 6 undef = .pointer (some ⟨p6, 0, none⟩) := hsame 6 (by kernel_rfl)
        have f7 : ac.tmps.getD 7 undef = .pointer (some ⟨p7, 0, none⟩) := hsame 7 (by kernel_rfl)
        obtain ⟨u8, f8⟩ : ∃ u, ac.tmps.getD 8 undef = u := ⟨_, rfl⟩
        obtain ⟨u9, f9⟩ : ∃ u, ac.tmps.getD 9 undef = u := ⟨_, rfl⟩
        obtain ⟨u10, f10⟩ : ∃ u, ac.tmps.getD 10 undef = u := ⟨_, rfl⟩
        obtain ⟨u11, f11⟩ : ∃ u, ac.tmps.getD 11 undef = u := ⟨_, rfl⟩
        obtain ⟨u12, f12⟩ : ∃ u, ac.tmps.getD 12 undef = u := ⟨_, rfl⟩
        obtain ⟨u13, f13⟩ : ∃ u, ac.tmps.getD 13 undef = u := ⟨_, rfl⟩
        obtain ⟨u14, f14⟩ : ∃ u, ac.tmps.getD 14 undef = u := ⟨_, rfl⟩
        obtain ⟨u15, f15⟩ : ∃ u, ac.tmps.getD 15 undef = u := ⟨_, rfl⟩
        obtain ⟨u16, f16⟩ : ∃ u, ac.tmps.getD 16 undef = u := ⟨_, rfl⟩
        obtain ⟨u17, f17⟩ : ∃ u, ac.tmps.getD 17 undef = u := ⟨_, rfl⟩
        obtain ⟨u18, f18⟩ : ∃ u, ac.tmps.getD 18 undef = u := ⟨_, rfl⟩
        obtain ⟨u19, f19⟩ : ∃ u, ac.tmps.getD 19 undef = u := ⟨_, rfl⟩
        obtain ⟨u20, f20⟩ : ∃ u, ac.tmps.getD 20 undef = u := ⟨_, rfl⟩
        obtain ⟨u21, f21⟩ : ∃ u, ac.tmps.getD 21 undef = u := ⟨_, rfl⟩
        obtain ⟨u22, f22⟩ : ∃ u, ac.tmps.getD 22 undef = u := ⟨_, rfl⟩
        obtain ⟨u23, f23⟩ : ∃ u, ac.tmps.getD 23 undef = u := ⟨_, rfl⟩
        obtain ⟨u24, f24⟩ : ∃ u, ac.tmps.getD 24 undef = u := ⟨_, rfl⟩
        obtain ⟨u25, f25⟩ : ∃ u, ac.tmps.getD 25 undef = u := ⟨_, rfl⟩
        obtain ⟨u26, f26⟩ : ∃ u, ac.tmps.getD 26 undef = u := ⟨_, rfl⟩
        obtain ⟨u27, f27⟩ : ∃ u, ac.tmps.getD 27 undef = u := ⟨_, rfl⟩
        obtain ⟨u28, f28⟩ : ∃ u, ac.tmps.getD 28 undef = u := ⟨_, rfl⟩
        obtain ⟨u29, f29⟩ : ∃ u, ac.tmps.getD 29 undef = u := ⟨_, rfl⟩
        obtain ⟨u30, f30⟩ : ∃ u, ac.tmps.getD 30 undef = u := ⟨_, rfl⟩
        obtain ⟨u31, f31⟩ : ∃ u, ac.tmps.getD 31 undef = u := ⟨_, rfl⟩
        obtain ⟨u32, f32⟩ : ∃ u, ac.tmps.getD 32 undef = u := ⟨_, rfl⟩
        obtain ⟨u33, f33⟩ : ∃ u, ac.tmps.getD 33 undef = u := ⟨_, rfl⟩
        obtain ⟨u34, f34⟩ : ∃ u, ac.tmps.getD 34 undef = u := ⟨_, rfl⟩
        obtain ⟨u35, f35⟩ : ∃ u, ac.tmps.getD 35 undef = u := ⟨_, rfl⟩
        obtain ⟨u36, f36⟩ : ∃ u, ac.tmps.getD 36 undef = u := ⟨_, rfl⟩
        obtain ⟨u37, f37⟩ : ∃ u, ac.tmps.getD 37 undef = u := ⟨_, rfl⟩
        obtain ⟨u38, f38⟩ : ∃ u, ac.tmps.getD 38 undef = u := ⟨_, rfl⟩
        obtain ⟨u39, f39⟩ : ∃ u, ac.tmps.getD 39 undef = u := ⟨_, rfl⟩
        obtain ⟨u40, f40⟩ : ∃ u, ac.tmps.getD 40 undef = u := ⟨_, rfl⟩
        obtain ⟨u41, f41⟩ : ∃ u, ac.tmps.getD 41 undef = u := ⟨_, rfl⟩
        obtain ⟨u42, f42⟩ : ∃ u, ac.tmps.getD 42 undef = u := ⟨_, rfl⟩
        obtain ⟨u43, f43⟩ : ∃ u, ac.tmps.getD 43 undef = u := ⟨_, rfl⟩
        obtain ⟨u44, f44⟩ : ∃ u, ac.tmps.getD 44 undef = u := ⟨_, rfl⟩
        obtain ⟨u45, f45⟩ : ∃ u, ac.tmps.getD 45 undef = u := ⟨_, rfl⟩
        obtain ⟨u46, f46⟩ : ∃ u, ac.tmps.getD 46 undef = u := ⟨_, rfl⟩
        obtain ⟨u47, f47⟩ : ∃ u, ac.tmps.getD 47 undef = u := ⟨_, rfl⟩
        obtain ⟨u48, f48⟩ : ∃ u, ac.tmps.getD 48 undef = u := ⟨_, rfl⟩
        obtain ⟨u49, f49⟩ : ∃ u, ac.tmps.getD 49 undef = u := ⟨_, rfl⟩
        obtain ⟨u50, f50⟩ : ∃ u, ac.tmps.getD 50 undef = u := ⟨_, rfl⟩
        obtain ⟨u51, f51⟩ : ∃ u, ac.tmps.getD 51 undef = u := ⟨_, rfl⟩
        obtain ⟨u52, f52⟩ : ∃ u, ac.tmps.getD 52 undef = u := ⟨_, rfl⟩
        obtain ⟨u53, f53⟩ : ∃ u, ac.tmps.getD 53 undef = u := ⟨_, rfl⟩
        obtain ⟨u54, f54⟩ : ∃ u, ac.tmps.getD 54 undef = u := ⟨_, rfl⟩
        have f55 : ac.tmps.getD 55 undef = .slice (some ⟨b, off, none⟩) n c := hvals 1 (by decide)
        have f56 : ac.tmps.getD 56 undef = .int .i64 (q : Int) := hvals 2 (by decide)
        have f57 : ac.tmps.getD 57 undef = .int .i64 (q1 : Int) := hvals 3 (by decide)
        have p58 : ∃ ad m d, (ac.tmps.getD 58 undef) = .slice ad m d ∧ IsNodes w10 (ns.take q1) (.slice ad m d) := hvals 4 (by decide)
        obtain ⟨a58, m58, c58, f58, o58⟩ := p58
        have p59 : OwnSeq wk w10.heap.size 42 36 (fun _ => IsNode w10) (ns.take q1) (ac.tmps.getD 59 undef) := hvals 5 (by decide)
        obtain ⟨a59, m59, c59, f59, o59⟩ : ∃ aa mm cc, (ac.tmps.getD 59 undef) = .slice aa mm cc ∧ OwnSeq wk w10.heap.size 42 36 (fun _ => IsNode w10) (ns.take q1) (.slice aa mm cc) := by obtain ⟨a, c, e⟩ := OwnSeq.len p59; exact ⟨a, _, c, e, by rw [← e]; exact p59⟩
        have f60 : ac.tmps.getD 60 undef = .slice (some ⟨b, off, none⟩) n c := hvals 6 (by decide)
        have f61 : ac.tmps.getD 61 undef = .int .i64 (q : Int) := hvals 7 (by decide)
        have p62 : ∃ ad m d, (ac.tmps.getD 62 undef) = .slice ad m d ∧ IsNodes w10 (ns.drop q) (.slice ad m d) := hvals 8 (by decide)
        obtain ⟨a62, m62, c62, f62, o62⟩ := p62
        obtain ⟨u63, f63⟩ : ∃ u, ac.tmps.getD 63 undef = u := ⟨_, rfl⟩
        obtain ⟨u64, f64⟩ : ∃ u, ac.tmps.getD 64 undef = u := ⟨_, rfl⟩
        obtain ⟨u65, f65⟩ : ∃ u, ac.tmps.getD 65 undef = u := ⟨_, rfl⟩
        obtain ⟨u66, f66⟩ : ∃ u, ac.tmps.getD 66 undef = u := ⟨_, rfl⟩
        obtain ⟨u67, f67⟩ : ∃ u, ac.tmps.getD 67 undef = u := ⟨_, rfl⟩
        obtain ⟨u68, f68⟩ : ∃ u, ac.tmps.getD 68 undef = u := ⟨_, rfl⟩
        obtain ⟨u69, f69⟩ : ∃ u, ac.tmps.getD 69 undef = u := ⟨_, rfl⟩
        obtain ⟨u70, f70⟩ : ∃ u, ac.tmps.getD 70 undef = u := ⟨_, rfl⟩
        obtain ⟨u71, f71⟩ : ∃ u, ac.tmps.getD 71 undef = u := ⟨_, rfl⟩
        obtain ⟨u72, f72⟩ : ∃ u, ac.tmps.getD 72 undef = u := ⟨_, rfl⟩
        obtain ⟨u73, f73⟩ : ∃ u, ac.tmps.getD 73 undef = u := ⟨_, rfl⟩
        obtain ⟨u74, f74⟩ : ∃ u, ac.tmps.getD 74 undef = u := ⟨_, rfl⟩
        obtain ⟨u75, f75⟩ : ∃ u, ac.tmps.getD 75 undef = u := ⟨_, rfl⟩
        obtain ⟨u76, f76⟩ : ∃ u, ac.tmps.getD 76 undef = u := ⟨_, rfl⟩
        obtain ⟨u77, f77⟩ : ∃ u, ac.tmps.getD 77 undef = u := ⟨_, rfl⟩
        obtain ⟨u78, f78⟩ : ∃ u, ac.tmps.getD 78 undef = u := ⟨_, rfl⟩
        obtain ⟨u79, f79⟩ : ∃ u, ac.tmps.getD 79 undef = u := ⟨_, rfl⟩
        obtain ⟨u80, f80⟩ : ∃ u, ac.tmps.getD 80 undef = u := ⟨_, rfl⟩
        obtain ⟨u81, f81⟩ : ∃ u, ac.tmps.getD 81 undef = u := ⟨_, rfl⟩
        obtain ⟨u82, f82⟩ : ∃ u, ac.tmps.getD 82 undef = u := ⟨_, rfl⟩
        obtain ⟨u83, f83⟩ : ∃ u, ac.tmps.getD 83 undef = u := ⟨_, rfl⟩
        obtain ⟨u84, f84⟩ : ∃ u, ac.tmps.getD 84 undef = u := ⟨_, rfl⟩
        obtain ⟨u85, f85⟩ : ∃ u, ac.tmps.getD 85 undef = u := ⟨_, rfl⟩
        obtain ⟨u86, f86⟩ : ∃ u, ac.tmps.getD 86 undef = u := ⟨_, rfl⟩
        obtain ⟨u87, f87⟩ : ∃ u, ac.tmps.getD 87 undef = u := ⟨_, rfl⟩
        obtain ⟨u88, f88⟩ : ∃ u, ac.tmps.getD 88 undef = u := ⟨_, rfl⟩
        obtain ⟨u89, f89⟩ : ∃ u, ac.tmps.getD 89 undef = u := ⟨_, rfl⟩
        obtain ⟨u90, f90⟩ : ∃ u, ac.tmps.getD 90 undef = u := ⟨_, rfl⟩
        obtain ⟨u91, f91⟩ : ∃ u, ac.tmps.getD 91 undef = u := ⟨_, rfl⟩
        obtain ⟨u92, f92⟩ : ∃ u, ac.tmps.getD 92 undef = u := ⟨_, rfl⟩
        obtain ⟨u93, f93⟩ : ∃ u, ac.tmps.getD 93 undef = u := ⟨_, rfl⟩
        obtain ⟨u94, f94⟩ : ∃ u, ac.tmps.getD 94 undef = u := ⟨_, rfl⟩
        obtain ⟨u95, f95⟩ : ∃ u, ac.tmps.getD 95 undef = u := ⟨_, rfl⟩
        obtain ⟨u96, f96⟩ : ∃ u, ac.tmps.getD 96 undef = u := ⟨_, rfl⟩
        obtain ⟨u97, f97⟩ : ∃ u, ac.tmps.getD 97 undef = u := ⟨_, rfl⟩
        obtain ⟨u98, f98⟩ : ∃ u, ac.tmps.getD 98 undef = u := ⟨_, rfl⟩
        obtain ⟨u99, f99⟩ : ∃ u, ac.tmps.getD 99 undef = u := ⟨_, rfl⟩
        obtain ⟨u100, f100⟩ : ∃ u, ac.tmps.getD 100 undef = u := ⟨_, rfl⟩
        obtain ⟨u101, f101⟩ : ∃ u, ac.tmps.getD 101 undef = u := ⟨_, rfl⟩
        obtain ⟨u102, f102⟩ : ∃ u, ac.tmps.getD 102 undef = u := ⟨_, rfl⟩
        obtain ⟨u103, f103⟩ : ∃ u, ac.tmps.getD 103 undef = u := ⟨_, rfl⟩
        obtain ⟨u104, f104⟩ : ∃ u, ac.tmps.getD 104 undef = u := ⟨_, rfl⟩
        obtain ⟨u105, f105⟩ : ∃ u, ac.tmps.getD 105 undef = u := ⟨_, rfl⟩
        obtain ⟨u106, f106⟩ : ∃ u, ac.tmps.getD 106 undef = u := ⟨_, rfl⟩
        obtain ⟨u107, f107⟩ : ∃ u, ac.tmps.getD 107 undef = u := ⟨_, rfl⟩
        obtain ⟨u108, f108⟩ : ∃ u, ac.tmps.getD 108 undef = u := ⟨_, rfl⟩
        obtain ⟨u109, f109⟩ : ∃ u, ac.tmps.getD 109 undef = u := ⟨_, rfl⟩
        obtain ⟨u110, f110⟩ : ∃ u, ac.tmps.getD 110 undef = u := ⟨_, rfl⟩
        obtain ⟨u111, f111⟩ : ∃ u, ac.tmps.getD 111 undef = u := ⟨_, rfl⟩
        obtain ⟨u112, f112⟩ : ∃ u, ac.tmps.getD 112 undef = u := ⟨_, rfl⟩
        obtain ⟨u113, f113⟩ : ∃ u, ac.tmps.getD 113 undef = u := ⟨_, rfl⟩
        obtain ⟨u114, f114⟩ : ∃ u, ac.tmps.getD 114 undef = u := ⟨_, rfl⟩
        obtain ⟨u115, f115⟩ : ∃ u, ac.tmps.getD 115 undef = u := ⟨_, rfl⟩
        obtain ⟨u116, f116⟩ : ∃ u, ac.tmps.getD 116 undef = u := ⟨_, rfl⟩
        obtain ⟨u117, f117⟩ : ∃ u, ac.tmps.getD 117 undef = u := ⟨_, rfl⟩
        obtain ⟨u118, f118⟩ : ∃ u, ac.tmps.getD 118 undef = u := ⟨_, rfl⟩
        obtain ⟨u119, f119⟩ : ∃ u, ac.tmps.getD 119 undef = u := ⟨_, rfl⟩
        obtain ⟨u120, f120⟩ : ∃ u, ac.tmps.getD 120 undef = u := ⟨_, rfl⟩
        obtain ⟨u121, f121⟩ : ∃ u, ac.tmps.getD 121 undef = u := ⟨_, rfl⟩
        obtain ⟨u122, f122⟩ : ∃ u, ac.tmps.getD 122 undef = u := ⟨_, rfl⟩
        obtain ⟨u123, f123⟩ : ∃ u, ac.tmps.getD 123 undef = u := ⟨_, rfl⟩
        obtain ⟨u124, f124⟩ : ∃ u, ac.tmps.getD 124 undef = u := ⟨_, rfl⟩
        obtain ⟨u125, f125⟩ : ∃ u, ac.tmps.getD 125 undef = u := ⟨_, rfl⟩
        obtain ⟨u126, f126⟩ : ∃ u, ac.tmps.getD 126 undef = u := ⟨_, rfl⟩
        obtain ⟨u127, f127⟩ : ∃ u, ac.tmps.getD 127 undef = u := ⟨_, rfl⟩
        obtain ⟨u128, f128⟩ : ∃ u, ac.tmps.getD 128 undef = u := ⟨_, rfl⟩
        obtain ⟨u129, f129⟩ : ∃ u, ac.tmps.getD 129 undef = u := ⟨_, rfl⟩
        obtain ⟨u130, f130⟩ : ∃ u, ac.tmps.getD 130 undef = u := ⟨_, rfl⟩
        have hlit : ac = ⟨#[u0, u1, .pointer (some ⟨lb, 0, none⟩), .pointer (some ⟨lb + 1, 0, none⟩), .bool false, .func (.func 15) #[] #[.pointer (some ⟨lb, 0, none⟩), .pointer (some ⟨lb + 1, 0, none⟩)], .pointer (some ⟨p6, 0, none⟩), .pointer (some ⟨p7, 0, none⟩), u8, u9, u10, u11, u12, u13, u14, u15, u16, u17, u18, u19, u20, u21, u22, u23, u24, u25, u26, u27, u28, u29, u30, u31, u32, u33, u34, u35, u36, u37, u38, u39, u40, u41, u42, u43, u44, u45, u46, u47, u48, u49, u50, u51, u52, u53, u54, .slice (some ⟨b, off, none⟩) n c, .int .i64 (q : Int), .int .i64 (q1 : Int), .slice a58 m58 c58, .slice a59 m59 c59, .slice (some ⟨b, off, none⟩) n c, .int .i64 (q : Int), .slice a62 m62 c62, u63, u64, u65, u66, u67, u68, u69, u70, u71, u72, u73, u74, u75, u76, u77, u78, u79, u80, u81, u82, u83, u84, u85, u86, u87, u88, u89, u90, u91, u92, u93, u94, u95, u96, u97, u98, u99, u100, u101, u102, u103, u104, u105, u106, u107, u108, u109, u110, u111, u112, u113, u114, u115, u116, u117, u118, u119, u120, u121, u122, u123, u124, u125, u126, u127, u128, u129, u130], []⟩ := by
          refine (act_lit hsz hdf).trans ?_
          rw [show List.range _ = [0, 1, 2, 3, 4, 5, 6, 7, 8, 9, 10, 11, 12, 13, 14, 15, 16, 17, 18, 19, 20, 21, 22, 23, 24, 25, 26, 27, 28, 29, 30, 31, 32, 33, 34, 35, 36, 37, 38, 39, 40, 41, 42, 43, 44, 45, 46, 47, 48, 49, 50, 51, 52, 53, 54, 55, 56, 57, 58, 59, 60, 61, 62, 63, 64, 65, 66, 67, 68, 69, 70, 71, 72, 73, 74, 75, 76, 77, 78, 79, 80, 81, 82, 83, 84, 85, 86, 87, 88, 89, 90, 91, 92, 93, 94, 95, 96, 97, 98, 99, 100, 101, 102, 103, 104, 105, 106, 107, 108, 109, 110, 111, 112, 113, 114, 115, 116, 117, 118, 119, 120, 121, 122, 123, 124, 125, 126, 127, 128, 129, 130] from rfl]
          simp only [List.map_cons, List.map_nil, f0, f1, f2, f3, f4, f5, f6, f7, f8, f9, f10, f11, f12, f13, f14, f15, f16, f17, f18, f19, f20, f21, f22, f23, f24, f25, f26, f27, f28, f29, f30, f31, f32, f33, f34, f35, f36, f37, f38, f39, f40, f41, f42, f43, f44, f45, f46, f47, f48, f49, f50, f51, f52, f53, f54, f55, f56, f57, f58, f59, f60, f61, f62, f63, f64, f65, f66, f67, f68, f69, f70, f71, f72, f73, f74, f75, f76, f77, f78, f79, f80, f81, f82, f83, f84, f85, f86, f87, f88, f89, f90, f91, f92, f93, f94, f95, f96, f97, f98, f99, f100, f101, f102, f103, f104, f105, f106, f107, f108, f109, f110, f111, f112, f113, f114, f115, f116, f117, f118, f119, f120, f121, f122, f123, f124, f125, f126, f127, f128, f129, f130]
        clear hvals hsame hdf hsz f0 f1 f2 f3 f4 f5 f6 f7 f8 f9 f10 f11 f12 f13 f14 f15 f16 f17 f18 f19 f20 f21 f22 f23 f24 f25 f26 f27 f28 f29 f30 f31 f32 f33 f34 f35 f36 f37 f38 f39 f40 f41 f42 f43 f44 f45 f46 f47 f48 f49 f50 f51 f52 f53 f54 f55 f56 f57 f58 f59 f60 f61 f62 f63 f64 f65 f66 f67 f68 f69 f70 f71 f72 f73 f74 f75 f76 f77 f78 f79 f80 f81 f82 f83 f84 f85 f86 f87 f88 f89 f90 f91 f92 f93 f94 f95 f96 f97 f98 f99 f100 f101 f102 f103 f104 f105 f106 f107 f108 f109 f110 f111 f112 f113 f114 f115 f116 f117 f118 f119 f120 f121 f122 f123 f124 f125 f126 f127 f128 f129 f130
        subst hlit
        simp only [List.drop_succ_cons, List.drop_zero]
        obtain ⟨css62, hs62⟩ := src_nodes o62
        have HO59 := Lib.hid o59; have HS62 := Lib.hid (hs62.ext0 hx); have HSZ := Lib.hid hx.size; have HXK := Lib.hid hx
        have HS1 := Lib.hid (HSUM.out q1 q)
        clear o59 o62 hs62 hx
        go_wp2_with ((with_reducible refine wpList_appG _ ?_ _ _ 22 rfl w10.heap.size 42 _ _ node_info Tryd.underlying22 rfl (by decide) _ _ ?_ ?_ HO59.out HS62.out HS1.out.1 HS1.out.2 HSZ.out ?_); rfl; rfl; rfl; intro v8 w11 hown8 hg8 hat8; obtain ⟨a8, m8, c8, rfl, -⟩ := ownseq_form hown8)
        have hx11 : Ext No w10 w11 := HXK.out.grown hg8 (fun j hj h => absurd h (by have := (OwnSeq.lt HO59.out j hj).1; omega))
        have htw := ownseq_nodes hown8 hx11
        have hst := HST.out.go hx11
        have hin := HIN.out.ext0 hx11
        have HST := Lib.hid hst; have HTW := Lib.hid htw; have HN6 := Lib.hid (HN6.out.ext0 hx11); have HIN := Lib.hid hin
        clear HCL HCI HNT HND2 HTK HDK HTL hown8 hg8 hat8 HO59 HS62 HSZ HXK HS1 htw
        have HCL := Lib.hid (fun W (h : Ext No w11 W) => (hst.go h).cl); have HCI := Lib.hid (fun W (h : Ext No w11 W) => (hst.go h).ci)
        have HTK := Lib.hid (fun W => run_takeN (P := Tryd.prog) Tryd.underlying22 Tryd.sizeOf42 (some ⟨b, off, none⟩) .i64 q n c (by have := HCN.out; omega) W)
        have HDK := Lib.hid (fun W => run_dropN (P := Tryd.prog) Tryd.underlying22 Tryd.sizeOf42 (some ⟨b, off, none⟩) .i64 q1 n c (by have := HQ1N.out; omega) W)
        have HNT := Lib.hid (nodes_take hin q (by omega)); have HND2 := Lib.hid (nodes_drop hin q1 (by have := HQ1N.out; omega))
        have HTL := Lib.hid (show (ns.take q).length ≤ 9223372036854775807 ∧ (ns.take q).length * 88 ≤ 140737488355328 by rw [List.length_take]; have := H30.out; omega)
        clear hx11 hst hin
        refine wp_region_head 9 No (TerV13 ns w11 w11.heap.size b off n c q q1 lb) (by kernel_rfl) (by kernel_rfl) (by kernel_rfl) (TerV13_ext ns w11 w11.heap.size b off n c q q1 lb) (HeadSteps.cons ?_ (HeadSteps.cons ?_ (HeadSteps.cons ?_ (HeadSteps.cons ?_ (HeadSteps.cons ?_ (HeadSteps.cons ?_ (HeadSteps.cons ?_ (HeadSteps.cons ?_ (HeadSteps.cons ?_ HeadSteps.nil))))))))) ?_
        · -- slot 64
          intro ac wk hx hsame hdep K hK
          clear hsame hdep
          go_simp
          exact hK _ _ ((Ext.refl No wk).alloc _) ⟨_, rfl, OwnSeq.leB (seq_made wk 42 36 (fun _ => IsNode w11)) (Dr.extN hx).size⟩
        · -- slot 65
          intro ac wk hx hsame hdep K hK
          have d2 : ac.tmps.getD 2 undef = .pointer (some ⟨lb, 0, none⟩) := hsame 2 (by kernel_rfl)
          have e2 := d2
          rw [Array.getD_eq_getD_getElem?] at e2
          clear hsame hdep
          have hc := HCL.out wk (Dr.extN hx)
          go_simp
          exact hK _ _ (Ext.refl _ wk) rfl
        · -- slot 66
          intro ac wk hx hsame hdep K hK
          have d3 : ac.tmps.getD 3 undef = .pointer (some ⟨lb + 1, 0, none⟩) := hsame 3 (by kernel_rfl)
          have e3 := d3
          rw [Array.getD_eq_getD_getElem?] at e3
          clear hsame hdep
          have hc := HCI.out wk (Dr.extN hx)
          go_simp
          exact hK _ _ (Ext.refl _ wk) rfl
        · -- slot 67
          intro ac wk hx hsame hdep K hK
          have d65 : ac.tmps.getD 65 undef = .slice (some ⟨b, off, none⟩) n c := hdep 1 (by kernel_rfl)
          have e65 := d65
          rw [Array.getD_eq_getD_getElem?] at e65
          have d66 : ac.tmps.getD 66 undef = .int .i64 (q : Int) := hdep 2 (by kernel_rfl)
          have e66 := d66
          rw [Array.getD_eq_getD_getElem?] at e66
          clear hsame hdep
          exact wp_slice_known 22 (.tmp 65) none (some (.tmp 66)) rfl d65 rfl (congrArg some d66) (HTK.out wk) (hK _ _ (Ext.refl _ wk) ⟨_, _, _, rfl, HNT.out⟩)
        · -- slot 68
          intro ac wk hx hsame hdep K hK
          have p64 : ∃ g, (ac.tmps.getD 64 undef) = .slice (some ⟨g, 0, none⟩) 0 0 ∧ OwnSeq wk w11.heap.size 42 36 (fun _ => IsNode w11) [] (.slice (some ⟨g, 0, none⟩) 0 0) := hdep 0 (by kernel_rfl)
          obtain ⟨g64, d64, o64⟩ := p64
          have e64 := d64
          rw [Array.getD_eq_getD_getElem?] at e64
          have p67 : ∃ ad m d, (ac.tmps.getD 67 undef) = .slice ad m d ∧ IsNodes w11 (ns.take q) (.slice ad m d) := hdep 3 (by kernel_rfl)
          obtain ⟨y67, m67, z67, d67, o67⟩ := p67
          have e67 := d67
          rw [Array.getD_eq_getD_getElem?] at e67
          clear hsame hdep
          obtain ⟨css, hcs⟩ := src_nodes o67
          exact wp_appE wk (.tmp 64) (.tmp 67) 22 rfl w11.heap.size 42 _ 88 node_info Tryd.underlying22 rfl (by decide) d64 d67 o64 (hcs.ext0 (Dr.extN hx)) HTL.out.1 HTL.out.2 (Dr.extN hx).size (fun v1 w1 h1 h2 => hK v1 w1 h2 h1)
        · -- slot 69
          intro ac wk hx hsame hdep K hK
          have d2 : ac.tmps.getD 2 undef = .pointer (some ⟨lb, 0, none⟩) := hsame 2 (by kernel_rfl)
          have e2 := d2
          rw [Array.getD_eq_getD_getElem?] at e2
          clear hsame hdep
          have hc := HCL.out wk (Dr.extN hx)
          go_simp
          exact hK _ _ (Ext.refl _ wk) rfl
        · -- slot 70
          intro ac wk hx hsame hdep K hK
          have d3 : ac.tmps.getD 3 undef = .pointer (some ⟨lb + 1, 0, none⟩) := hsame 3 (by kernel_rfl)
          have e3 := d3
          rw [Array.getD_eq_getD_getElem?] at e3
          clear hsame hdep
          have hc := HCI.out wk (Dr.extN hx)
          go_simp
          exact hK _ _ (Ext.refl _ wk) rfl
        · -- slot 71
          intro ac wk hx hsame hdep K hK
          have d70 : ac.tmps.getD 70 undef = .int .i64 (q : Int) := hdep 6 (by kernel_rfl)
          have e70 := d70
          rw [Array.getD_eq_getD_getElem?] at e70
          clear hsame hdep
          have hq1 := HQ1.out
          have hqw := HQW.out
          go_simp
          exact hK _ _ (Ext.refl _ wk) rfl
        · -- slot 72
          intro ac wk hx hsame hdep K hK
          have d69 : ac.tmps.getD 69 undef = .slice (some ⟨b, off, none⟩) n c := hdep 5 (by kernel_rfl)
          have e69 := d69
          rw [Array.getD_eq_getD_getElem?] at e69
          have d71 : ac.tmps.getD 71 undef = .int .i64 (q1 : Int) := hdep 7 (by kernel_rfl)
          have e71 := d71
          rw [Array.getD_eq_getD_getElem?] at e71
          clear hsame hdep
          exact wp_slice_known 22 (.tmp 69) (some (.tmp 71)) none rfl d69 (congrArg some d71) rfl (HDK.out wk) (hK _ _ (Ext.refl _ wk) ⟨_, _, _, rfl, HND2.out⟩)
        · intro ac wk hx hdf hsz hsame hvals
          obtain ⟨u0, f0⟩ : ∃ u, ac.tmps.getD 0 undef = u := ⟨_, rfl⟩
          obtain ⟨u1, f1⟩ : ∃ u, ac.tmps.getD 1 undef = u := ⟨_, rfl⟩
          have f2 : ac.tmps.getD 2 undef = .pointer (some ⟨lb, 0, none⟩) := hsame 2 (by kernel_rfl)
          have f3 : ac.tmps.getD 3 undef = .pointer (some ⟨lb + 1, 0, none⟩) := hsame 3 (by kernel_rfl)
          have f4 : ac.tmps.getD 4 undef = .bool false := hsame 4 (by kernel_rfl)
          have f5 : ac.tmps.getD 5 undef = .func (.func 15) #[] #[.pointer (some ⟨lb, 0, none⟩), .pointer (some ⟨lb + 1, 0, none⟩)] := hsame 5 (by kernel_rfl)
          have f6 : ac.tmps.getD 6 undef = .pointer (some ⟨p6, 0, none⟩) := hsame 6 (by kernel_rfl)
          have f7 : ac.tmps.getD 7 undef = .pointer (some ⟨p7, 0, none⟩) := hsame 7 (by kernel_rfl)
          have f8 : ac.tmps.getD 8 undef = .slice a8 m8 c8 := hsame 8 (by kernel_rfl)
          obtain ⟨u9, f9⟩ : ∃ u, ac.tmps.getD 9 undef = u := ⟨_, rfl⟩
          obtain ⟨u10, f10⟩ : ∃ u, ac.tmps.getD 10 undef = u := ⟨_, rfl⟩
          obtain ⟨u11, f11⟩ : ∃ u, ac.tmps.getD 11 undef = u := ⟨_, rfl⟩
          obtain ⟨u12, f12⟩ : ∃ u, ac.tmps.getD 12 undef = u := ⟨_, rfl⟩
          obtain ⟨u13, f13⟩ : ∃ u, ac.tmps.getD 13 undef = u := ⟨_, rfl⟩
          obtain ⟨u14, f14⟩ : ∃ u, ac.tmps.getD 14 undef = u := ⟨_, rfl⟩
          obtain ⟨u15, f15⟩ : ∃ u, ac.tmps.getD 15 undef = u := ⟨_, rfl⟩
          obtain ⟨u16, f16⟩ : ∃ u, ac.tmps.getD 16 undef = u := ⟨_, rfl⟩
          obtain ⟨u17, f17⟩ : ∃ u, ac.tmps.getD 17 undef = u := ⟨_, rfl⟩
          obtain ⟨u18, f18⟩ : ∃ u, ac.tmps.getD 18 undef = u := ⟨_, rfl⟩
          obtain ⟨u19, f19⟩ : ∃ u, ac.tmps.getD 19 undef = u := ⟨_, rfl⟩
          obtain ⟨u20, f20⟩ : ∃ u, ac.tmps.getD 20 undef = u := ⟨_, rfl⟩
          obtain ⟨u21, f21⟩ : ∃ u, ac.tmps.getD 21 undef = u := ⟨_, rfl⟩
          obtain ⟨u22, f22⟩ : ∃ u, ac.tmps.getD 22 undef = u := ⟨_, rfl⟩
          obtain ⟨u23, f23⟩ : ∃ u, ac.tmps.getD 23 undef = u := ⟨_, rfl⟩
          obtain ⟨u24, f24⟩ : ∃ u, ac.tmps.getD 24 undef = u := ⟨_, rfl⟩
          obtain ⟨u25, f25⟩ : ∃ u, ac.tmps.getD 25 undef = u := ⟨_, rfl⟩
          obtain ⟨u26, f26⟩ : ∃ u, ac.tmps.getD 26 undef = u := ⟨_, rfl⟩
          obtain ⟨u27, f27⟩ : ∃ u, ac.tmps.getD 27 undef = u := ⟨_, rfl⟩
          obtain ⟨u28, f28⟩ : ∃ u, ac.tmps.getD 28 undef = u := ⟨_, rfl⟩
          obtain ⟨u29, f29⟩ : ∃ u, ac.tmps.getD 29 undef = u := ⟨_, rfl⟩
          obtain ⟨u30, f30⟩ : ∃ u, ac.tmps.getD 30 undef = u := ⟨_, rfl⟩
          obtain ⟨u31, f31⟩ : ∃ u, ac.tmps.getD 31 undef = u := ⟨_, rfl⟩
          obtain ⟨u32, f32⟩ : ∃ u, ac.tmps.getD 32 undef = u := ⟨_, rfl⟩
          obtain ⟨u33, f33⟩ : ∃ u, ac.tmps.getD 33 undef = u := ⟨_, rfl⟩
          obtain ⟨u34, f34⟩ : ∃ u, ac.tmps.getD 34 undef = u := ⟨_, rfl⟩
          obtain ⟨u35, f35⟩ : ∃ u, ac.tmps.getD 35 undef = u := ⟨_, rfl⟩
          obtain ⟨u36, f36⟩ : ∃ u, ac.tmps.getD 36 undef = u := ⟨_, rfl⟩
          obtain ⟨u37, f37⟩ : ∃ u, ac.tmps.getD 37 undef = u := ⟨_, rfl⟩
          obtain ⟨u38, f38⟩ : ∃ u, ac.tmps.getD 38 undef = u := ⟨_, rfl⟩
          obtain ⟨u39, f39⟩ : ∃ u, ac.tmps.getD 39 undef = u := ⟨_, rfl⟩
          obtain ⟨u40, f40⟩ : ∃ u, ac.tmps.getD 40 undef = u := ⟨_, rfl⟩
          obtain ⟨u41, f41⟩ : ∃ u, ac.tmps.getD 41 undef = u := ⟨_, rfl⟩
          obtain ⟨u42, f42⟩ : ∃ u, ac.tmps.getD 42 undef = u := ⟨_, rfl⟩
          obtain ⟨u43, f43⟩ : ∃ u, ac.tmps.getD 43 undef = u := ⟨_, rfl⟩
          obtain ⟨u44, f44⟩ : ∃ u, ac.tmps.getD 44 undef = u := ⟨_, rfl⟩
          obtain ⟨u45, f45⟩ : ∃ u, ac.tmps.getD 45 undef = u := ⟨_, rfl⟩
          obtain ⟨u46, f46⟩ : ∃ u, ac.tmps.getD 46 undef = u := ⟨_, rfl⟩
          obtain ⟨u47, f47⟩ : ∃ u, ac.tmps.getD 47 undef = u := ⟨_, rfl⟩
          obtain ⟨u48, f48⟩ : ∃ u, ac.tmps.getD 48 undef = u := ⟨_, rfl⟩
          obtain ⟨u49, f49⟩ : ∃ u, ac.tmps.getD 49 undef = u := ⟨_, rfl⟩
          obtain ⟨u50, f50⟩ : ∃ u, ac.tmps.getD 50 undef = u := ⟨_, rfl⟩
          obtain ⟨u51, f51⟩ : ∃ u, ac.tmps.getD 51 undef = u := ⟨_, rfl⟩
          obtain ⟨u52, f52⟩ : ∃ u, ac.tmps.getD 52 undef = u := ⟨_, rfl⟩
          obtain ⟨u53, f53⟩ : ∃ u, ac.tmps.getD 53 undef = u := ⟨_, rfl⟩
          obtain ⟨u54, f54⟩ : ∃ u, ac.tmps.getD 54 undef = u := ⟨_, rfl⟩
          obtain ⟨u55, f55⟩ : ∃ u, ac.tmps.getD 55 undef = u := ⟨_, rfl⟩
          obtain ⟨u56, f56⟩ : ∃ u, ac.tmps.getD 56 undef = u := ⟨_, rfl⟩
          obtain ⟨u57, f57⟩ : ∃ u, ac.tmps.getD 57 undef = u := ⟨_, rfl⟩
          obtain ⟨u58, f58⟩ : ∃ u, ac.tmps.getD 58 undef = u := ⟨_, rfl⟩
          obtain ⟨u59, f59⟩ : ∃ u, ac.tmps.getD 59 undef = u := ⟨_, rfl⟩
          obtain ⟨u60, f60⟩ : ∃ u, ac.tmps.getD 60 undef = u := ⟨_, rfl⟩
          obtain ⟨u61, f61⟩ : ∃ u, ac.tmps.getD 61 undef = u := ⟨_, rfl⟩
          obtain ⟨u62, f62⟩ : ∃ u, ac.tmps.getD 62 undef = u := ⟨_, rfl⟩
          obtain ⟨u63, f63⟩ : ∃ u, ac.tmps.getD 63 undef = u := ⟨_, rfl⟩
          obtain ⟨u64, f64⟩ : ∃ u, ac.tmps.getD 64 undef = u := ⟨_, rfl⟩
          have f65 : ac.tmps.getD 65 undef = .slice (some ⟨b, off, none⟩) n c := hvals 1 (by decide)
          have f66 : ac.tmps.getD 66 undef = .int .i64 (q : Int) := hvals 2 (by decide)
          have p67 : ∃ ad m d, (ac.tmps.getD 67 undef) = .slice ad m d ∧ IsNodes w11 (ns.take q) (.slice ad m d) := hvals 3 (by decide)
          obtain ⟨a67, m67, c67, f67, o67⟩ := p67
          have p68 : OwnSeq wk w11.heap.size 42 36 (fun _ => IsNode w11) (ns.take q) (ac.tmps.getD 68 undef) := hvals 4 (by decide)
          obtain ⟨a68, m68, c68, f68, o68⟩ : ∃ aa mm cc, (ac.tmps.getD 68 undef) = .slice aa mm cc ∧ OwnSeq wk w11.heap.size 42 36 (fun _ => IsNode w11) (ns.take q) (.slice aa mm cc) := by obtain ⟨a, c, e⟩ := OwnSeq.len p68; exact ⟨a, _, c, e, by rw [← e]; exact p68⟩
          have f69 : ac.tmps.getD 69 undef = .slice (some ⟨b, off, none⟩) n c := hvals 5 (by decide)
          have f70 : ac.tmps.getD 70 undef = .int .i64 (q : Int) := hvals 6 (by decide)
          have f71 : ac.tmps.getD 71 undef = .int .i64 (q1 : Int) := hvals 7 (by decide)
          have p72 : ∃ ad m d, (ac.tmps.getD 72 undef) = .slice ad m d ∧ IsNodes w11 (ns.drop q1) (.slice ad m d) := hvals 8 (by decide)
          obtain ⟨a72, m72, c72, f72, o72⟩ := p72
          obtain ⟨u73, f73⟩ : ∃ u, ac.tmps.getD 73 undef = u := ⟨_, rfl⟩
          obtain ⟨u74, f74⟩ : ∃ u, ac.tmps.getD 74 undef = u := ⟨_, rfl⟩
          obtain ⟨u75, f75⟩ : ∃ u, ac.tmps.getD 75 undef = u := ⟨_, rfl⟩
          obtain ⟨u76, f76⟩ : ∃ u, ac.tmps.getD 76 undef = u := ⟨_, rfl⟩
          obtain ⟨u77, f77⟩ : ∃ u, ac.tmps.getD 77 undef = u := ⟨_, rfl⟩
          obtain ⟨u78, f78⟩ : ∃ u, ac.tmps.getD 78 undef = u := ⟨_, rfl⟩
          obtain ⟨u79, f79⟩ : ∃ u, ac.tmps.getD 79 undef = u := ⟨_, rfl⟩
          obtain ⟨u80, f80⟩ : ∃ u, ac.tmps.getD 80 undef = u := ⟨_, rfl⟩
          obtain ⟨u81, f81⟩ : ∃ u, ac.tmps.getD 81 undef = u := ⟨_, rfl⟩
          obtain ⟨u82, f82⟩ : ∃ u, ac.tmps.getD 82 undef = u := ⟨_, rfl⟩
          obtain ⟨u83, f83⟩ : ∃ u, ac.tmps.getD 83 undef = u := ⟨_, rfl⟩
          obtain ⟨u84, f84⟩ : ∃ u, ac.tmps.getD 84 undef = u := ⟨_, rfl⟩
          obtain ⟨u85, f85⟩ : ∃ u, ac.tmps.getD 85 undef = u := ⟨_, rfl⟩
          obtain ⟨u86, f86⟩ : ∃ u, ac.tmps.getD 86 undef = u := ⟨_, rfl⟩
          obtain ⟨u87, f87⟩ : ∃ u, ac.tmps.getD 87 undef = u := ⟨_, rfl⟩
          obtain ⟨u88, f88⟩ : ∃ u, ac.tmps.getD 88 undef = u := ⟨_, rfl⟩
          obtain ⟨u89, f89⟩ : ∃ u, ac.tmps.getD 89 undef = u := ⟨_, rfl⟩
          obtain ⟨u90, f90⟩ : ∃ u, ac.tmps.getD 90 undef = u := ⟨_, rfl⟩
          obtain ⟨u91, f91⟩ : ∃ u, ac.tmps.getD 91 undef = u := ⟨_, rfl⟩
          obtain ⟨u92, f92⟩ : ∃ u, ac.tmps.getD 92 undef = u := ⟨_, rfl⟩
          obtain ⟨u93, f93⟩ : ∃ u, ac.tmps.getD 93 undef = u := ⟨_, rfl⟩
          obtain ⟨u94, f94⟩ : ∃ u, ac.tmps.getD 94 undef = u := ⟨_, rfl⟩
          obtain ⟨u95, f95⟩ : ∃ u, ac.tmps.getD 95 undef = u := ⟨_, rfl⟩
          obtain ⟨u96, f96⟩ : ∃ u, ac.tmps.getD 96 undef = u := ⟨_, rfl⟩
          obtain ⟨u97, f97⟩ : ∃ u, ac.tmps.getD 97 undef = u := ⟨_, rfl⟩
          obtain ⟨u98, f98⟩ : ∃ u, ac.tmps.getD 98 undef = u := ⟨_, rfl⟩
          obtain ⟨u99, f99⟩ : ∃ u, ac.tmps.getD 99 undef = u := ⟨_, rfl⟩
          obtain ⟨u100, f100⟩ : ∃ u, ac.tmps.getD 100 undef = u := ⟨_, rfl⟩
          obtain ⟨u101, f101⟩ : ∃ u, ac.tmps.getD 101 undef = u := ⟨_, rfl⟩
          obtain ⟨u102, f102⟩ : ∃ u, ac.tmps.getD 102 undef = u := ⟨_, rfl⟩
          obtain ⟨u103, f103⟩ : ∃ u, ac.tmps.getD 103 undef = u := ⟨_, rfl⟩
          obtain ⟨u104, f104⟩ : ∃ u, ac.tmps.getD 104 undef = u := ⟨_, rfl⟩
          obtain ⟨u105, f105⟩ : ∃ u, ac.tmps.getD 105 undef = u := ⟨_, rfl⟩
          obtain ⟨u106, f106⟩ : ∃ u, ac.tmps.getD 106 undef = u := ⟨_, rfl⟩
          obtain ⟨u107, f107⟩ : ∃ u, ac.tmps.getD 107 undef = u := ⟨_, rfl⟩
          obtain ⟨u108, f108⟩ : ∃ u, ac.tmps.getD 108 undef = u := ⟨_, rfl⟩
          obtain ⟨u109, f109⟩ : ∃ u, ac.tmps.getD 109 undef = u := ⟨_, rfl⟩
          obtain ⟨u110, f110⟩ : ∃ u, ac.tmps.getD 110 undef = u := ⟨_, rfl⟩
          obtain ⟨u111, f111⟩ : ∃ u, ac.tmps.getD 111 undef = u := ⟨_, rfl⟩
          obtain ⟨u112, f112⟩ : ∃ u, ac.tmps.getD 112 undef = u := ⟨_, rfl⟩
          obtain ⟨u113, f113⟩ : ∃ u, ac.tmps.getD 113 undef = u := ⟨_, rfl⟩
          obtain ⟨u114, f114⟩ : ∃ u, ac.tmps.getD 114 undef = u := ⟨_, rfl⟩
          obtain ⟨u115, f115⟩ : ∃ u, ac.tmps.getD 115 undef = u := ⟨_, rfl⟩
          obtain ⟨u116, f116⟩ : ∃ u, ac.tmps.getD 116 undef = u := ⟨_, rfl⟩
          obtain ⟨u117, f117⟩ : ∃ u, ac.tmps.getD 117 undef = u := ⟨_, rfl⟩
          obtain ⟨u118, f118⟩ : ∃ u, ac.tmps.getD 118 undef = u := ⟨_, rfl⟩
          obtain ⟨u119, f119⟩ : ∃ u, ac.tmps.getD 119 undef = u := ⟨_, rfl⟩
          obtain ⟨u120, f120⟩ : ∃ u, ac.tmps.getD 120 undef = u := ⟨_, rfl⟩
          obtain ⟨u121, f121⟩ : ∃ u, ac.tmps.getD 121 undef = u := ⟨_, rfl⟩
          obtain ⟨u122, f122⟩ : ∃ u, ac.tmps.getD 122 undef = u := ⟨_, rfl⟩
          obtain ⟨u123, f123⟩ : ∃ u, ac.tmps.getD 123 undef = u := ⟨_, rfl⟩
          obtain ⟨u124, f124⟩ : ∃ u, ac.tmps.getD 124 undef = u := ⟨_, rfl⟩
          obtain ⟨u125, f125⟩ : ∃ u, ac.tmps.getD 125 undef = u := ⟨_, rfl⟩
          obtain ⟨u126, f126⟩ : ∃ u, ac.tmps.getD 126 undef = u := ⟨_, rfl⟩
          obtain ⟨u127, f127⟩ : ∃ u, ac.tmps.getD 127 undef = u := ⟨_, rfl⟩
          obtain ⟨u128, f128⟩ : ∃ u, ac.tmps.getD 128 undef = u := ⟨_, rfl⟩
          obtain ⟨u129, f129⟩ : ∃ u, ac.tmps.getD 129 undef = u := ⟨_, rfl⟩
          obtain ⟨u130, f130⟩ : ∃ u, ac.tmps.getD 130 undef = u := ⟨_, rfl⟩
          have hlit : ac = ⟨#[u0, u1, .pointer (some ⟨lb, 0, none⟩), .pointer (some ⟨lb + 1, 0, none⟩), .bool false, .func (.func 15) #[] #[.pointer (some ⟨lb, 0, none⟩), .pointer (some ⟨lb + 1, 0, none⟩)], .pointer (some ⟨p6, 0, none⟩), .pointer (some ⟨p7, 0, none⟩), .slice a8 m8 c8, u9, u10, u11, u12, u13, u14, u15, u16, u17, u18, u19, u20, u21, u22, u23, u24, u25, u26, u27, u28, u29, u30, u31, u32, u33, u34, u35, u36, u37, u38, u39, u40, u41, u42, u43, u44, u45, u46, u47, u48, u49, u50, u51, u52, u53, u54, u55, u56, u57, u58, u59, u60, u61, u62, u63, u64, .slice (some ⟨b, off, none⟩) n c, .int .i64 (q : Int), .slice a67 m67 c67, .slice a68 m68 c68, .slice (some ⟨b, off, none⟩) n c, .int .i64 (q : Int), .int .i64 (q1 : Int), .slice a72 m72 c72, u73, u74, u75, u76, u77, u78, u79, u80, u81, u82, u83, u84, u85, u86, u87, u88, u89, u90, u91, u92, u93, u94, u95, u96, u97, u98, u99, u100, u101, u102, u103, u104, u105, u106, u107, u108, u109, u110, u111, u112, u113, u114, u115, u116, u117, u118, u119, u120, u121, u122, u123, u124, u125, u126, u127, u128, u129, u130], []⟩ := by
            refine (act_lit hsz hdf).trans ?_
            rw [show List.range _ = [0, 1, 2, 3, 4, 5, 6, 7, 8, 9, 10, 11, 12, 13, 14, 15, 16, 17, 18, 19, 20, 21, 22, 23, 24, 25, 26, 27, 28, 29, 30, 31, 32, 33, 34, 35, 36, 37, 38, 39, 40, 41, 42, 43, 44, 45, 46, 47, 48, 49, 50, 51, 52, 53, 54, 55, 56, 57, 58, 59, 60, 61, 62, 63, 64, 65, 66, 67, 68, 69, 70, 71, 72, 73, 74, 75, 76, 77, 78, 79, 80, 81, 82, 83, 84, 85, 86, 87, 88, 89, 90, 91, 92, 93, 94, 95, 96, 97, 98, 99, 100, 101, 102, 103, 104, 105, 106, 107, 108, 109, 110, 111, 112, 113, 114, 115, 116, 117, 118, 119, 120, 121, 122, 123, 124, 125, 126, 127, 128, 129, 130] from rfl]
            simp only [List.map_cons, List.map_nil, f0, f1, f2, f3, f4, f5, f6, f7, f8, f9, f10, f11, f12, f13, f14, f15, f16, f17, f18, f19, f20, f21, f22, f23, f24, f25, f26, f27, f28, f29, f30, f31, f32, f33, f34, f35, f36, f37, f38, f39, f40, f41, f42, f43, f44, f45, f46, f47, f48, f49, f50, f51, f52, f53, f54, f55, f56, f57, f58, f59, f60, f61, f62, f63, f64, f65, f66, f67, f68, f69, f70, f71, f72, f73, f74, f75, f76, f77, f78, f79, f80, f81, f82, f83, f84, f85, f86, f87, f88, f89, f90, f91, f92, f93, f94, f95, f96, f97, f98, f99, f100, f101, f102, f103, f104, f105, f106, f107, f108, f109, f110, f111, f112, f113, f114, f115, f116, f117, f118, f119, f120, f121, f122, f123, f124, f125, f126, f127, f128, f129, f130]
          clear hvals hsame hdf hsz f0 f1 f2 f3 f4 f5 f6 f7 f8 f9 f10 f11 f12 f13 f14 f15 f16 f17 f18 f19 f20 f21 f22 f23 f24 f25 f26 f27 f28 f29 f30 f31 f32 f33 f34 f35 f36 f37 f38 f39 f40 f41 f42 f43 f44 f45 f46 f47 f48 f49 f50 f51 f52 f53 f54 f55 f56 f57 f58 f59 f60 f61 f62 f63 f64 f65 f66 f67 f68 f69 f70 f71 f72 f73 f74 f75 f76 f77 f78 f79 f80 f81 f82 f83 f84 f85 f86 f87 f88 f89 f90 f91 f92 f93 f94 f95 f96 f97 f98 f99 f100 f101 f102 f103 f104 f105 f106 f107 f108 f109 f110 f111 f112 f113 f114 f115 f116 f117 f118 f119 f120 f121 f122 f123 f124 f125 f126 f127 f128 f129 f130
          subst hlit
          simp only [List.drop_succ_cons, List.drop_zero]
          obtain ⟨css72, hs72⟩ := src_nodes o72
          have HO68 := Lib.hid o68; have HS72 := Lib.hid (hs72.ext0 hx); have HSZ := Lib.hid hx.size; have HXK := Lib.hid hx
          have HS1 := Lib.hid (HSUM.out q q1)
          clear o68 o72 hs72 hx
          go_wp2_with ((with_reducible refine wpList_appG _ ?_ _ _ 22 rfl w11.heap.size 42 _ _ node_info Tryd.underlying22 rfl (by decide) _ _ ?_ ?_ HO68.out HS72.out HS1.out.1 HS1.out.2 HSZ.out ?_); rfl; rfl; rfl; intro v9 w12 hown9 hg9 hat9; obtain ⟨a9, m9, c9, rfl, -⟩ := ownseq_form hown9)
          have hx12 : Ext No w11 w12 := HXK.out.grown hg9 (fun j hj h => absurd h (by have := (OwnSeq.lt HO68.out j hj).1; omega))
          have hle := ownseq_nodes hown9 hx12
          have hst := HST.out.go hx12
          have HST := Lib.hid hst; have HLE := Lib.hid hle; have HTW := Lib.hid (HTW.out.ext0 hx12); have HN6 := Lib.hid (HN6.out.ext0 hx12); have HIN := Lib.hid (HIN.out.ext0 hx12)
          clear HCL HCI HNT HND2 HTK HDK HTL hown9 hg9 hat9 HO68 HS72 HSZ HXK HS1 hle hx12
          have HCL := Lib.hid (fun W (h : Ext No w12 W) => (hst.go h).cl); have HCI := Lib.hid (fun W (h : Ext No w12 W) => (hst.go h).ci)
          have HNMW := Lib.hid (fun W (h : Ext No w W) => show W.cell? ⟨b, off + q * 36, none⟩ = some (.string (strB nd.name)) from by
            have h0 := rangeAt.ext0 HRA.out h 0 (.string (strB nd.name)) (by obtain ⟨⟨pv, h1, -⟩, -⟩ := HND.out; rw [h1]; rfl)
            exact h0)
          have HNM := Lib.hid (fun W (h : Ext No w12 W) => HNMW.out W (hst.ext.trans' h))
          have HFD := Lib.hid (fun W (h : Ext No w12 W) => show Calls Tryd.prog 16 #[.slice (some ⟨b, off, none⟩) n c, .string (strB nd.name)] W fun e w' => Ext No W w' ∧ ∃ cs5 : List Value, e = .returned (.tuple #[.agg cs5.toArray, .bool true]) ∧ Fd nd.name cs5 from
            (tfind_any ns _ nd.name W (HIN.out.ext0 h)).mono (by
              have hfs := find_self HOK.out q (by rw [← HN.out]; exact HQN.out)
              rw [HND0.out] at hfs
              rintro e w' ⟨hE, cs5, ⟨i5, hf5, rfl, hn5⟩ | ⟨hf5, -⟩⟩
              · rw [hfs] at hf5
                cases hf5
                rw [HND0.out] at hn5
                exact ⟨hE, cs5, rfl, Fd.of hn5⟩
              · rw [hfs] at hf5; cases hf5))
          clear hst
          generalize hnm : nd.name = nm at *
          have HNME := Lib.hid hnm
          clear hnm
          go_wp2_with fail
          refine ?_
          refine wp_region_copy (TerV14 nm b off n c q lb) [(10, 42, (nodeV node0 (.slice none 0 0)).toArray)] [(11, 10, fun X => ∃ cs5 : List Value, X = cs5.toArray ∧ Fd nm cs5)] (by kernel_rfl) (by kernel_rfl) (CopySteps.rdC rfl rfl ?_ (CopySteps.rdC rfl rfl ?_ (CopySteps.rdC rfl rfl ?_ (CopySteps.rdC rfl rfl ?_ (CopySteps.rdC rfl rfl ?_ (CopySteps.rdC rfl rfl ?_ (CopySteps.rdC rfl rfl ?_ (CopySteps.rdC rfl rfl ?_ (CopySteps.rdC rfl rfl ?_ (CopySteps.rdC rfl rfl ?_ (CopySteps.alC rfl rfl ?_ (CopySteps.stC rfl rfl rfl ?_ (CopySteps.rdC rfl rfl ?_ CopySteps.nil))))))))))))) ?_
          · -- slot 75
            intro ac wk hx hsame hdep K hK
            have d2 : ac.tmps.getD 2 undef = .pointer (some ⟨lb, 0, none⟩) := hsame 2 (by kernel_rfl)
            have e2 := d2
            rw [Array.getD_eq_getD_getElem?] at e2
            clear hsame hdep
            have hc := HCL.out wk (Dr.extN hx)
            go_simp
            exact hK _ _ (Ext.refl _ wk) rfl
          · -- slot 76
            intro ac wk hx hsame hdep K hK
            have d2 : ac.tmps.getD 2 undef = .pointer (some ⟨lb, 0, none⟩) := hsame 2 (by kernel_rfl)
            have e2 := d2
            rw [Array.getD_eq_getD_getElem?] at e2
            clear hsame hdep
            have hc := HCL.out wk (Dr.extN hx)
            go_simp
            exact hK _ _ (Ext.refl _ wk) rfl
          · -- slot 77
            intro ac wk hx hsame hdep K hK
            have d3 : ac.tmps.getD 3 undef = .pointer (some ⟨lb + 1, 0, none⟩) := hsame 3 (by kernel_rfl)
            have e3 := d3
            rw [Array.getD_eq_getD_getElem?] at e3
            clear hsame hdep
            have hc := HCI.out wk (Dr.extN hx)
            go_simp
            exact hK _ _ (Ext.refl _ wk) rfl
          · -- slot 78
            intro ac wk hx hsame hdep K hK
            have d76 : ac.tmps.getD 76 undef = .slice (some ⟨b, off, none⟩) n c := hdep 1 (by kernel_rfl)
            have e76 := d76
            rw [Array.getD_eq_getD_getElem?] at e76
            have d77 : ac.tmps.getD 77 undef = .int .i64 (q : Int) := hdep 2 (by kernel_rfl)
            have e77 := d77
            rw [Array.getD_eq_getD_getElem?] at e77
            clear hsame hdep
            go_simp
            exact hK _ _ (Ext.refl _ wk) rfl
          · -- slot 79
            intro ac wk hx hsame hdep K hK
            have d78 : ac.tmps.getD 78 undef = .pointer (some ⟨b, off + q * 36, none⟩) := hdep 3 (by kernel_rfl)
            have e78 := d78
            rw [Array.getD_eq_getD_getElem?] at e78
            clear hsame hdep
            go_simp
            exact hK _ _ (Ext.refl _ wk) rfl
          · -- slot 80
            intro ac wk hx hsame hdep K hK
            have d79 : ac.tmps.getD 79 undef = .pointer (some ⟨b, off + q * 36, none⟩) := hdep 4 (by kernel_rfl)
            have e79 := d79
            rw [Array.getD_eq_getD_getElem?] at e79
            clear hsame hdep
            have hc := HNM.out wk (Dr.extN hx)
            go_simp
            exact hK _ _ (Ext.refl _ wk) rfl
          · -- slot 81
            intro ac wk hx hsame hdep K hK
            have d75 : ac.tmps.getD 75 undef = .slice (some ⟨b, off, none⟩) n c := hdep 0 (by kernel_rfl)
            have e75 := d75
            rw [Array.getD_eq_getD_getElem?] at e75
            have d80 : ac.tmps.getD 80 undef = .string (strB nm) := hdep 5 (by kernel_rfl)
            have e80 := d80
            rw [Array.getD_eq_getD_getElem?] at e80
            clear hsame hdep
            go_simp
            refine (HFD.out wk (Dr.extN hx)).mono ?_
            rintro e w' ⟨hx', cs5, rfl, h5⟩
            exact hK _ _ hx' ⟨cs5, rfl, h5⟩
          · -- slot 74
            intro ac wk hx hsame hdep K hK
            have p81 : ∃ cs5 : List Value, (ac.tmps.getD 81 undef) = .tuple #[.agg cs5.toArray, .bool true] ∧ Fd nm cs5 := hdep 6 (by kernel_rfl)
            obtain ⟨cs81, d81, o81⟩ := p81
            have e81 := d81
            rw [Array.getD_eq_getD_getElem?] at e81
            clear hsame hdep
            go_simp
            exact hK _ _ (Ext.refl _ wk) ⟨_, rfl, o81⟩
          · -- slot 82
            intro ac wk hx hsame hdep K hK
            have p74 : ∃ cs5 : List Value, (ac.tmps.getD 74 undef) = .tuple #[.agg cs5.toArray, .bool true] ∧ Fd nm cs5 := hdep 7 (by kernel_rfl)
            obtain ⟨cs74, d74, o74⟩ := p74
            have e74 := d74
            rw [Array.getD_eq_getD_getElem?] at e74
            clear hsame hdep
            go_simp
            exact hK _ _ (Ext.refl _ wk) ⟨_, rfl, o74⟩
          · -- slot 83
            intro ac wk hx hsame hdep K hK
            have p74 : ∃ cs5 : List Value, (ac.tmps.getD 74 undef) = .tuple #[.agg cs5.toArray, .bool true] ∧ Fd nm cs5 := hdep 7 (by kernel_rfl)
            obtain ⟨cs74, d74, o74⟩ := p74
            have e74 := d74
            rw [Array.getD_eq_getD_getElem?] at e74
            clear hsame hdep
            go_simp
            exact hK _ _ (Ext.refl _ wk) rfl
          · -- slot 10
            intro ac wk K hK
            go_simp
            exact hK
          · -- store
            intro ac wk p X hp hb hz hdep K hK
            obtain ⟨cs5, dv, ho⟩ : ∃ cs5 : List Value, ac.tmps.getD 82 undef = .agg cs5.toArray ∧ Fd nm cs5 := hdep 8 (by kernel_rfl)
            exact wp_store_blk 42 (.tmp 10) (.tmp 82) rfl rfl hp dv hb (te_info ho.1) (hz.trans (te_size ho.1)) ho.2.1 (hK _ ⟨cs5, rfl, ho⟩ (te_size ho.1).symm)
          · -- slot 11
            intro ac wk hx hsame hdep K hK
            have d83 : ac.tmps.getD 83 undef = .bool true := hdep 9 (by kernel_rfl)
            have e83 := d83
            rw [Array.getD_eq_getD_getElem?] at e83
            clear hsame hdep
            go_simp
            exact hK _ _ (Ext.refl _ wk) rfl
          · intro ac wk hx hdf hsz hsame hvals hals hsep
            obtain ⟨u0, f0⟩ : ∃ u, ac.tmps.getD 0 undef = u := ⟨_, rfl⟩
            obtain ⟨u1, f1⟩ : ∃ u, ac.tmps.getD 1 undef = u := ⟨_, rfl⟩
            have f2 : ac.tmps.getD 2 undef = .pointer (some ⟨lb, 0, none⟩) := hsame 2 (by kernel_rfl)
            have f3 : ac.tmps.getD 3 undef = .pointer (some ⟨lb + 1, 0, none⟩) := hsame 3 (by kernel_rfl)
            have f4 : ac.tmps.getD 4 undef = .bool false := hsame 4 (by kernel_rfl)
            have f5 : ac.tmps.getD 5 undef = .func (.func 15) #[] #[.pointer (some ⟨lb, 0, none⟩), .pointer (some ⟨lb + 1, 0, none⟩)] := hsame 5 (by kernel_rfl)
            have f6 : ac.tmps.getD 6 undef = .pointer (some ⟨p6, 0, none⟩) := hsame 6 (by kernel_rfl)
            have f7 : ac.tmps.getD 7 undef = .pointer (some ⟨p7, 0, none⟩) := hsame 7 (by kernel_rfl)
            have f8 : ac.tmps.getD 8 undef = .slice a8 m8 c8 := hsame 8 (by kernel_rfl)
            have f9 : ac.tmps.getD 9 undef = .slice a9 m9 c9 := hsame 9 (by kernel_rfl)
            obtain ⟨p10, X10, g10, hp10, hb10, hs10, hn10⟩ := hals 10 _ _ (by decide) rfl rfl
            have f10 : ac.tmps.getD 10 undef = .pointer (some ⟨p10, 0, none⟩) := g10
            clear g10
            have hC10 := hs10 11 _ (by decide) rfl
            obtain ⟨cs10, rfl, hF10⟩ := hC10
            clear hs10 hn10
            have f11 : ac.tmps.getD 11 undef = .bool true := hvals 12 (by decide) rfl rfl
            obtain ⟨u12, f12⟩ : ∃ u, ac.tmps.getD 12 undef = u := ⟨_, rfl⟩
            obtain ⟨u13, f13⟩ : ∃ u, ac.tmps.getD 13 undef = u := ⟨_, rfl⟩
            obtain ⟨u14, f14⟩ : ∃ u, ac.tmps.getD 14 undef = u := ⟨_, rfl⟩
            obtain ⟨u15, f15⟩ : ∃ u, ac.tmps.getD 15 undef = u := ⟨_, rfl⟩
            obtain ⟨u16, f16⟩ : ∃ u, ac.tmps.getD 16 undef = u := ⟨_, rfl⟩
            obtain ⟨u17, f17⟩ : ∃ u, ac.tmps.getD 17 undef = u := ⟨_, rfl⟩
            obtain ⟨u18, f18⟩ : ∃ u, ac.tmps.getD 18 undef = u := ⟨_, rfl⟩
            obtain ⟨u19, f19⟩ : ∃ u, ac.tmps.getD 19 undef = u := ⟨_, rfl⟩
            obtain ⟨u20, f20⟩ : ∃ u, ac.tmps.getD 20 undef = u := ⟨_, rfl⟩
            obtain ⟨u21, f21⟩ : ∃ u, ac.tmps.getD 21 undef = u := ⟨_, rfl⟩
            obtain ⟨u22, f22⟩ : ∃ u, ac.tmps.getD 22 undef = u := ⟨_, rfl⟩
            obtain ⟨u23, f23⟩ : ∃ u, ac.tmps.getD 23 undef = u := ⟨_, rfl⟩
            obtain ⟨u24, f24⟩ : ∃ u, ac.tmps.getD 24 undef = u := ⟨_, rfl⟩
            obtain ⟨u25, f25⟩ : ∃ u, ac.tmps.getD 25 undef = u := ⟨_, rfl⟩
            obtain ⟨u26, f26⟩ : ∃ u, ac.tmps.getD 26 undef = u := ⟨_, rfl⟩
            obtain ⟨u27, f27⟩ : ∃ u, ac.tmps.getD 27 undef = u := ⟨_, rfl⟩
            obtain ⟨u28, f28⟩ : ∃ u, ac.tmps.getD 28 undef = u := ⟨_, rfl⟩
            obtain ⟨u29, f29⟩ : ∃ u, ac.tmps.getD 29 undef = u := ⟨_, rfl⟩
            obtain ⟨u30, f30⟩ : ∃ u, ac.tmps.getD 30 undef = u := ⟨_, rfl⟩
            obtain ⟨u31, f31⟩ : ∃ u, ac.tmps.getD 31 undef = u := ⟨_, rfl⟩
            obtain ⟨u32, f32⟩ : ∃ u, ac.tmps.getD 32 undef = u := ⟨_, rfl⟩
            obtain ⟨u33, f33⟩ : ∃ u, ac.tmps.getD 33 undef = u := ⟨_, rfl⟩
            obtain ⟨u34, f34⟩ : ∃ u, ac.tmps.getD 34 undef = u := ⟨_, rfl⟩
            obtain ⟨u35, f35⟩ : ∃ u, ac.tmps.getD 35 undef = u := ⟨_, rfl⟩
            obtain ⟨u36, f36⟩ : ∃ u, ac.tmps.getD 36 undef = u := ⟨_, rfl⟩
            obtain ⟨u37, f37⟩ : ∃ u, ac.tmps.getD 37 undef = u := ⟨_, rfl⟩
            obtain ⟨u38, f38⟩ : ∃ u, ac.tmps.getD 38 undef = u := ⟨_, rfl⟩
            obtain ⟨u39, f39⟩ : ∃ u, ac.tmps.getD 39 undef = u := ⟨_, rfl⟩
            obtain ⟨u40, f40⟩ : ∃ u, ac.tmps.getD 40 undef = u := ⟨_, rfl⟩
            obtain ⟨u41, f41⟩ : ∃ u, ac.tmps.getD 41 undef = u := ⟨_, rfl⟩
            obtain ⟨u42, f42⟩ : ∃ u, ac.tmps.getD 42 undef = u := ⟨_, rfl⟩
            obtain ⟨u43, f43⟩ : ∃ u, ac.tmps.getD 43 undef = u := ⟨_, rfl⟩
            obtain ⟨u44, f44⟩ : ∃ u, ac.tmps.getD 44 undef = u := ⟨_, rfl⟩
            obtain ⟨u45, f45⟩ : ∃ u, ac.tmps.getD 45 undef = u := ⟨_, rfl⟩
            obtain ⟨u46, f46⟩ : ∃ u, ac.tmps.getD 46 undef = u := ⟨_, rfl⟩
            obtain ⟨u47, f47⟩ : ∃ u, ac.tmps.getD 47 undef = u := ⟨_, rfl⟩
            obtain ⟨u48, f48⟩ : ∃ u, ac.tmps.getD 48 undef = u := ⟨_, rfl⟩
            obtain ⟨u49, f49⟩ : ∃ u, ac.tmps.getD 49 undef = u := ⟨_, rfl⟩
            obtain ⟨u50, f50⟩ : ∃ u, ac.tmps.getD 50 undef = u := ⟨_, rfl⟩
            obtain ⟨u51, f51⟩ : ∃ u, ac.tmps.getD 51 undef = u := ⟨_, rfl⟩
            obtain ⟨u52, f52⟩ : ∃ u, ac.tmps.getD 52 undef = u := ⟨_, rfl⟩
            obtain ⟨u53, f53⟩ : ∃ u, ac.tmps.getD 53 undef = u := ⟨_, rfl⟩
            obtain ⟨u54, f54⟩ : ∃ u, ac.tmps.getD 54 undef = u := ⟨_, rfl⟩
            obtain ⟨u55, f55⟩ : ∃ u, ac.tmps.getD 55 undef = u := ⟨_, rfl⟩
            obtain ⟨u56, f56⟩ : ∃ u, ac.tmps.getD 56 undef = u := ⟨_, rfl⟩
            obtain ⟨u57, f57⟩ : ∃ u, ac.tmps.getD 57 undef = u := ⟨_, rfl⟩
            obtain ⟨u58, f58⟩ : ∃ u, ac.tmps.getD 58 undef = u := ⟨_, rfl⟩
            obtain ⟨u59, f59⟩ : ∃ u, ac.tmps.getD 59 undef = u := ⟨_, rfl⟩
            obtain ⟨u60, f60⟩ : ∃ u, ac.tmps.getD 60 undef = u := ⟨_, rfl⟩
            obtain ⟨u61, f61⟩ : ∃ u, ac.tmps.getD 61 undef = u := ⟨_, rfl⟩
            obtain ⟨u62, f62⟩ : ∃ u, ac.tmps.getD 62 undef = u := ⟨_, rfl⟩
            obtain ⟨u63, f63⟩ : ∃ u, ac.tmps.getD 63 undef = u := ⟨_, rfl⟩
            obtain ⟨u64, f64⟩ : ∃ u, ac.tmps.getD 64 undef = u := ⟨_, rfl⟩
            obtain ⟨u65, f65⟩ : ∃ u, ac.tmps.getD 65 undef = u := ⟨_, rfl⟩
            obtain ⟨u66, f66⟩ : ∃ u, ac.tmps.getD 66 undef = u := ⟨_, rfl⟩
            obtain ⟨u67, f67⟩ : ∃ u, ac.tmps.getD 67 undef = u := ⟨_, rfl⟩
            obtain ⟨u68, f68⟩ : ∃ u, ac.tmps.getD 68 undef = u := ⟨_, rfl⟩
            obtain ⟨u69, f69⟩ : ∃ u, ac.tmps.getD 69 undef = u := ⟨_, rfl⟩
            obtain ⟨u70, f70⟩ : ∃ u, ac.tmps.getD 70 undef = u := ⟨_, rfl⟩
            obtain ⟨u71, f71⟩ : ∃ u, ac.tmps.getD 71 undef = u := ⟨_, rfl⟩
            obtain ⟨u72, f72⟩ : ∃ u, ac.tmps.getD 72 undef = u := ⟨_, rfl⟩
            obtain ⟨u73, f73⟩ : ∃ u, ac.tmps.getD 73 undef = u := ⟨_, rfl⟩
            obtain ⟨u74, f74⟩ : ∃ u, ac.tmps.getD 74 undef = u := ⟨_, rfl⟩
            have f75 : ac.tmps.getD 75 undef = .slice (some ⟨b, off, none⟩) n c := hvals 0 (by decide) rfl rfl
            have f76 : ac.tmps.getD 76 undef = .slice (some ⟨b, off, none⟩) n c := hvals 1 (by decide) rfl rfl
            have f77 : ac.tmps.getD 77 undef = .int .i64 (q : Int) := hvals 2 (by decide) rfl rfl
            have f78 : ac.tmps.getD 78 undef = .pointer (some ⟨b, off + q * 36, none⟩) := hvals 3 (by decide) rfl rfl
            have f79 : ac.tmps.getD 79 undef = .pointer (some ⟨b, off + q * 36, none⟩) := hvals 4 (by decide) rfl rfl
            have f80 : ac.tmps.getD 80 undef = .string (strB nm) := hvals 5 (by decide) rfl rfl
            obtain ⟨u81, f81⟩ : ∃ u, ac.tmps.getD 81 undef = u := ⟨_, rfl⟩
            obtain ⟨u82, f82⟩ : ∃ u, ac.tmps.getD 82 undef = u := ⟨_, rfl⟩
            have f83 : ac.tmps.getD 83 undef = .bool true := hvals 9 (by decide) rfl rfl
            obtain ⟨u84, f84⟩ : ∃ u, ac.tmps.getD 84 undef = u := ⟨_, rfl⟩
            obtain ⟨u85, f85⟩ : ∃ u, ac.tmps.getD 85 undef = u := ⟨_, rfl⟩
            obtain ⟨u86, f86⟩ : ∃ u, ac.tmps.getD 86 undef = u := ⟨_, rfl⟩
            obtain ⟨u87, f87⟩ : ∃ u, ac.tmps.getD 87 undef = u := ⟨_, rfl⟩
            obtain ⟨u88, f88⟩ : ∃ u, ac.tmps.getD 88 undef = u := ⟨_, rfl⟩
            obtain ⟨u89, f89⟩ : ∃ u, ac.tmps.getD 89 undef = u := ⟨_, rfl⟩
            obtain ⟨u90, f90⟩ : ∃ u, ac.tmps.getD 90 undef = u := ⟨_, rfl⟩
            obtain ⟨u91, f91⟩ : ∃ u, ac.tmps.getD 91 undef = u := ⟨_, rfl⟩
            obtain ⟨u92, f92⟩ : ∃ u, ac.tmps.getD 92 undef = u := ⟨_, rfl⟩
            obtain ⟨u93, f93⟩ : ∃ u, ac.tmps.getD 93 undef = u := ⟨_, rfl⟩
            obtain ⟨u94, f94⟩ : ∃ u, ac.tmps.getD 94 undef = u := ⟨_, rfl⟩
            obtain ⟨u95, f95⟩ : ∃ u, ac.tmps.getD 95 undef = u := ⟨_, rfl⟩
            obtain ⟨u96, f96⟩ : ∃ u, ac.tmps.getD 96 undef = u := ⟨_, rfl⟩
            obtain ⟨u97, f97⟩ : ∃ u, ac.tmps.getD 97 undef = u := ⟨_, rfl⟩
            obtain ⟨u98, f98⟩ : ∃ u, ac.tmps.getD 98 undef = u := ⟨_, rfl⟩
            obtain ⟨u99, f99⟩ : ∃ u, ac.tmps.getD 99 undef = u := ⟨_, rfl⟩
            obtain ⟨u100, f100⟩ : ∃ u, ac.tmps.getD 100 undef = u := ⟨_, rfl⟩
            obtain ⟨u101, f101⟩ : ∃ u, ac.tmps.getD 101 undef = u := ⟨_, rfl⟩
            obtain ⟨u102, f102⟩ : ∃ u, ac.tmps.getD 102 undef = u := ⟨_, rfl⟩
            obtain ⟨u103, f103⟩ : ∃ u, ac.tmps.getD 103 undef = u := ⟨_, rfl⟩
            obtain ⟨u104, f104⟩ : ∃ u, ac.tmps.getD 104 undef = u := ⟨_, rfl⟩
            obtain ⟨u105, f105⟩ : ∃ u, ac.tmps.getD 105 undef = u := ⟨_, rfl⟩
            obtain ⟨u106, f106⟩ : ∃ u, ac.tmps.getD 106 undef = u := ⟨_, rfl⟩
            obtain ⟨u107, f107⟩ : ∃ u, ac.tmps.getD 107 undef = u := ⟨_, rfl⟩
            obtain ⟨u108, f108⟩ : ∃ u, ac.tmps.getD 108 undef = u := ⟨_, rfl⟩
            obtain ⟨u109, f109⟩ : ∃ u, ac.tmps.getD 109 undef = u := ⟨_, rfl⟩
            obtain ⟨u110, f110⟩ : ∃ u, ac.tmps.getD 110 undef = u := ⟨_, rfl⟩
            obtain ⟨u111, f111⟩ : ∃ u, ac.tmps.getD 111 undef = u := ⟨_, rfl⟩
            obtain ⟨u112, f112⟩ : ∃ u, ac.tmps.getD 112 undef = u := ⟨_, rfl⟩
            obtain ⟨u113, f113⟩ : ∃ u, ac.tmps.getD 113 undef = u := ⟨_, rfl⟩
            obtain ⟨u114, f114⟩ : ∃ u, ac.tmps.getD 114 undef = u := ⟨_, rfl⟩
            obtain ⟨u115, f115⟩ : ∃ u, ac.tmps.getD 115 undef = u := ⟨_, rfl⟩
            obtain ⟨u116, f116⟩ : ∃ u, ac.tmps.getD 116 undef = u := ⟨_, rfl⟩
            obtain ⟨u117, f117⟩ : ∃ u, ac.tmps.getD 117 undef = u := ⟨_, rfl⟩
            obtain ⟨u118, f118⟩ : ∃ u, ac.tmps.getD 118 undef = u := ⟨_, rfl⟩
            obtain ⟨u119, f119⟩ : ∃ u, ac.tmps.getD 119 undef = u := ⟨_, rfl⟩
            obtain ⟨u120, f120⟩ : ∃ u, ac.tmps.getD 120 undef = u := ⟨_, rfl⟩
            obtain ⟨u121, f121⟩ : ∃ u, ac.tmps.getD 121 undef = u := ⟨_, rfl⟩
            obtain ⟨u122, f122⟩ : ∃ u, ac.tmps.getD 122 undef = u := ⟨_, rfl⟩
            obtain ⟨u123, f123⟩ : ∃ u, ac.tmps.getD 123 undef = u := ⟨_, rfl⟩
            obtain ⟨u124, f124⟩ : ∃ u, ac.tmps.getD 124 undef = u := ⟨_, rfl⟩
            obtain ⟨u125, f125⟩ : ∃ u, ac.tmps.getD 125 undef = u := ⟨_, rfl⟩
            obtain ⟨u126, f126⟩ : ∃ u, ac.tmps.getD 126 undef = u := ⟨_, rfl⟩
            obtain ⟨u127, f127⟩ : ∃ u, ac.tmps.getD 127 undef = u := ⟨_, rfl⟩
            obtain ⟨u128, f128⟩ : ∃ u, ac.tmps.getD 128 undef = u := ⟨_, rfl⟩
            obtain ⟨u129, f129⟩ : ∃ u, ac.tmps.getD 129 undef = u := ⟨_, rfl⟩
            obtain ⟨u130, f130⟩ : ∃ u, ac.tmps.getD 130 undef = u := ⟨_, rfl⟩
            have hlit : ac = ⟨#[u0, u1, .pointer (some ⟨lb, 0, none⟩), .pointer (some ⟨lb + 1, 0, none⟩), .bool false, .func (.func 15) #[] #[.pointer (some ⟨lb, 0, none⟩), .pointer (some ⟨lb + 1, 0, none⟩)], .pointer (some ⟨p6, 0, none⟩), .pointer (some ⟨p7, 0, none⟩), .slice a8 m8 c8, .slice a9 m9 c9, .pointer (some ⟨p10, 0, none⟩), .bool true, u12, u13, u14, u15, u16, u17, u18, u19, u20, u21, u22, u23, u24, u25, u26, u27, u28, u29, u30, u31, u32, u33, u34, u35, u36, u37, u38, u39, u40, u41, u42, u43, u44, u45, u46, u47, u48, u49, u50, u51, u52, u53, u54, u55, u56, u57, u58, u59, u60, u61, u62, u63, u64, u65, u66, u67, u68, u69, u70, u71, u72, u73, u74, .slice (some ⟨b, off, none⟩) n c, .slice (some ⟨b, off, none⟩) n c, .int .i64 (q : Int), .pointer (some ⟨b, off + q * 36, none⟩), .pointer (some ⟨b, off + q * 36, none⟩), .string (strB nm), u81, u82, .bool true, u84, u85, u86, u87, u88, u89, u90, u91, u92, u93, u94, u95, u96, u97, u98, u99, u100, u101, u102, u103, u104, u105, u106, u107, u108, u109, u110, u111, u112, u113, u114, u115, u116, u117, u118, u119, u120, u121, u122, u123, u124, u125, u126, u127, u128, u129, u130], []⟩ := by
              refine (act_lit hsz hdf).trans ?_
              rw [show List.range _ = [0, 1, 2, 3, 4, 5, 6, 7, 8, 9, 10, 11, 12, 13, 14, 15, 16, 17, 18, 19, 20, 21, 22, 23, 24, 25, 26, 27, 28, 29, 30, 31, 32, 33, 34, 35, 36, 37, 38, 39, 40, 41, 42, 43, 44, 45, 46, 47, 48, 49, 50, 51, 52, 53, 54, 55, 56, 57, 58, 59, 60, 61, 62, 63, 64, 65, 66, 67, 68, 69, 70, 71, 72, 73, 74, 75, 76, 77, 78, 79, 80, 81, 82, 83, 84, 85, 86, 87, 88, 89, 90, 91, 92, 93, 94, 95, 96, 97, 98, 99, 100, 101, 102, 103, 104, 105, 106, 107, 108, 109, 110, 111, 112, 113, 114, 115, 116, 117, 118, 119, 120, 121, 122, 123, 124, 125, 126, 127, 128, 129, 130] from rfl]
              simp only [List.map_cons, List.map_nil, f0, f1, f2, f3, f4, f5, f6, f7, f8, f9, f10, f11, f12, f13, f14, f15, f16, f17, f18, f19, f20, f21, f22, f23, f24, f25, f26, f27, f28, f29, f30, f31, f32, f33, f34, f35, f36, f37, f38, f39, f40, f41, f42, f43, f44, f45, f46, f47, f48, f49, f50, f51, f52, f53, f54, f55, f56, f57, f58, f59, f60, f61, f62, f63, f64, f65, f66, f67, f68, f69, f70, f71, f72, f73, f74, f75, f76, f77, f78, f79, f80, f81, f82, f83, f84, f85, f86, f87, f88, f89, f90, f91, f92, f93, f94, f95, f96, f97, f98, f99, f100, f101, f102, f103, f104, f105, f106, f107, f108, f109, f110, f111, f112, f113, f114, f115, f116, f117, f118, f119, f120, f121, f122, f123, f124, f125, f126, f127, f128, f129, f130]
            clear hvals hsame hdf hsz hals hsep f0 f1 f2 f3 f4 f5 f6 f7 f8 f9 f10 f11 f12 f13 f14 f15 f16 f17 f18 f19 f20 f21 f22 f23 f24 f25 f26 f27 f28 f29 f30 f31 f32 f33 f34 f35 f36 f37 f38 f39 f40 f41 f42 f43 f44 f45 f46 f47 f48 f49 f50 f51 f52 f53 f54 f55 f56 f57 f58 f59 f60 f61 f62 f63 f64 f65 f66 f67 f68 f69 f70 f71 f72 f73 f74 f75 f76 f77 f78 f79 f80 f81 f82 f83 f84 f85 f86 f87 f88 f89 f90 f91 f92 f93 f94 f95 f96 f97 f98 f99 f100 f101 f102 f103 f104 f105 f106 f107 f108 f109 f110 f111 f112 f113 f114 f115 f116 f117 f118 f119 f120 f121 f122 f123 f124 f125 f126 f127 f128 f129 f130
            subst hlit
            have hst := HST.out.go hx
            have HST := Lib.hid hst; have HLE := Lib.hid (HLE.out.ext0 hx); have HTW := Lib.hid (HTW.out.ext0 hx); have HN6 := Lib.hid (HN6.out.ext0 hx); have HB10 := Lib.hid hb10; have HF10 := Lib.hid hF10; have HIN := Lib.hid (HIN.out.ext0 hx)
            have c1 := hst.cl; have c2 := hst.ci; have c3 := HNMW.out wk hst.ext
            have hqn := HQN.out
            have hqnI : (q : Int) < n := by omega
            clear hx hst hb10 hF10 HCL HCI HNM HFD hp10
            go_wp2_with fail
            refine (tfind_any (ns.take q ++ ns.drop q1) _ nm wk HLE.out).mono ?_
            rintro e w14 ⟨hE14, cs12, ⟨i12, hf12, -⟩ | ⟨-, rfl, hn12⟩⟩
            case inl =>
              have hg := find_gone HOK.out q (by rw [← HN.out]; exact HQN.out)
              rw [HND0.out, HNME.out, HQ1N.out, hf12] at hg
              cases hg
            have HS12 := Lib.hid (store_node w14 cs12 hn12.length hn12.one)
            have hx14 : Ext No wk (w14.alloc (.cells cs12.toArray 42)) := hE14.alloc _
            obtain ⟨w15, hw15⟩ : ∃ w15, w14.alloc (.cells cs12.toArray 42) = w15 := ⟨_, rfl⟩
            have hst := HST.out.go hx14
            rw [hw15] at hst hx14
            have hn6 := HN6.out.ext0 hx14; have htw := HTW.out.ext0 hx14; have hle := HLE.out.ext0 hx14; have hb10 := HB10.out.ext hx14 (fun s => s)
            have HW15 := Lib.hid hw15; have HST := Lib.hid hst
            have HCL := Lib.hid (fun W (h : Ext No w15 W) => (hst.go h).cl); have HCI := Lib.hid (fun W (h : Ext No w15 W) => (hst.go h).ci)
            have HNM := Lib.hid (fun W (h : Ext No w15 W) => HNMW.out W (hst.ext.trans' h))
            have HN10 := Lib.hid (fun W (h : Ext No w15 W) => show W.cell? ⟨p10, 0, none⟩ = some (.string (strB nm)) by rw [(hb10.ext h (fun s => s)).cell]; have := HF10.out.2.2; simpa using this)
            have HLD6 := Lib.hid (fun W (h : Ext No w15 W) => node_loadT (rangeAt.blk (hst.b6.ext h (fun s => s)) 0) hn6.length W (Ext.refl No W))
            have HLD7 := Lib.hid (fun W (h : Ext No w15 W) => node_loadT (rangeAt.blk (hst.b7.ext h (fun s => s)) 0) hst.n7.length W (Ext.refl No W))
            have hq' : q < ns.length := by rw [← HN.out]; exact HQN.out
            have hl5 : ns.length ≤ 512 := (nodes_ok HOK.out).1
            have hset6 : nodesE (ns.set q (nd6 nd)) = 38 := (chk_set hq' hl5 HOK.out (nd6 nd)).1 part_ab
            have hset7 : nodesE (ns.set q (nd7 nd)) = 21 := by
              have h := (chk_set hq' hl5 HOK.out (nd7 nd)).2 (by rw [nd7_name, HND0.out]) (by rw [nd7_bad]; decide)
              rw [h, nd7_bad]
            have hnmle : nd.name.length ≤ 1000000000 := HNL.out nd (by rw [← HND0.out, List.getD_eq_getElem?_getD, List.getElem?_eq_getElem hq']; exact List.getElem_mem _)
            have hin15 := HIN.out.ext0 hx14
            have HC6 := Lib.hid (fun W (h : Ext No w15 W) => show Calls Tryd.prog 15 #[.agg cs6.toArray, .pointer (some ⟨lb, 0, none⟩), .pointer (some ⟨lb + 1, 0, none⟩)] W fun e w' => e = .returned (.int .i64 38) ∧ Ext No W w' from by
              have h1 := tset_any ns (nd6 nd) cs6 _ n c lb (lb + 1) q W (hin15.ext0 h) (hn6.ext0 h) (hst.bl.ext h (fun s => s)) (hst.bi.ext h (fun s => s)) hq' H30.out HNL.out (show ([97, 47, 98] : List UInt8).length ≤ 1000000000 by decide)
              rw [hset6] at h1; exact h1)
            have HC7 := Lib.hid (fun W (h : Ext No w15 W) => show Calls Tryd.prog 15 #[.agg cs7.toArray, .pointer (some ⟨lb, 0, none⟩), .pointer (some ⟨lb + 1, 0, none⟩)] W fun e w' => e = .returned (.int .i64 21) ∧ Ext No W w' from by
              have h1 := tset_any ns (nd7 nd) cs7 _ n c lb (lb + 1) q W (hin15.ext0 h) (hst.n7.ext0 h) (hst.bl.ext h (fun s => s)) (hst.bi.ext h (fun s => s)) hq' H30.out HNL.out (by rw [nd7_name]; exact hnmle)
              rw [hset7] at h1; exact h1)
            have htwice : nodesE (ns.take q1 ++ ns.drop q) = 24 := by rw [← HQ1N.out]; exact chk_twice hq' (by have := (few_ok HFX.out).1; have := HN30.out; have := HN.out; omega) HOK.out
            have hless : nodesE (ns.take q ++ ns.drop q1) = 0 := by rw [← HQ1N.out]; exact chk_less hq' hl5 HOK.out
            have HC8 := Lib.hid (fun W (h : Ext No w15 W) => show Calls Tryd.prog 14 #[.slice a8 m8 c8] W fun e w' => e = .returned (.int .i64 24) ∧ Ext No W w' from by
              have h1 := tcheck_any (ns.take q1 ++ ns.drop q) _ W (htw.ext0 h) (fun m hm => HNL.out m (by rcases List.mem_append.1 hm with h | h; exact List.mem_of_mem_take h; exact List.mem_of_mem_drop h))
              rw [htwice] at h1; exact h1)
            have HC9 := Lib.hid (fun W (h : Ext No w15 W) => show Calls Tryd.prog 14 #[.slice a9 m9 c9] W fun e w' => e = .returned (.int .i64 0) ∧ Ext No W w' from by
              have h1 := tcheck_any (ns.take q ++ ns.drop q1) _ W (hle.ext0 h) (fun m hm => HNL.out m (by rcases List.mem_append.1 hm with h | h; exact List.mem_of_mem_take h; exact List.mem_of_mem_drop h))
              rw [hless] at h1; exact h1)
            clear hE14 hn12 hw15 hx14 hst hn6 htw hle hb10 c1 c2 c3 hset6 hset7 htwice hless hq' hl5 hnmle hin15
            dsimp only
            go_wp2_with ((with_reducible refine wpList_store_at ?_ 42 _ _ rfl ?_ ?_ (HS12.out _ ?_) ?_); rfl; rfl; rfl; rfl)
            rw [HW15.out]
            refine wp_region_headG 37 (fun i => !([] : List Nat).contains i) No (TerV16 nm cs6 cs7 b off n c q lb p6 p7 p10 m8 c8 m9 c9 a8 a9) (by kernel_rfl) (by kernel_rfl) (by kernel_rfl) (TerV16_ext nm cs6 cs7 b off n c q lb p6 p7 p10 m8 c8 m9 c9 a8 a9) (HeadStepsG.cons (by rfl) (by exact trivial) ?_ (HeadStepsG.cons (by rfl) (by exact trivial) ?_ (HeadStepsG.cons (by rfl) (by exact trivial) ?_ (HeadStepsG.cons (by rfl) (by exact trivial) ?_ (HeadStepsG.cons (by rfl) (by exact trivial) ?_ (HeadStepsG.cons (by rfl) (by exact fun _ _ h => h) ?_ (HeadStepsG.cons (by rfl) (by exact fun _ _ h => h) ?_ (HeadStepsG.cons (by rfl) (by exact fun _ _ h => h) ?_ (HeadStepsG.cons (by rfl) (by exact fun _ _ h => h) ?_ (HeadStepsG.cons (by rfl) (by exact trivial) ?_ (HeadStepsG.cons (by rfl) (by exact trivial) ?_ (HeadStepsG.cons (by rfl) (by exact fun _ _ h => h) ?_ (HeadStepsG.cons (by rfl) (by exact fun _ _ h => h) ?_ (HeadStepsG.cons (by rfl) (by exact fun _ _ h => h) ?_ (HeadStepsG.cons (by rfl) (by exact trivial) ?_ (HeadStepsG.cons (by rfl) (by exact trivial) ?_ (HeadStepsG.cons (by rfl) (by exact fun _ _ h => h) ?_ (HeadStepsG.cons (by rfl) (by exact fun _ _ h => h) ?_ (HeadStepsG.cons (by rfl) (by exact fun _ _ h => h) ?_ (HeadStepsG.cons (by rfl) (by exact trivial) ?_ (HeadStepsG.cons (by rfl) (by exact trivial) ?_ (HeadStepsG.cons (by rfl) (by exact fun _ _ h => h) ?_ (HeadStepsG.cons (by rfl) (by exact trivial) ?_ (HeadStepsG.cons (by rfl) (by exact trivial) ?_ (HeadStepsG.cons (by rfl) (by exact fun _ _ h => h) ?_ (HeadStepsG.cons (by rfl) (by exact fun _ _ h => h) ?_ (HeadStepsG.cons (by rfl) (by exact fun _ _ h => h) ?_ (HeadStepsG.cons (by rfl) (by exact fun _ _ h => h) ?_ (HeadStepsG.cons (by rfl) (by exact fun _ _ h => h) ?_ (HeadStepsG.cons (by rfl) (by exact fun _ _ h => h) ?_ (HeadStepsG.cons (by rfl) (by exact fun _ _ h => h) ?_ (HeadStepsG.cons (by rfl) (by exact fun _ _ h => h) ?_ (HeadStepsG.cons (by rfl) (by exact trivial) ?_ (HeadStepsG.cons (by rfl) (by exact trivial) ?_ (HeadStepsG.cons (by rfl) (by exact fun _ _ h => h) ?_ (HeadStepsG.cons (by rfl) (by exact fun _ _ h => h) ?_ (HeadStepsG.cons (by rfl) (by exact trivial) ?_ HeadStepsG.nil))))))))))))))))))))))))))))))))))))) ?_
            · -- slot 94
              intro ac wk hx hsame hdep K hK
              have d5 : ac.tmps.getD 5 undef = .func (.func 15) #[] #[.pointer (some ⟨lb, 0, none⟩), .pointer (some ⟨lb + 1, 0, none⟩)] := hsame 5 (by kernel_rfl)
              have e5 := d5
              rw [Array.getD_eq_getD_getElem?] at e5
              clear hsame hdep
              go_simp
              exact hK _ _ (Ext.refl _ wk) rfl
            · -- slot 95
              intro ac wk hx hsame hdep K hK
              have d6 : ac.tmps.getD 6 undef = .pointer (some ⟨p6, 0, none⟩) := hsame 6 (by kernel_rfl)
              have e6 := d6
              rw [Array.getD_eq_getD_getElem?] at e6
              clear hsame hdep
              exact wp_load_known _ _ rfl d6 (HLD6.out wk (Dr.extN hx)) (hK _ _ (Ext.refl _ wk) rfl)
            · -- slot 96
              intro ac wk hx hsame hdep K hK
              have d94 : ac.tmps.getD 94 undef = .func (.func 15) #[] #[.pointer (some ⟨lb, 0, none⟩), .pointer (some ⟨lb + 1, 0, none⟩)] := hdep 0 (by kernel_rfl)
              have e94 := d94
              rw [Array.getD_eq_getD_getElem?] at e94
              have d95 : ac.tmps.getD 95 undef = .agg cs6.toArray := hdep 1 (by kernel_rfl)
              have e95 := d95
              rw [Array.getD_eq_getD_getElem?] at e95
              clear hsame hdep
              go_simp
              refine (HC6.out wk (Dr.extN hx)).mono ?_
              rintro e w' ⟨rfl, hx'⟩
              exact hK _ _ hx' rfl
            · -- slot 97
              intro ac wk hx hsame hdep K hK
              have d96 : ac.tmps.getD 96 undef = .int .i64 38 := hdep 2 (by kernel_rfl)
              have e96 := d96
              rw [Array.getD_eq_getD_getElem?] at e96
              clear hsame hdep
              go_simp
              exact hK _ _ (Ext.refl _ wk) rfl
            · -- slot 98
              intro ac wk hx hsame hdep K hK
              have d97 : ac.tmps.getD 97 undef = .bool true := hdep 3 (by kernel_rfl)
              have e97 := d97
              rw [Array.getD_eq_getD_getElem?] at e97
              clear hsame hdep
              go_simp
              exact hK _ _ (Ext.refl _ wk) rfl
            · -- slot 99
              intro ac wk hx hsame hdep K hK
              have d5 : ac.tmps.getD 5 undef = .func (.func 15) #[] #[.pointer (some ⟨lb, 0, none⟩), .pointer (some ⟨lb + 1, 0, none⟩)] := hsame 5 (by kernel_rfl)
              have e5 := d5
              rw [Array.getD_eq_getD_getElem?] at e5
              clear hsame hdep
              go_simp
              exact hK _ _ (Ext.refl _ wk) rfl
            · -- slot 100
              intro ac wk hx hsame hdep K hK
              have d7 : ac.tmps.getD 7 undef = .pointer (some ⟨p7, 0, none⟩) := hsame 7 (by kernel_rfl)
              have e7 := d7
              rw [Array.getD_eq_getD_getElem?] at e7
              clear hsame hdep
              exact wp_load_known _ _ rfl d7 (HLD7.out wk (Dr.extN hx)) (hK _ _ (Ext.refl _ wk) rfl)
            · -- slot 101
              intro ac wk hx hsame hdep K hK
              have d99 : ac.tmps.getD 99 undef = .func (.func 15) #[] #[.pointer (some ⟨lb, 0, none⟩), .pointer (some ⟨lb + 1, 0, none⟩)] := hdep 5 (by kernel_rfl)
              have e99 := d99
              rw [Array.getD_eq_getD_getElem?] at e99
              have d100 : ac.tmps.getD 100 undef = .agg cs7.toArray := hdep 6 (by kernel_rfl)
              have e100 := d100
              rw [Array.getD_eq_getD_getElem?] at e100
              clear hsame hdep
              go_simp
              refine (HC7.out wk (Dr.extN hx)).mono ?_
              rintro e w' ⟨rfl, hx'⟩
              exact hK _ _ hx' rfl
            · -- slot 102
              intro ac wk hx hsame hdep K hK
              have d101 : ac.tmps.getD 101 undef = .int .i64 21 := hdep 7 (by kernel_rfl)
              have e101 := d101
              rw [Array.getD_eq_getD_getElem?] at e101
              clear hsame hdep
              go_simp
              exact hK _ _ (Ext.refl _ wk) rfl
            · -- slot 103
              intro ac wk hx hsame hdep K hK
              have d98 : ac.tmps.getD 98 undef = .bool true := hdep 4 (by kernel_rfl)
              have e98 := d98
              rw [Array.getD_eq_getD_getElem?] at e98
              have d102 : ac.tmps.getD 102 undef = .bool true := hdep 8 (by kernel_rfl)
              have e102 := d102
              rw [Array.getD_eq_getD_getElem?] at e102
              clear hsame hdep
              go_simp
              exact hK _ _ (Ext.refl _ wk) rfl
            · -- slot 104
              intro ac wk hx hsame hdep K hK
              have d103 : ac.tmps.getD 103 undef = .bool true := hdep 9 (by kernel_rfl)
              have e103 := d103
              rw [Array.getD_eq_getD_getElem?] at e103
              clear hsame hdep
              go_simp
              exact hK _ _ (Ext.refl _ wk) rfl
            · -- slot 105
              intro ac wk hx hsame hdep K hK
              have d8 : ac.tmps.getD 8 undef = .slice a8 m8 c8 := hsame 8 (by kernel_rfl)
              have e8 := d8
              rw [Array.getD_eq_getD_getElem?] at e8
              clear hsame hdep
              go_simp
              exact hK _ _ (Ext.refl _ wk) rfl
            · -- slot 106
              intro ac wk hx hsame hdep K hK
              have d105 : ac.tmps.getD 105 undef = .slice a8 m8 c8 := hdep 11 (by kernel_rfl)
              have e105 := d105
              rw [Array.getD_eq_getD_getElem?] at e105
              clear hsame hdep
              go_simp
              refine (HC8.out wk (Dr.extN hx)).mono ?_
              rintro e w' ⟨rfl, hx'⟩
              exact hK _ _ hx' rfl
            · -- slot 107
              intro ac wk hx hsame hdep K hK
              have d106 : ac.tmps.getD 106 undef = .int .i64 24 := hdep 12 (by kernel_rfl)
              have e106 := d106
              rw [Array.getD_eq_getD_getElem?] at e106
              clear hsame hdep
              go_simp
              exact hK _ _ (Ext.refl _ wk) rfl
            · -- slot 108
              intro ac wk hx hsame hdep K hK
              have d104 : ac.tmps.getD 104 undef = .bool true := hdep 10 (by kernel_rfl)
              have e104 := d104
              rw [Array.getD_eq_getD_getElem?] at e104
              have d107 : ac.tmps.getD 107 undef = .bool true := hdep 13 (by kernel_rfl)
              have e107 := d107
              rw [Array.getD_eq_getD_getElem?] at e107
              clear hsame hdep
              go_simp
              exact hK _ _ (Ext.refl _ wk) rfl
            · -- slot 109
              intro ac wk hx hsame hdep K hK
              have d108 : ac.tmps.getD 108 undef = .bool true := hdep 14 (by kernel_rfl)
              have e108 := d108
              rw [Array.getD_eq_getD_getElem?] at e108
              clear hsame hdep
              go_simp
              exact hK _ _ (Ext.refl _ wk) rfl
            · -- slot 110
              intro ac wk hx hsame hdep K hK
              have d9 : ac.tmps.getD 9 undef = .slice a9 m9 c9 := hsame 9 (by kernel_rfl)
              have e9 := d9
              rw [Array.getD_eq_getD_getElem?] at e9
              clear hsame hdep
              go_simp
              exact hK _ _ (Ext.refl _ wk) rfl
            · -- slot 111
              intro ac wk hx hsame hdep K hK
              have d110 : ac.tmps.getD 110 undef = .slice a9 m9 c9 := hdep 16 (by kernel_rfl)
              have e110 := d110
              rw [Array.getD_eq_getD_getElem?] at e110
              clear hsame hdep
              go_simp
              refine (HC9.out wk (Dr.extN hx)).mono ?_
              rintro e w' ⟨rfl, hx'⟩
              exact hK _ _ hx' rfl
            · -- slot 112
              intro ac wk hx hsame hdep K hK
              have d111 : ac.tmps.getD 111 undef = .int .i64 0 := hdep 17 (by kernel_rfl)
              have e111 := d111
              rw [Array.getD_eq_getD_getElem?] at e111
              clear hsame hdep
              go_simp
              exact hK _ _ (Ext.refl _ wk) rfl
            · -- slot 113
              intro ac wk hx hsame hdep K hK
              have d109 : ac.tmps.getD 109 undef = .bool true := hdep 15 (by kernel_rfl)
              have e109 := d109
              rw [Array.getD_eq_getD_getElem?] at e109
              have d112 : ac.tmps.getD 112 undef = .bool true := hdep 18 (by kernel_rfl)
              have e112 := d112
              rw [Array.getD_eq_getD_getElem?] at e112
              clear hsame hdep
              go_simp
              exact hK _ _ (Ext.refl _ wk) rfl
            · -- slot 114
              intro ac wk hx hsame hdep K hK
              have d113 : ac.tmps.getD 113 undef = .bool true := hdep 19 (by kernel_rfl)
              have e113 := d113
              rw [Array.getD_eq_getD_getElem?] at e113
              clear hsame hdep
              go_simp
              exact hK _ _ (Ext.refl _ wk) rfl
            · -- slot 115
              intro ac wk hx hsame hdep K hK
              have d11 : ac.tmps.getD 11 undef = .bool true := hsame 11 (by kernel_rfl)
              have e11 := d11
              rw [Array.getD_eq_getD_getElem?] at e11
              clear hsame hdep
              go_simp
              exact hK _ _ (Ext.refl _ wk) rfl
            · -- slot 116
              intro ac wk hx hsame hdep K hK
              have d114 : ac.tmps.getD 114 undef = .bool true := hdep 20 (by kernel_rfl)
              have e114 := d114
              rw [Array.getD_eq_getD_getElem?] at e114
              have d115 : ac.tmps.getD 115 undef = .bool true := hdep 21 (by kernel_rfl)
              have e115 := d115
              rw [Array.getD_eq_getD_getElem?] at e115
              clear hsame hdep
              go_simp
              exact hK _ _ (Ext.refl _ wk) rfl
            · -- slot 117
              intro ac wk hx hsame hdep K hK
              have d116 : ac.tmps.getD 116 undef = .bool true := hdep 22 (by kernel_rfl)
              have e116 := d116
              rw [Array.getD_eq_getD_getElem?] at e116
              clear hsame hdep
              go_simp
              exact hK _ _ (Ext.refl _ wk) rfl
            · -- slot 118
              intro ac wk hx hsame hdep K hK
              have d10 : ac.tmps.getD 10 undef = .pointer (some ⟨p10, 0, none⟩) := hsame 10 (by kernel_rfl)
              have e10 := d10
              rw [Array.getD_eq_getD_getElem?] at e10
              clear hsame hdep
              go_simp
              exact hK _ _ (Ext.refl _ wk) rfl
            · -- slot 119
              intro ac wk hx hsame hdep K hK
              have d118 : ac.tmps.getD 118 undef = .pointer (some ⟨p10, 0, none⟩) := hdep 24 (by kernel_rfl)
              have e118 := d118
              rw [Array.getD_eq_getD_getElem?] at e118
              clear hsame hdep
              have hc := HN10.out wk (Dr.extN hx)
              go_simp
              exact hK _ _ (Ext.refl _ wk) rfl
            · -- slot 120
              intro ac wk hx hsame hdep K hK
              have d2 : ac.tmps.getD 2 undef = .pointer (some ⟨lb, 0, none⟩) := hsame 2 (by kernel_rfl)
              have e2 := d2
              rw [Array.getD_eq_getD_getElem?] at e2
              clear hsame hdep
              have hc := HCL.out wk (Dr.extN hx)
              go_simp
              exact hK _ _ (Ext.refl _ wk) rfl
            · -- slot 121
              intro ac wk hx hsame hdep K hK
              have d3 : ac.tmps.getD 3 undef = .pointer (some ⟨lb + 1, 0, none⟩) := hsame 3 (by kernel_rfl)
              have e3 := d3
              rw [Array.getD_eq_getD_getElem?] at e3
              clear hsame hdep
              have hc := HCI.out wk (Dr.extN hx)
              go_simp
              exact hK _ _ (Ext.refl _ wk) rfl
            · -- slot 122
              intro ac wk hx hsame hdep K hK
              have d120 : ac.tmps.getD 120 undef = .slice (some ⟨b, off, none⟩) n c := hdep 26 (by kernel_rfl)
              have e120 := d120
              rw [Array.getD_eq_getD_getElem?] at e120
              have d121 : ac.tmps.getD 121 undef = .int .i64 (q : Int) := hdep 27 (by kernel_rfl)
              have e121 := d121
              rw [Array.getD_eq_getD_getElem?] at e121
              clear hsame hdep
              go_simp
              exact hK _ _ (Ext.refl _ wk) rfl
            · -- slot 123
              intro ac wk hx hsame hdep K hK
              have d122 : ac.tmps.getD 122 undef = .pointer (some ⟨b, off + q * 36, none⟩) := hdep 28 (by kernel_rfl)
              have e122 := d122
              rw [Array.getD_eq_getD_getElem?] at e122
              clear hsame hdep
              go_simp
              exact hK _ _ (Ext.refl _ wk) rfl
            · -- slot 124
              intro ac wk hx hsame hdep K hK
              have d123 : ac.tmps.getD 123 undef = .pointer (some ⟨b, off + q * 36, none⟩) := hdep 29 (by kernel_rfl)
              have e123 := d123
              rw [Array.getD_eq_getD_getElem?] at e123
              clear hsame hdep
              have hc := HNM.out wk (Dr.extN hx)
              go_simp
              exact hK _ _ (Ext.refl _ wk) rfl
            · -- slot 125
              intro ac wk hx hsame hdep K hK
              have d119 : ac.tmps.getD 119 undef = .string (strB nm) := hdep 25 (by kernel_rfl)
              have e119 := d119
              rw [Array.getD_eq_getD_getElem?] at e119
              have d124 : ac.tmps.getD 124 undef = .string (strB nm) := hdep 30 (by kernel_rfl)
              have e124 := d124
              rw [Array.getD_eq_getD_getElem?] at e124
              clear hsame hdep
              go_simp
              exact hK _ _ (Ext.refl _ wk) rfl
            · -- slot 126
              intro ac wk hx hsame hdep K hK
              have d117 : ac.tmps.getD 117 undef = .bool true := hdep 23 (by kernel_rfl)
              have e117 := d117
              rw [Array.getD_eq_getD_getElem?] at e117
              have d125 : ac.tmps.getD 125 undef = .bool true := hdep 31 (by kernel_rfl)
              have e125 := d125
              rw [Array.getD_eq_getD_getElem?] at e125
              clear hsame hdep
              go_simp
              exact hK _ _ (Ext.refl _ wk) rfl
            · -- slot 127
              intro ac wk hx hsame hdep K hK
              have d126 : ac.tmps.getD 126 undef = .bool true := hdep 32 (by kernel_rfl)
              have e126 := d126
              rw [Array.getD_eq_getD_getElem?] at e126
              clear hsame hdep
              go_simp
              exact hK _ _ (Ext.refl _ wk) rfl
            · -- slot 128
              intro ac wk hx hsame hdep K hK
              have d13 : ac.tmps.getD 13 undef = .bool false := hsame 13 (by kernel_rfl)
              have e13 := d13
              rw [Array.getD_eq_getD_getElem?] at e13
              clear hsame hdep
              go_simp
              exact hK _ _ (Ext.refl _ wk) rfl
            · -- slot 129
              intro ac wk hx hsame hdep K hK
              have d128 : ac.tmps.getD 128 undef = .bool false := hdep 34 (by kernel_rfl)
              have e128 := d128
              rw [Array.getD_eq_getD_getElem?] at e128
              clear hsame hdep
              go_simp
              exact hK _ _ (Ext.refl _ wk) rfl
            · -- slot 130
              intro ac wk hx hsame hdep K hK
              have d127 : ac.tmps.getD 127 undef = .bool true := hdep 33 (by kernel_rfl)
              have e127 := d127
              rw [Array.getD_eq_getD_getElem?] at e127
              have d129 : ac.tmps.getD 129 undef = .bool true := hdep 35 (by kernel_rfl)
              have e129 := d129
              rw [Array.getD_eq_getD_getElem?] at e129
              clear hsame hdep
              go_simp
              exact hK _ _ (Ext.refl _ wk) rfl
            · intro ac wk hx hdf hsz hsame hvals
              obtain ⟨u0, f0⟩ : ∃ u, ac.tmps.getD 0 undef = u := ⟨_, rfl⟩
              obtain ⟨u1, f1⟩ : ∃ u, ac.tmps.getD 1 undef = u := ⟨_, rfl⟩
              have f2 : ac.tmps.getD 2 undef = .pointer (some ⟨lb, 0, none⟩) := hsame 2 (by kernel_rfl)
              have f3 : ac.tmps.getD 3 undef = .pointer (some ⟨lb + 1, 0, none⟩) := hsame 3 (by kernel_rfl)
              have f4 : ac.tmps.getD 4 undef = .bool false := hsame 4 (by kernel_rfl)
              have f5 : ac.tmps.getD 5 undef = .func (.func 15) #[] #[.pointer (some ⟨lb, 0, none⟩), .pointer (some ⟨lb + 1, 0, none⟩)] := hsame 5 (by kernel_rfl)
              have f6 : ac.tmps.getD 6 undef = .pointer (some ⟨p6, 0, none⟩) := hsame 6 (by kernel_rfl)
              have f7 : ac.tmps.getD 7 undef = .pointer (some ⟨p7, 0, none⟩) := hsame 7 (by kernel_rfl)
              have f8 : ac.tmps.getD 8 undef = .slice a8 m8 c8 := hsame 8 (by kernel_rfl)
              have f9 : ac.tmps.getD 9 undef = .slice a9 m9 c9 := hsame 9 (by kernel_rfl)
              have f10 : ac.tmps.getD 10 undef = .pointer (some ⟨p10, 0, none⟩) := hsame 10 (by kernel_rfl)
              have f11 : ac.tmps.getD 11 undef = .bool true := hsame 11 (by kernel_rfl)
              obtain ⟨u12, f12⟩ : ∃ u, ac.tmps.getD 12 undef = u := ⟨_, rfl⟩
              have f13 : ac.tmps.getD 13 undef = .bool false := hsame 13 (by kernel_rfl)
              obtain ⟨u14, f14⟩ : ∃ u, ac.tmps.getD 14 undef = u := ⟨_, rfl⟩
              obtain ⟨u15, f15⟩ : ∃ u, ac.tmps.getD 15 undef = u := ⟨_, rfl⟩
              obtain ⟨u16, f16⟩ : ∃ u, ac.tmps.getD 16 undef = u := ⟨_, rfl⟩
              obtain ⟨u17, f17⟩ : ∃ u, ac.tmps.getD 17 undef = u := ⟨_, rfl⟩
              obtain ⟨u18, f18⟩ : ∃ u, ac.tmps.getD 18 undef = u := ⟨_, rfl⟩
              obtain ⟨u19, f19⟩ : ∃ u, ac.tmps.getD 19 undef = u := ⟨_, rfl⟩
              obtain ⟨u20, f20⟩ : ∃ u, ac.tmps.getD 20 undef = u := ⟨_, rfl⟩
              obtain ⟨u21, f21⟩ : ∃ u, ac.tmps.getD 21 undef = u := ⟨_, rfl⟩
              obtain ⟨u22, f22⟩ : ∃ u, ac.tmps.getD 22 undef = u := ⟨_, rfl⟩
              obtain ⟨u23, f23⟩ : ∃ u, ac.tmps.getD 23 undef = u := ⟨_, rfl⟩
              obtain ⟨u24, f24⟩ : ∃ u, ac.tmps.getD 24 undef = u := ⟨_, rfl⟩
              obtain ⟨u25, f25⟩ : ∃ u, ac.tmps.getD 25 undef = u := ⟨_, rfl⟩
              obtain ⟨u26, f26⟩ : ∃ u, ac.tmps.getD 26 undef = u := ⟨_, rfl⟩
              obtain ⟨u27, f27⟩ : ∃ u, ac.tmps.getD 27 undef = u := ⟨_, rfl⟩
              obtain ⟨u28, f28⟩ : ∃ u, ac.tmps.getD 28 undef = u := ⟨_, rfl⟩
              obtain ⟨u29, f29⟩ : ∃ u, ac.tmps.getD 29 undef = u := ⟨_, rfl⟩
              obtain ⟨u30, f30⟩ : ∃ u, ac.tmps.getD 30 undef = u := ⟨_, rfl⟩
              obtain ⟨u31, f31⟩ : ∃ u, ac.tmps.getD 31 undef = u := ⟨_, rfl⟩
              obtain ⟨u32, f32⟩ : ∃ u, ac.tmps.getD 32 undef = u := ⟨_, rfl⟩
              obtain ⟨u33, f33⟩ : ∃ u, ac.tmps.getD 33 undef = u := ⟨_, rfl⟩
              obtain ⟨u34, f34⟩ : ∃ u, ac.tmps.getD 34 undef = u := ⟨_, rfl⟩
              obtain ⟨u35, f35⟩ : ∃ u, ac.tmps.getD 35 undef = u := ⟨_, rfl⟩
              obtain ⟨u36, f36⟩ : ∃ u, ac.tmps.getD 36 undef = u := ⟨_, rfl⟩
              obtain ⟨u37, f37⟩ : ∃ u, ac.tmps.getD 37 undef = u := ⟨_, rfl⟩
              obtain ⟨u38, f38⟩ : ∃ u, ac.tmps.getD 38 undef = u := ⟨_, rfl⟩
              obtain ⟨u39, f39⟩ : ∃ u, ac.tmps.getD 39 undef = u := ⟨_, rfl⟩
              obtain ⟨u40, f40⟩ : ∃ u, ac.tmps.getD 40 undef = u := ⟨_, rfl⟩
              obtain ⟨u41, f41⟩ : ∃ u, ac.tmps.getD 41 undef = u := ⟨_, rfl⟩
              obtain ⟨u42, f42⟩ : ∃ u, ac.tmps.getD 42 undef = u := ⟨_, rfl⟩
              obtain ⟨u43, f43⟩ : ∃ u, ac.tmps.getD 43 undef = u := ⟨_, rfl⟩
              obtain ⟨u44, f44⟩ : ∃ u, ac.tmps.getD 44 undef = u := ⟨_, rfl⟩
              obtain ⟨u45, f45⟩ : ∃ u, ac.tmps.getD 45 undef = u := ⟨_, rfl⟩
              obtain ⟨u46, f46⟩ : ∃ u, ac.tmps.getD 46 undef = u := ⟨_, rfl⟩
              obtain ⟨u47, f47⟩ : ∃ u, ac.tmps.getD 47 undef = u := ⟨_, rfl⟩
              obtain ⟨u48, f48⟩ : ∃ u, ac.tmps.getD 48 undef = u := ⟨_, rfl⟩
              obtain ⟨u49, f49⟩ : ∃ u, ac.tmps.getD 49 undef = u := ⟨_, rfl⟩
              obtain ⟨u50, f50⟩ : ∃ u, ac.tmps.getD 50 undef = u := ⟨_, rfl⟩
              obtain ⟨u51, f51⟩ : ∃ u, ac.tmps.getD 51 undef = u := ⟨_, rfl⟩
              obtain ⟨u52, f52⟩ : ∃ u, ac.tmps.getD 52 undef = u := ⟨_, rfl⟩
              obtain ⟨u53, f53⟩ : ∃ u, ac.tmps.getD 53 undef = u := ⟨_, rfl⟩
              obtain ⟨u54, f54⟩ : ∃ u, ac.tmps.getD 54 undef = u := ⟨_, rfl⟩
              obtain ⟨u55, f55⟩ : ∃ u, ac.tmps.getD 55 undef = u := ⟨_, rfl⟩
              obtain ⟨u56, f56⟩ : ∃ u, ac.tmps.getD 56 undef = u := ⟨_, rfl⟩
              obtain ⟨u57, f57⟩ : ∃ u, ac.tmps.getD 57 undef = u := ⟨_, rfl⟩
              obtain ⟨u58, f58⟩ : ∃ u, ac.tmps.getD 58 undef = u := ⟨_, rfl⟩
              obtain ⟨u59, f59⟩ : ∃ u, ac.tmps.getD 59 undef = u := ⟨_, rfl⟩
              obtain ⟨u60, f60⟩ : ∃ u, ac.tmps.getD 60 undef = u := ⟨_, rfl⟩
              obtain ⟨u61, f61⟩ : ∃ u, ac.tmps.getD 61 undef = u := ⟨_, rfl⟩
              obtain ⟨u62, f62⟩ : ∃ u, ac.tmps.getD 62 undef = u := ⟨_, rfl⟩
              obtain ⟨u63, f63⟩ : ∃ u, ac.tmps.getD 63 undef = u := ⟨_, rfl⟩
              obtain ⟨u64, f64⟩ : ∃ u, ac.tmps.getD 64 undef = u := ⟨_, rfl⟩
              obtain ⟨u65, f65⟩ : ∃ u, ac.tmps.getD 65 undef = u := ⟨_, rfl⟩
              obtain ⟨u66, f66⟩ : ∃ u, ac.tmps.getD 66 undef = u := ⟨_, rfl⟩
              obtain ⟨u67, f67⟩ : ∃ u, ac.tmps.getD 67 undef = u := ⟨_, rfl⟩
              obtain ⟨u68, f68⟩ : ∃ u, ac.tmps.getD 68 undef = u := ⟨_, rfl⟩
              obtain ⟨u69, f69⟩ : ∃ u, ac.tmps.getD 69 undef = u := ⟨_, rfl⟩
              obtain ⟨u70, f70⟩ : ∃ u, ac.tmps.getD 70 undef = u := ⟨_, rfl⟩
              obtain ⟨u71, f71⟩ : ∃ u, ac.tmps.getD 71 undef = u := ⟨_, rfl⟩
              obtain ⟨u72, f72⟩ : ∃ u, ac.tmps.getD 72 undef = u := ⟨_, rfl⟩
              obtain ⟨u73, f73⟩ : ∃ u, ac.tmps.getD 73 undef = u := ⟨_, rfl⟩
              obtain ⟨u74, f74⟩ : ∃ u, ac.tmps.getD 74 undef = u := ⟨_, rfl⟩
              obtain ⟨u75, f75⟩ : ∃ u, ac.tmps.getD 75 undef = u := ⟨_, rfl⟩
              obtain ⟨u76, f76⟩ : ∃ u, ac.tmps.getD 76 undef = u := ⟨_, rfl⟩
              obtain ⟨u77, f77⟩ : ∃ u, ac.tmps.getD 77 undef = u := ⟨_, rfl⟩
              obtain ⟨u78, f78⟩ : ∃ u, ac.tmps.getD 78 undef = u := ⟨_, rfl⟩
              obtain ⟨u79, f79⟩ : ∃ u, ac.tmps.getD 79 undef = u := ⟨_, rfl⟩
              obtain ⟨u80, f80⟩ : ∃ u, ac.tmps.getD 80 undef = u := ⟨_, rfl⟩
              obtain ⟨u81, f81⟩ : ∃ u, ac.tmps.getD 81 undef = u := ⟨_, rfl⟩
              obtain ⟨u82, f82⟩ : ∃ u, ac.tmps.getD 82 undef = u := ⟨_, rfl⟩
              obtain ⟨u83, f83⟩ : ∃ u, ac.tmps.getD 83 undef = u := ⟨_, rfl⟩
              obtain ⟨u84, f84⟩ : ∃ u, ac.tmps.getD 84 undef = u := ⟨_, rfl⟩
              obtain ⟨u85, f85⟩ : ∃ u, ac.tmps.getD 85 undef = u := ⟨_, rfl⟩
              obtain ⟨u86, f86⟩ : ∃ u, ac.tmps.getD 86 undef = u := ⟨_, rfl⟩
              obtain ⟨u87, f87⟩ : ∃ u, ac.tmps.getD 87 undef = u := ⟨_, rfl⟩
              obtain ⟨u88, f88⟩ : ∃ u, ac.tmps.getD 88 undef = u := ⟨_, rfl⟩
              obtain ⟨u89, f89⟩ : ∃ u, ac.tmps.getD 89 undef = u := ⟨_, rfl⟩
              obtain ⟨u90, f90⟩ : ∃ u, ac.tmps.getD 90 undef = u := ⟨_, rfl⟩
              obtain ⟨u91, f91⟩ : ∃ u, ac.tmps.getD 91 undef = u := ⟨_, rfl⟩
              obtain ⟨u92, f92⟩ : ∃ u, ac.tmps.getD 92 undef = u := ⟨_, rfl⟩
              obtain ⟨u93, f93⟩ : ∃ u, ac.tmps.getD 93 undef = u := ⟨_, rfl⟩
              have f94 : ac.tmps.getD 94 undef = .func (.func 15) #[] #[.pointer (some ⟨lb, 0, none⟩), .pointer (some ⟨lb + 1, 0, none⟩)] := hvals 0 (by decide)
              have f95 : ac.tmps.getD 95 undef = .agg cs6.toArray := hvals 1 (by decide)
              have f96 : ac.tmps.getD 96 undef = .int .i64 38 := hvals 2 (by decide)
              have f97 : ac.tmps.getD 97 undef = .bool true := hvals 3 (by decide)
              have f98 : ac.tmps.getD 98 undef = .bool true := hvals 4 (by decide)
              have f99 : ac.tmps.getD 99 undef = .func (.func 15) #[] #[.pointer (some ⟨lb, 0, none⟩), .pointer (some ⟨lb + 1, 0, none⟩)] := hvals 5 (by decide)
              have f100 : ac.tmps.getD 100 undef = .agg cs7.toArray := hvals 6 (by decide)
              have f101 : ac.tmps.getD 101 undef = .int .i64 21 := hvals 7 (by decide)
              have f102 : ac.tmps.getD 102 undef = .bool true := hvals 8 (by decide)
              have f103 : ac.tmps.getD 103 undef = .bool true := hvals 9 (by decide)
              have f104 : ac.tmps.getD 104 undef = .bool true := hvals 10 (by decide)
              have f105 : ac.tmps.getD 105 undef = .slice a8 m8 c8 := hvals 11 (by decide)
              have f106 : ac.tmps.getD 106 undef = .int .i64 24 := hvals 12 (by decide)
              have f107 : ac.tmps.getD 107 undef = .bool true := hvals 13 (by decide)
              have f108 : ac.tmps.getD 108 undef = .bool true := hvals 14 (by decide)
              have f109 : ac.tmps.getD 109 undef = .bool true := hvals 15 (by decide)
              have f110 : ac.tmps.getD 110 undef = .slice a9 m9 c9 := hvals 16 (by decide)
              have f111 : ac.tmps.getD 111 undef = .int .i64 0 := hvals 17 (by decide)
              have f112 : ac.tmps.getD 112 undef = .bool true := hvals 18 (by decide)
              have f113 : ac.tmps.getD 113 undef = .bool true := hvals 19 (by decide)
              have f114 : ac.tmps.getD 114 undef = .bool true := hvals 20 (by decide)
              have f115 : ac.tmps.getD 115 undef = .bool true := hvals 21 (by decide)
              have f116 : ac.tmps.getD 116 undef = .bool true := hvals 22 (by decide)
              have f117 : ac.tmps.getD 117 undef = .bool true := hvals 23 (by decide)
              have f118 : ac.tmps.getD 118 undef = .pointer (some ⟨p10, 0, none⟩) := hvals 24 (by decide)
              have f119 : ac.tmps.getD 119 undef = .string (strB nm) := hvals 25 (by decide)
              have f120 : ac.tmps.getD 120 undef = .slice (some ⟨b, off, none⟩) n c := hvals 26 (by decide)
              have f121 : ac.tmps.getD 121 undef = .int .i64 (q : Int) := hvals 27 (by decide)
              have f122 : ac.tmps.getD 122 undef = .pointer (some ⟨b, off + q * 36, none⟩) := hvals 28 (by decide)
              have f123 : ac.tmps.getD 123 undef = .pointer (some ⟨b, off + q * 36, none⟩) := hvals 29 (by decide)
              have f124 : ac.tmps.getD 124 undef = .string (strB nm) := hvals 30 (by decide)
              have f125 : ac.tmps.getD 125 undef = .bool true := hvals 31 (by decide)
              have f126 : ac.tmps.getD 126 undef = .bool true := hvals 32 (by decide)
              have f127 : ac.tmps.getD 127 undef = .bool true := hvals 33 (by decide)
              have f128 : ac.tmps.getD 128 undef = .bool false := hvals 34 (by decide)
              have f129 : ac.tmps.getD 129 undef = .bool true := hvals 35 (by decide)
              have f130 : ac.tmps.getD 130 undef = .bool true := hvals 36 (by decide)
              have hlit : ac = ⟨#[u0, u1, .pointer (some ⟨lb, 0, none⟩), .pointer (some ⟨lb + 1, 0, none⟩), .bool false, .func (.func 15) #[] #[.pointer (some ⟨lb, 0, none⟩), .pointer (some ⟨lb + 1, 0, none⟩)], .pointer (some ⟨p6, 0, none⟩), .pointer (some ⟨p7, 0, none⟩), .slice a8 m8 c8, .slice a9 m9 c9, .pointer (some ⟨p10, 0, none⟩), .bool true, u12, .bool false, u14, u15, u16, u17, u18, u19, u20, u21, u22, u23, u24, u25, u26, u27, u28, u29, u30, u31, u32, u33, u34, u35, u36, u37, u38, u39, u40, u41, u42, u43, u44, u45, u46, u47, u48, u49, u50, u51, u52, u53, u54, u55, u56, u57, u58, u59, u60, u61, u62, u63, u64, u65, u66, u67, u68, u69, u70, u71, u72, u73, u74, u75, u76, u77, u78, u79, u80, u81, u82, u83, u84, u85, u86, u87, u88, u89, u90, u91, u92, u93, .func (.func 15) #[] #[.pointer (some ⟨lb, 0, none⟩), .pointer (some ⟨lb + 1, 0, none⟩)], .agg cs6.toArray, .int .i64 38, .bool true, .bool true, .func (.func 15) #[] #[.pointer (some ⟨lb, 0, none⟩), .pointer (some ⟨lb + 1, 0, none⟩)], .agg cs7.toArray, .int .i64 21, .bool true, .bool true, .bool true, .slice a8 m8 c8, .int .i64 24, .bool true, .bool true, .bool true, .slice a9 m9 c9, .int .i64 0, .bool true, .bool true, .bool true, .bool true, .bool true, .bool true, .pointer (some ⟨p10, 0, none⟩), .string (strB nm), .slice (some ⟨b, off, none⟩) n c, .int .i64 (q : Int), .pointer (some ⟨b, off + q * 36, none⟩), .pointer (some ⟨b, off + q * 36, none⟩), .string (strB nm), .bool true, .bool true, .bool true, .bool false, .bool true, .bool true], []⟩ := by
                refine (act_lit hsz hdf).trans ?_
                rw [show List.range _ = [0, 1, 2, 3, 4, 5, 6, 7, 8, 9, 10, 11, 12, 13, 14, 15, 16, 17, 18, 19, 20, 21, 22, 23, 24, 25, 26, 27, 28, 29, 30, 31, 32, 33, 34, 35, 36, 37, 38, 39, 40, 41, 42, 43, 44, 45, 46, 47, 48, 49, 50, 51, 52, 53, 54, 55, 56, 57, 58, 59, 60, 61, 62, 63, 64, 65, 66, 67, 68, 69, 70, 71, 72, 73, 74, 75, 76, 77, 78, 79, 80, 81, 82, 83, 84, 85, 86, 87, 88, 89, 90, 91, 92, 93, 94, 95, 96, 97, 98, 99, 100, 101, 102, 103, 104, 105, 106, 107, 108, 109, 110, 111, 112, 113, 114, 115, 116, 117, 118, 119, 120, 121, 122, 123, 124, 125, 126, 127, 128, 129, 130] from rfl]
                simp only [List.map_cons, List.map_nil, f0, f1, f2, f3, f4, f5, f6, f7, f8, f9, f10, f11, f12, f13, f14, f15, f16, f17, f18, f19, f20, f21, f22, f23, f24, f25, f26, f27, f28, f29, f30, f31, f32, f33, f34, f35, f36, f37, f38, f39, f40, f41, f42, f43, f44, f45, f46, f47, f48, f49, f50, f51, f52, f53, f54, f55, f56, f57, f58, f59, f60, f61, f62, f63, f64, f65, f66, f67, f68, f69, f70, f71, f72, f73, f74, f75, f76, f77, f78, f79, f80, f81, f82, f83, f84, f85, f86, f87, f88, f89, f90, f91, f92, f93, f94, f95, f96, f97, f98, f99, f100, f101, f102, f103, f104, f105, f106, f107, f108, f109, f110, f111, f112, f113, f114, f115, f116, f117, f118, f119, f120, f121, f122, f123, f124, f125, f126, f127, f128, f129, f130]
              clear hvals hsame hdf hsz f0 f1 f2 f3 f4 f5 f6 f7 f8 f9 f10 f11 f12 f13 f14 f15 f16 f17 f18 f19 f20 f21 f22 f23 f24 f25 f26 f27 f28 f29 f30 f31 f32 f33 f34 f35 f36 f37 f38 f39 f40 f41 f42 f43 f44 f45 f46 f47 f48 f49 f50 f51 f52 f53 f54 f55 f56 f57 f58 f59 f60 f61 f62 f63 f64 f65 f66 f67 f68 f69 f70 f71 f72 f73 f74 f75 f76 f77 f78 f79 f80 f81 f82 f83 f84 f85 f86 f87 f88 f89 f90 f91 f92 f93 f94 f95 f96 f97 f98 f99 f100 f101 f102 f103 f104 f105 f106 f107 f108 f109 f110 f111 f112 f113 f114 f115 f116 f117 f118 f119 f120 f121 f122 f123 f124 f125 f126 f127 f128 f129 f130
              subst hlit
              simp only [List.drop_succ_cons, List.drop_zero]
              go_wp2_with fail
              go_ret
              exact ⟨rfl, HST.out.ext.trans' hx⟩
end Go.Proofs.YtefabpgfhghpgaaDoor
end

section
/-
  PROVED HERE: 'Rows.TreeErrorsCardSaid' (the tied card): of every input the law 'coldstorelaw10.TreeErrors' answers true, and each argument reads behind the call as it read before. No condition but the form's own.
-/
namespace Go.Proofs.YtefabpgfhghpgaaDoor.treeErrors
open Go.ChangeShapes Go.WideShapes Go.ChangeAt Go.RowKit Go.My
open Go.ChangeMaps (open_string shut_string)
set_option linter.unusedVariables false

theorem own : ownKnob Tryd.prog.godebug = none := by kernel_rfl
theorem laidOut : laidOutB Tryd.prog = true := by kernel_rfl

/-- what the row lists -/
noncomputable def laid : List (String × DataW Unit) := Rows.treeErrorsRow.laid
set_option maxRecDepth 100000 in
theorem lifted (os : Os) (started : os.Started) (H : Type) (enc : TypeId × Value → H) :
    ReturnsInHanded {} Tryd.checked os 4 .any (fun w args => (Rows.treeErrorsSpec.pre enc Tryd.prog Tryd.f4 [] false w args ∧ laidMetH Tryd.prog laid w) ∧ sizedMet enc Tryd.prog Tryd.f4 (OpenSpec.ofChange Rows.treeErrorsSpec) false w args)
      (Rows.treeErrorsSpec.post enc Tryd.prog Tryd.f4 false true false false) := by
  refine returnsInHanded_of_change_and (C := Tryd.checked) (X := fun w _ => laidMetH Tryd.prog laid w) (fun _ _ _ hh h => h.of_heap hh) own started (by kernel_rfl) Tryd.func4
    (ChangeSpec.witness_shaped (enc := enc) (C := Tryd.checked) (os := os) (X := fun w _ => laidMetH Tryd.prog laid w) false (World.laidAll Tryd.prog os laid) #[.slice none 0 0, .int .i64 0] 8 (World.laidAll_os _ _ _)
      (World.shaped_of_ZipB (by kernel_rfl) (by kernel_rfl)) (by kernel_rfl) (by kernel_rfl) (by kernel_rfl)
      (by rw [MakeChecks.laidMetH_plain _ _ _ (by kernel_rfl)]; exact laidMet_laidAll _ (by kernel_rfl) (by kernel_rfl))) ?_
  intro W base args ds gs before hval0 hW _ hSZ hL _
  have hval : ∀ (j : Nat) t v, Tryd.f4.params[j]? = some t → args[j]? = some v → Value.okWide Tryd.prog W .any base t v := hval0
  have hW' := hW
  obtain ⟨p, q, hA0, hV, rfl, hfz, hnd⟩ := hW
  have hA : DataW.TrodAll enc Tryd.prog W 0 (fun _ => true) true Tryd.f4.params.toList args.toList ds p := hA0
  rw [Tryd.params4] at hA hval
  obtain ⟨v0, vs0, d0, ds0, p0, q0, hargs, rfl, rfl, h0, r0⟩ := trodAll_cons hA
  obtain ⟨v1, vs1, d1, ds1, p1, q1, rfl, rfl, rfl, h1, r1⟩ := trodAll_cons r0
  obtain ⟨rfl, rfl, rfl⟩ := trodAll_nil r1
  obtain rfl : args = #[v0, v1] := by cases args; simp_all
  obtain ⟨rfl, rfl⟩ := trodVars_none hV
  have k0 := h0
  have lt0 : ∀ x ∈ p0, x.block < W.heap.size := by obtain ⟨m, hm⟩ := k0; exact DataW.trod_lt m _ _ _ hm
  have k1 := h1
  have lt1 : ∀ x ∈ p1, x.block < W.heap.size := by obtain ⟨m, hm⟩ := k1; exact DataW.trod_lt m _ _ _ hm
  obtain ⟨a0, ot0⟩ := op_nodes (hval 0 22 v0 rfl rfl) h0
  obtain ⟨a1, rfl, lo1, hi1⟩ := op_i64 Tryd.underlying3 (hval 1 3 v1 rfl rfl) h1
  clear hA0 hval0
  refine (treeErrors_fr a0 _ a1 W ot0 lo1 hi1).mono fun e W' ⟨he, ext⟩ => ?_
  subst he
  have bel := ext.below
  exact ⟨_, rfl, _, _, _, [], _, [], hW', trodAll_mk1 (shut_bool Tryd.underlying4 _), (trodAll_cons_mk (Below.trod laidOut (by kernel_rfl) (of_decide_eq_true (by kernel_rfl)) k0 bel lt0) (trodAll_cons_mk (Below.trod laidOut (by kernel_rfl) (of_decide_eq_true (by kernel_rfl)) k1 bel lt1) trodAll_mk0)), rfl, bel.frame _, fun h => by cases h⟩

theorem over : Rows.treeErrorsRow.holds Tryd.pinned (OpenSpec.ofChange Rows.treeErrorsSpec) :=
  OpenClaim.holds_of_wide 4 Tryd.f4 rfl rfl rfl rfl rfl rfl rfl ⟨rfl, rfl, rfl, rfl, rfl⟩ rfl rfl rfl rfl rfl (by kernel_rfl) Tryd.func4 (by kernel_rfl)
    (of_decide_eq_true (by kernel_rfl)) (by unfold Func.isWrapper; first | (rw [if_pos (by decide +kernel)]; kernel_rfl) | (rw [if_neg (by decide +kernel)]; exact ⟨rfl, rfl⟩))
    (fun os started H enc _ => lifted os started H enc)

/-- THE STATEMENT: the card over the row, tied to the program's text -/
theorem proved : Rows.TreeErrorsCardSaid :=
  Claim7.holds_tied_plain_at .later [] [.data, .pinned] true (true, "971da6edd60431238cee40c381ac6223c40d50f4d6aedc22df960b64bcf27c18") true over (fun _ h => by cases h) (by kernel_rfl) (fun _ h => by cases h) treeErrors_row_tie rfl ⟨rfl, rfl⟩ (by kernel_rfl) rfl
    (fun f fn hf hfn => by
      obtain rfl : f = 4 := Option.some.inj ((show Tryd.prog.funcNamed "coldstore/coldstorelaw10.TreeErrors" = some 4 by kernel_rfl).symm.trans hf) |>.symm
      obtain rfl : fn = Tryd.f4 := (Option.some.inj (Tryd.func4.symm.trans hfn)).symm
      exact ⟨by kernel_rfl, fun j t ht => by
        rw [Tryd.params4] at ht
        have hm : t ∈ [22, 3] := by simpa using Array.mem_of_getElem? ht
        have hall : ([22, 3].all fun u => !Tryd.prog.wantsStandIn u) = true := by kernel_rfl
        exact (show Tryd.prog.wantsStandIn t = false by simpa using List.all_eq_true.1 hall t hm)⟩)
    (by kernel_rfl)
#print axioms proved
end Go.Proofs.YtefabpgfhghpgaaDoor.treeErrors
end
