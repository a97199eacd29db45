/-
  PROVED HERE: 'Rows.TreeBackCardSaid' (the tied card): of every input the law 'coldstorelaw10.TreeBack' answers true, and each argument reads behind the call as it read before. No condition but the form's own; the listed tables of the library are tied to the program's text.
-/
import Derived.Test.YtefabpgfhghpgaaDoorTZF
import Derived.Test.YtefabpgfhghpgaaDoorRows
import Derived.Test.YtefabpgfhghpgaaDoorCards
import Derived.Test.YtefabpgfhghpgaaDoorTie
import Derived.Lay
import Derived.LaidOnce
import Derived.SevenTiedAt
import Derived.SizedLaws
set_option linter.unusedVariables false
set_option linter.unusedSimpArgs false

section
/- The walk of TreeBlobs. -/
namespace Go.Proofs.YtefabpgfhghpgaaDoor
open Go.RowKit Go.My

theorem Src.ext0 {α : Type} {w w' : World} {size : Nat} {E : α → List Value → Prop} {ys : List α} {v : Value} {css : List (List Value)} (h : Src w size E ys v css) (x : Ext No w w') : Src w' size E ys v css := by
  obtain ⟨⟨ad, c, h1, h2⟩, h3, h4⟩ := h
  exact ⟨⟨ad, c, h1, fun hp => by obtain ⟨b, o, h5, h6⟩ := h2 hp; exact ⟨b, o, h5, rangeAt.ext0 h6 x⟩⟩, h3, h4⟩
theorem ownseq_form {α : Type} {w : World} {base size : Nat} {T : TypeId} {E : World → α → List Value → Prop} {xs : List α} {v : Value} (h : OwnSeq w base T size E xs v) : ∃ a n c, v = .slice a n c ∧ n = xs.length := by
  obtain ⟨a, c, rfl⟩ := OwnSeq.len h
  exact ⟨a, _, c, rfl, rfl⟩
theorem ids_form {w : World} {ids : List (List UInt8)} {v : Value} (h : IsIDs w ids v) : ∃ a n c, v = .slice a n c ∧ n = ids.length := by
  obtain ⟨a, c, rfl, -⟩ := h
  exact ⟨a, _, c, rfl, rfl⟩
theorem nodes_form {w : World} {ns : List NodeL} {v : Value} (h : IsNodes w ns v) : ∃ a n c, v = .slice a n c ∧ n = ns.length := by
  obtain ⟨a, c, rfl, -⟩ := h
  exact ⟨a, _, c, rfl, rfl⟩
theorem seq_made (w : World) {α : Type} (T : TypeId) (size : Nat) (E : World → α → List Value → Prop) : OwnSeq (w.alloc (.cells #[] T)) w.heap.size T size E [] (.slice (some ⟨w.heap.size, 0, none⟩) 0 0) :=
  ⟨[], ⟨by simp, .inr ⟨_, 0, #[], rfl, Nat.le_refl _, Blk.new w #[] T, Nat.le_refl _, by decide, by simp, by simp⟩⟩, fun i x hx => by simp at hx⟩
theorem few_ok {ns : List NodeL} (h : fewB ns = true) : ns.length < 600 ∧ ∀ n ∈ ns, n.parts.length ≤ 4200 ∧ n.name.length ≤ 200 := by
  unfold fewB at h
  rw [Bool.and_eq_true] at h
  obtain ⟨h1, h2⟩ := h
  refine ⟨?_, fun n hn => ?_⟩
  · rw [Bool.or_eq_true] at h2
    rcases h2 with h2 | h2
    · have := of_decide_eq_true h2; omega
    · rw [Bool.and_eq_true] at h2; exact of_decide_eq_true h2.2
  · have := List.all_eq_true.1 h1 n hn
    unfold okN at this
    simp only [Bool.and_eq_true, Bool.or_eq_true, decide_eq_true_eq] at this
    omega
theorem blobs_len : ∀ ns : List NodeL, (∀ n ∈ ns, n.parts.length ≤ 4200) → (blobsL ns).length ≤ 4200 * ns.length
  | [], _ => by simp [blobsL]
  | n :: ns, h => by
    have h1 := h n (List.mem_cons_self ..)
    have h2 := blobs_len ns (fun m hm => h m (List.mem_cons_of_mem _ hm))
    have h3 : (blobsN n).length ≤ 4200 := by
      unfold blobsN; split
      · exact (by decide : 1 ≤ 4200)
      · exact h1
    have e : blobsL (n :: ns) = blobsN n ++ blobsL ns := by simp [blobsL]
    rw [e, List.length_append, List.length_cons]; omega
theorem few_blobs {ns : List NodeL} (h : fewB ns = true) : (blobsL ns).length ≤ 2520000 := by
  obtain ⟨h1, h2⟩ := few_ok h
  have := blobs_len ns (fun n hn => (h2 n hn).1)
  omega
theorem blobs_append (xs ys : List NodeL) : blobsL (xs ++ ys) = blobsL xs ++ blobsL ys := by simp [blobsL]
theorem take_all {α : Type} (l : List α) (h : l.length ≤ 5040000) : l.take (1073741824 : Int).toNat = l := List.take_of_length_le (by show l.length ≤ 1073741824; omega)
theorem OwnIDs.ext0 {w w' : World} {B : Nat} {ids : List (List UInt8)} {v : Value} (h : OwnIDs w B ids v) (x : Ext No w w') : OwnIDs w' B ids v := h.ext x (fun _ _ s => s)

set_option maxRecDepth 100000 in
set_option maxHeartbeats 8000000 in
theorem treeBlobs_fr (xs : List NodeL) (v0 : Value) (ys : List NodeL) (v1 : Value) (w : World) (hx : IsNodes w xs v0 ∧ ∀ n ∈ xs, n.name.length ≤ 9223372036854775807) (hy : IsNodes w ys v1 ∧ ∀ n ∈ ys, n.name.length ≤ 9223372036854775807) :
    Calls Tryd.prog 5 #[v0, v1] w fun e w' => e = .returned (.bool true) ∧ Ext No w w' := by
  obtain ⟨a, n, c, rfl, hn⟩ := nodes_form hx.1
  obtain ⟨b, m, d, rfl, hm⟩ := nodes_form hy.1
  have HX := Lib.hid hx; have HY := Lib.hid hy; have HN := Lib.hid hn; have HM := Lib.hid hm
  clear hx hy hn hm
  go_enter Tryd.func5, Tryd.ntmps5
  go_wp2_with fail
  refine (alive_any w).mono ?_
  rintro e w1 ⟨rfl, hE1⟩
  have HE1 := Lib.hid hE1
  clear hE1
  dsimp only
  go_wp2_with fail
  refine (few_any xs _ w1 (HX.out.1.ext0 HE1.out) HX.out.2).mono ?_
  rintro e w2 ⟨rfl, hE2⟩
  have HE2 := Lib.hid (HE1.out.trans' hE2)
  clear hE2 HE1
  dsimp only
  cases hfx : fewB xs
  · go_wp2_with fail
    go_ret
    exact ⟨rfl, HE2.out⟩
  have HFX := Lib.hid hfx
  have hn6 : n < 600 := by rw [HN.out]; exact (few_ok hfx).1
  clear hfx
  go_wp2_with fail
  refine (few_any ys _ w2 (HY.out.1.ext0 HE2.out) HY.out.2).mono ?_
  rintro e w3 ⟨rfl, hE3⟩
  have HE3 := Lib.hid (HE2.out.trans' hE3)
  clear hE3 HE2
  dsimp only
  cases hfy : fewB ys
  · go_wp2_with fail
    go_ret
    exact ⟨rfl, HE3.out⟩
  have HFY := Lib.hid hfy
  clear hfy
  have HO0 := Lib.hid (show OwnIDs (w3.alloc (.cells #[] 40)) w.heap.size [] (.slice (some ⟨w3.heap.size, 0, none⟩) 0 0) from OwnIDs.le (B := w3.heap.size) (seq_made w3 40 32 IdE) HE3.out.size)
  have HEA := Lib.hid (HE3.out.alloc (.cells #[] 40))
  go_wp2_with fail
  go_loopw [5, 24] (fun each i wr => ∃ k : Nat, i = .int .i64 k ∧ k ≤ n ∧ Ext No w wr ∧ OwnIDs wr w.heap.size (blobsL (xs.take k)) each) (fun _ i _ => n - (intOf i).toNat)
  case atStart => exact ⟨0, rfl, Nat.zero_le _, HEA.out, HO0.out⟩
  case round =>
    obtain ⟨k, rfl, hk, hx, hown⟩ := hrel
    obtain ⟨oa, om, oc, rfl, hom⟩ := ownseq_form hown
    have HXR := Lib.hid hx; have HOW := Lib.hid hown; have HOM := Lib.hid hom
    clear hx hown hom HO0 HEA HE3
    by_cases hlt : k < n
    · have hltI : (k : Int) < n := by omega
      have hlt' : k < xs.length := by rw [← HN.out]; exact hlt
      obtain ⟨a0, c0, ha0, -, -, hat⟩ := id HX.out.1
      obtain ⟨b, off, cs, ha1, hra, hnd⟩ := hat.at_ k hlt'
      have hcount := blobs_count xs k hlt'
      have hstep := blobs_step xs k hlt'
      have hpre := blobs_pre xs (k + 1)
      have htot := few_blobs HFX.out
      have hle : (blobsL (xs.take (k + 1))).length ≤ 2520000 := by
        obtain ⟨r, hr⟩ := hpre
        rw [hr, List.length_append] at htot; omega
      generalize xs.getD k node0 = nd at *
      have haa : a = some ⟨b, off, none⟩ := by cases ha0; exact ha1
      subst haa
      clear ha0 ha1 hat hpre htot
      have hl36 := hnd.length
      have h1 := hnd.one
      have hr := rangeAt.ext0 hra HXR.out
      obtain ⟨⟨pv, hcs, ⟨pa, pc, rfl, hp1, hp2, hids⟩⟩, hs32, -, -⟩ := hnd
      have hidv : IsIDs w nd.parts (.slice pa nd.parts.length pc) := ⟨pa, pc, rfl, hp1, hp2, hids⟩
      obtain ⟨np, hnp⟩ : ∃ m, m = nd.parts.length := ⟨_, rfl⟩
      rw [← hnp] at hidv hcs hp1
      have c1 : cs[1]? = some (.bool nd.dir) := by rw [hcs]; rfl
      have c3 : cs[3]? = some (.slice pa np pc) := by rw [hcs]; rfl
      have HL42 := Lib.hid (run_loadAt_mid (P := Tryd.prog) wr b (off + k * 36) 42 cs _ hr Tryd.underlying42 rfl (by rw [hl36]; exact info42))
      have HS42 := Lib.hid (store_node wr cs hl36 h1)
      have hbk := Blk.new wr cs.toArray 42
      have d1 : (wr.alloc (.cells cs.toArray 42)).cell? ⟨wr.heap.size, 1, none⟩ = some (.bool nd.dir) := by rw [hbk.cell]; simpa using c1
      have d3 : (wr.alloc (.cells cs.toArray 42)).cell? ⟨wr.heap.size, 3, none⟩ = some (.slice pa np pc) := by rw [hbk.cell]; simpa using c3
      have hra4 : (wr.alloc (.cells cs.toArray 42)).rangeAt wr.heap.size 4 (byts nd.sub) := by
        have h := rangeAt.blk hbk 4
        rw [hcs] at h ⊢
        exact h
      have HL40 := Lib.hid (ids_load hra4 hs32 _ (Ext.refl _ _))
      have HB40 := Lib.hid (build_id nd.sub hs32)
      have hXA : Ext No w (wr.alloc (.cells cs.toArray 42)) := HXR.out.alloc (.cells cs.toArray 42)
      have HXA := Lib.hid hXA
      have hbn : (nd.dir = true ∧ blobsN nd = [nd.sub]) ∨ (nd.dir = false ∧ blobsN nd = nd.parts) := by
        unfold blobsN
        cases nd.dir
        · exact .inr ⟨rfl, rfl⟩
        · exact .inl ⟨rfl, rfl⟩
      have HST := Lib.hid hstep; have HIV := Lib.hid (And.intro hidv hs32)
      have HCNT := Lib.hid (And.intro hcount hle)
      clear hra hcs c1 c3 hbk hlt' h1 hl36 hr hra4 hids hXA hstep hidv hs32 hnp hcount hle
      rcases hbn with ⟨hdir, hbn⟩ | ⟨hdir, hbn⟩
      · rw [hdir] at d1
        obtain ⟨w4, hw4⟩ : ∃ w4, (wr.alloc (.cells cs.toArray 42)).alloc (.cells (byts nd.sub).toArray 40) = w4 := ⟨_, rfl⟩
        have hx4 : Ext No wr w4 := by rw [← hw4]; exact ((Ext.refl No wr).alloc _).alloc _
        have hsrc : Src w4 32 IdC [nd.sub] (.slice (some ⟨wr.heap.size + 1, 0, none⟩) 1 1) ([nd.sub].map byts) := by
          have h := Blk.new (wr.alloc (.cells cs.toArray 42)) (byts nd.sub).toArray 40
          rw [World.size_alloc, hw4] at h
          exact src_ids (isIDs_one HIV.out.2 h)
        have hbi := HB40.out (wr.alloc (.cells cs.toArray 42))
        rw [World.size_alloc, hw4] at hbi
        have HSRC := Lib.hid hsrc; have HBI := Lib.hid hbi
        have HO4 := Lib.hid (show OwnSeq w4 w.heap.size 40 32 (fun _ => IdC) (blobsL (xs.take k)) (.slice oa om oc) from HOW.out.ext0 hx4)
        have HX4 := Lib.hid (HXR.out.trans' hx4)
        have HNM := Lib.hid (show (blobsL (xs.take k)).length + [nd.sub].length ≤ 9223372036854775807 ∧ ((blobsL (xs.take k)).length + [nd.sub].length) * 32 ≤ 140737488355328 by
          obtain ⟨h1, h2⟩ := HCNT.out
          rw [hbn] at h1; rw [← h1]; omega)
        have HS1 := Lib.hid (show blobsL (xs.take (k + 1)) = blobsL (xs.take k) ++ [nd.sub] by rw [HST.out, hbn])
        clear hw4 hx4 hsrc hbi hbn HST HB40 HCNT HOW
        go_wp2_with (first
          | ((with_reducible refine wpList_load_at ?_ 42 _ rfl ?_ HL42.out ?_); rfl; rfl)
          | ((with_reducible refine wpList_store_at ?_ 42 _ _ rfl ?_ ?_ (HS42.out _ ?_) ?_); rfl; rfl; rfl; rfl)
          | ((with_reducible refine wpList_load_at ?_ 40 _ rfl ?_ HL40.out ?_); rfl; rfl)
          | ((with_reducible refine wpList_buildS1 ?_ 38 1 0 _ rfl ?_ HBI.out ?_); rfl; rfl)
          | ((with_reducible refine wpList_appG _ ?_ _ _ 38 rfl w.heap.size 40 _ _ id_info Tryd.underlying38 rfl (by decide) _ _ ?_ ?_ HO4.out HSRC.out HNM.out.1 HNM.out.2 HX4.out.size ?_); rfl; rfl; rfl; intro v7 w7 hown7 hg7 hat7; obtain ⟨a7, m7, c7, rfl, -⟩ := ownseq_form hown7))
        go_roundw
        case rel =>
          refine ⟨k + 1, by go_num, by omega, HX4.out.grown hg7 (fun j hj h => absurd h (by have := (OwnSeq.lt HO4.out j hj).1; omega)), ?_⟩
          rw [HS1.out]
          exact hown7
        case measure => simp [intOf]; omega
      · rw [hdir] at d1
        have HSRC := Lib.hid (src_ids (HIV.out.1.ext0 HXA.out))
        have HO4 := Lib.hid (show OwnSeq (wr.alloc (.cells cs.toArray 42)) w.heap.size 40 32 (fun _ => IdC) (blobsL (xs.take k)) (.slice oa om oc) from HOW.out.ext0 ((Ext.refl No wr).alloc _))
        have HNM := Lib.hid (show (blobsL (xs.take k)).length + nd.parts.length ≤ 9223372036854775807 ∧ ((blobsL (xs.take k)).length + nd.parts.length) * 32 ≤ 140737488355328 by
          obtain ⟨h1, h2⟩ := HCNT.out
          rw [hbn] at h1; rw [← h1]; omega)
        have HS1 := Lib.hid (show blobsL (xs.take (k + 1)) = blobsL (xs.take k) ++ nd.parts by rw [HST.out, hbn])
        clear hbn HST HB40 HCNT HOW
        go_wp2_with (first
          | ((with_reducible refine wpList_load_at ?_ 42 _ rfl ?_ HL42.out ?_); rfl; rfl)
          | ((with_reducible refine wpList_store_at ?_ 42 _ _ rfl ?_ ?_ (HS42.out _ ?_) ?_); rfl; rfl; rfl; rfl)
          | ((with_reducible refine wpList_appG _ ?_ _ _ 38 rfl w.heap.size 40 _ _ id_info Tryd.underlying38 rfl (by decide) _ _ ?_ ?_ HO4.out HSRC.out HNM.out.1 HNM.out.2 HXA.out.size ?_); rfl; rfl; rfl; intro v7 w7 hown7 hg7 hat7; obtain ⟨a7, m7, c7, rfl, -⟩ := ownseq_form hown7))
        go_roundw
        case rel =>
          refine ⟨k + 1, by go_num, by omega, HXA.out.grown hg7 (fun j hj h => absurd h (by have := (OwnSeq.lt HO4.out j hj).1; omega)), ?_⟩
          rw [HS1.out]
          exact hown7
        case measure => simp [intOf]; omega
    · have hkn : n = k := by omega
      subst hkn
      have ho := HOW.out
      rw [show xs.take n = xs by rw [HN.out]; exact List.take_length] at ho
      have HOF := Lib.hid ho
      clear ho HOW hlt
      go_wp2_with fail
      refine (blobs_any xs _ 1073741824 wr (HX.out.1.ext0 HXR.out) (by have := few_blobs HFX.out; omega)).mono ?_
      rintro e w8 ⟨v8, rfl, hv8, hE8⟩
      rw [take_all _ (by have := few_blobs HFX.out; omega)] at hv8
      obtain ⟨a8, m8, c8, rfl, -⟩ := ownseq_form hv8
      have HE8 := Lib.hid (HXR.out.trans' hE8); have HEACH := Lib.hid ((OwnIDs.ids HOF.out).ext0 hE8); have HV8 := Lib.hid hv8.ids
      clear hv8 hE8 HOF HXR
      dsimp only
      go_wp2_with fail
      refine (blobs_any ys _ 1073741824 w8 (HY.out.1.ext0 HE8.out) (by have := few_blobs HFY.out; omega)).mono ?_
      rintro e w9 ⟨v9, rfl, hv9, hE9⟩
      rw [take_all _ (by have := few_blobs HFY.out; omega)] at hv9
      obtain ⟨a9, m9, c9, rfl, -⟩ := ownseq_form hv9
      have HE9 := Lib.hid (HE8.out.trans' hE9); have HEACH9 := Lib.hid (HEACH.out.ext0 hE9); have HV89 := Lib.hid (HV8.out.ext0 hE9); have HV9 := Lib.hid hv9.ids
      clear hv9 hE9 HE8 HEACH HV8
      obtain ⟨css1, hc1⟩ := src_nodes HX.out.1
      obtain ⟨css2, hc2⟩ := src_nodes HY.out.1
      have hEB : Ext No w (w9.alloc (.cells #[] 42)) := HE9.out.alloc _
      have HOB := Lib.hid (show OwnSeq (w9.alloc (.cells #[] 42)) w9.heap.size 42 36 (fun _ => IsNode w) [] (.slice (some ⟨w9.heap.size, 0, none⟩) 0 0) from seq_made w9 42 36 (fun _ => IsNode w))
      have HSB := Lib.hid (hc1.ext0 hEB); have HC2 := Lib.hid hc2
      have HXB := Lib.hid ((Ext.refl No w9).alloc (.cells #[] 42))
      have HNL := Lib.hid (show xs.length < 600 ∧ ys.length < 600 from ⟨(few_ok HFX.out).1, (few_ok HFY.out).1⟩)
      have HN1 := Lib.hid (show ([] : List NodeL).length + xs.length ≤ 9223372036854775807 ∧ (([] : List NodeL).length + xs.length) * 88 ≤ 140737488355328 by have := HNL.out.1; rw [List.length_nil]; omega)
      have HN2 := Lib.hid (show ([] ++ xs).length + ys.length ≤ 9223372036854775807 ∧ (([] ++ xs).length + ys.length) * 88 ≤ 140737488355328 by have := HNL.out; rw [List.nil_append]; omega)
      clear hc1 hc2 hEB
      dsimp only
      go_wp2_with (first
          | ((with_reducible refine wpList_appG _ ?_ _ _ 22 rfl w9.heap.size 42 _ _ node_info Tryd.underlying22 rfl (by decide) _ _ ?_ ?_ HOB.out HSB.out HN1.out.1 HN1.out.2 HXB.out.size ?_); rfl; rfl; rfl; intro v10 w10 hown10 hg10 hat10; obtain ⟨a10, m10, c10, rfl, -⟩ := ownseq_form hown10; have HE10 := Lib.hid (HXB.out.grown hg10 (fun j hj h => absurd h (by have := (OwnSeq.lt HOB.out j hj).1; omega))); have HS10 := Lib.hid (HC2.out.ext0 (HE9.out.trans' HE10.out)); have HO10 := Lib.hid hown10; clear hown10 hg10 hat10)
          | ((with_reducible refine wpList_appG _ ?_ _ _ 22 rfl w9.heap.size 42 _ _ node_info Tryd.underlying22 rfl (by decide) _ _ ?_ ?_ HO10.out HS10.out HN2.out.1 HN2.out.2 HE10.out.size ?_); rfl; rfl; rfl; intro v11 w11 hown11 hg11 hat11; obtain ⟨a11, m11, c11, rfl, -⟩ := ownseq_form hown11))
      have hE11 : Ext No w9 w11 := HE10.out.grown hg11 (fun j hj h => absurd h (by have := (OwnSeq.lt HO10.out j hj).1; omega))
      have hn11 := ownseq_nodes hown11 (HE9.out.trans' hE11)
      rw [List.nil_append] at hn11
      have HN11 := Lib.hid hn11
      have HE11 := Lib.hid (HE9.out.trans' hE11); have HEACH11 := Lib.hid (HEACH9.out.ext0 hE11); have HV811 := Lib.hid (HV89.out.ext0 hE11); have HV911 := Lib.hid (HV9.out.ext0 hE11)
      clear hown11 hg11 hat11 hE11 hn11 HE10 HS10 HO10 HOB HSB HC2 HXB HNL HN1 HN2 HE9 HEACH9 HV89 HV9
      have hbl : (blobsL (xs ++ ys)).length ≤ 5040000 := by
        have h1 := few_blobs HFX.out; have h2 := few_blobs HFY.out
        rw [blobs_append, List.length_append]; omega
      refine (blobs_any (xs ++ ys) _ 1073741824 w11 HN11.out (by omega)).mono ?_
      rintro e w12 ⟨v12, rfl, hv12, hE12⟩
      rw [take_all _ hbl, blobs_append] at hv12
      obtain ⟨a12, m12, c12, rfl, -⟩ := ownseq_form hv12
      have HE12 := Lib.hid (HE11.out.trans' hE12); have HEACH12 := Lib.hid (HEACH11.out.ext0 hE12); have HV812 := Lib.hid (HV811.out.ext0 hE12); have HV912 := Lib.hid (HV911.out.ext0 hE12); have HV12 := Lib.hid hv12.ids
      clear hv12 hE12 HE11 HEACH11 HV811 HV911 HN11 hbl
      dsimp only
      go_wp2_with fail
      refine (sameIDs_any _ _ _ _ w12 HV812.out HEACH12.out).mono ?_
      rintro e w13 ⟨rfl, hE13⟩
      rw [decide_eq_true rfl]
      have HE13 := Lib.hid (HE12.out.trans' hE13); have HV13 := Lib.hid (HV12.out.ext0 hE13)
      have hEB : Ext No w12 (w13.alloc (.cells #[] 40)) := hE13.alloc _
      have HOB := Lib.hid (show OwnSeq (w13.alloc (.cells #[] 40)) w13.heap.size 40 32 (fun _ => IdC) [] (.slice (some ⟨w13.heap.size, 0, none⟩) 0 0) from seq_made w13 40 32 (fun _ => IdC))
      have HSB := Lib.hid (src_ids (HV812.out.ext0 hEB)); have HC2 := Lib.hid (src_ids (HV912.out.ext0 hE13))
      have HXB := Lib.hid ((Ext.refl No w13).alloc (.cells #[] 40))
      have HNL := Lib.hid (show (blobsL xs).length ≤ 2520000 ∧ (blobsL ys).length ≤ 2520000 from ⟨few_blobs HFX.out, few_blobs HFY.out⟩)
      have HN1 := Lib.hid (show ([] : List (List UInt8)).length + (blobsL xs).length ≤ 9223372036854775807 ∧ (([] : List (List UInt8)).length + (blobsL xs).length) * 32 ≤ 140737488355328 by have := HNL.out.1; rw [List.length_nil]; omega)
      have HN2 := Lib.hid (show ([] ++ blobsL xs).length + (blobsL ys).length ≤ 9223372036854775807 ∧ (([] ++ blobsL xs).length + (blobsL ys).length) * 32 ≤ 140737488355328 by have := HNL.out; rw [List.nil_append]; omega)
      clear hE13 hEB HE12 HV12 HEACH12 HV812 HV912
      dsimp only
      go_wp2_with (first
          | ((with_reducible refine wpList_appG _ ?_ _ _ 38 rfl w13.heap.size 40 _ _ id_info Tryd.underlying38 rfl (by decide) _ _ ?_ ?_ HOB.out HSB.out HN1.out.1 HN1.out.2 HXB.out.size ?_); rfl; rfl; rfl; intro v14 w14 hown14 hg14 hat14; obtain ⟨a14, m14, c14, rfl, -⟩ := ownseq_form hown14; have HE14 := Lib.hid (HXB.out.grown hg14 (fun j hj h => absurd h (by have := (OwnSeq.lt HOB.out j hj).1; omega))); have HS14 := Lib.hid (HC2.out.ext0 HE14.out); have HO14 := Lib.hid hown14; clear hown14 hg14 hat14)
          | ((with_reducible refine wpList_appG _ ?_ _ _ 38 rfl w13.heap.size 40 _ _ id_info Tryd.underlying38 rfl (by decide) _ _ ?_ ?_ HO14.out HS14.out HN2.out.1 HN2.out.2 HE14.out.size ?_); rfl; rfl; rfl; intro v15 w15 hown15 hg15 hat15; obtain ⟨a15, m15, c15, rfl, -⟩ := ownseq_form hown15))
      have hE15 : Ext No w13 w15 := HE14.out.grown hg15 (fun j hj h => absurd h (by have := (OwnSeq.lt HO14.out j hj).1; omega))
      rw [List.nil_append] at hown15
      have hi15 : IsIDs w15 (blobsL xs ++ blobsL ys) (.slice a15 m15 c15) := OwnIDs.ids (show OwnIDs w15 w13.heap.size _ _ from hown15)
      refine (sameIDs_any _ _ _ _ w15 (HV13.out.ext0 hE15) hi15).mono ?_
      rintro e w16 ⟨rfl, hE16⟩
      rw [decide_eq_true rfl]
      have HE16 := Lib.hid ((HE13.out.trans' hE15).trans' hE16)
      clear hE15 hE16 hi15 hown15 hg15 hat15
      dsimp only
      go_wp2_with fail
      go_ret
      exact ⟨rfl, HE16.out⟩
end Go.Proofs.YtefabpgfhghpgaaDoor
end

section
/- The walk of TreeBack. Printed by wip/mktback.py. -/
namespace Go.Proofs.YtefabpgfhghpgaaDoor
open Go.RowKit Go.My

theorem ownB_set {w : World} {u8 : TypeId} {base b n c : Nat} {l : List UInt8} (h : OwnB w u8 base l (.slice (some ⟨b, 0, none⟩) n c)) (q : Nat) (x : UInt8) :
    OwnB (w.setCell ⟨b, q, none⟩ (.int .u8 (x.toNat : Int))) u8 base (l.set q x) (.slice (some ⟨b, 0, none⟩) n c) := by
  unfold OwnB at *
  obtain ⟨h1, h2⟩ := h
  have hb : byts (l.set q x) = (byts l).set q (.int .u8 (x.toNat : Int)) := by unfold byts; rw [List.map_set]
  refine ⟨by rw [hb, List.length_set, List.length_set]; exact h1, ?_⟩
  rcases h2 with ⟨he, -⟩ | ⟨g, cap, cur, he, h3, h4, h5, h6, h7, h8⟩
  · cases he
  · cases he
    refine .inr ⟨b, c, cur.setIfInBounds q (.int .u8 (x.toNat : Int)), by rw [List.length_set], h3, Blk.set h4 q _, by rw [List.length_set]; exact h5, h6, by rw [Array.size_setIfInBounds]; exact h7, ?_⟩
    rw [hb, Array.toList_setIfInBounds, List.take_set, List.length_set, h8]

theorem at_fit (at_ : Int) (xn : Nat) (h : 9 ≤ xn) : ∃ q : Nat, (bits .and .i64 at_ 16777215).tmod (8 * ((xn : Int) - 4) + 1) = (q : Int) ∧ q + 32 ≤ 8 * xn := by
  have h1 := i64_mask at_ 24 (by decide)
  rw [show (((2 ^ 24 - 1 : Nat) : Int)) = 16777215 from rfl] at h1
  rw [h1]
  have h2 : 0 ≤ at_ % ((2 ^ 24 : Nat) : Int) := Int.emod_nonneg _ (by decide)
  generalize at_ % ((2 ^ 24 : Nat) : Int) = m at *
  rw [Int.tmod_eq_emod_of_nonneg h2]
  have h3 : 0 < 8 * ((xn : Int) - 4) + 1 := by omega
  have h4 := Int.emod_nonneg m (show 8 * ((xn : Int) - 4) + 1 ≠ 0 by omega)
  have h5 := Int.emod_lt_of_pos m h3
  generalize m % (8 * ((xn : Int) - 4) + 1) = z at *
  exact ⟨z.toNat, by omega, by omega⟩
theorem own_some {w : World} {u8 : TypeId} {base n c : Nat} {l : List UInt8} {a : Option Addr} (h : OwnB w u8 base l (.slice a n c)) (hl : 0 < l.length) : ∃ b, a = some ⟨b, 0, none⟩ ∧ base ≤ b := by
  unfold OwnB at h
  rcases h.2 with ⟨he, h0⟩ | ⟨g, cap, cur, he, h3, -⟩
  · omega
  · cases he; exact ⟨g, rfl, h3⟩
theorem ownB_cell {w : World} {u8 : TypeId} {base b n c : Nat} {l : List UInt8} (h : OwnB w u8 base l (.slice (some ⟨b, 0, none⟩) n c)) (q : Nat) (hq : q < l.length) :
    w.cell? ⟨b, q, none⟩ = some (.int .u8 ((l.getD q 0).toNat : Int)) ∧ w.frozen? ⟨b, q, none⟩ = false := by
  have hb : IsBytes w l (.slice (some ⟨b, 0, none⟩) n c) := OwnB.bytes h
  obtain ⟨b1, o1, h1, h2⟩ := IsBytes.get hb q (by rw [IsBytes.len hb]; exact hq)
  cases h1
  rw [Nat.zero_add] at h2
  refine ⟨h2, ?_⟩
  unfold OwnB at h
  rcases h.2 with ⟨he, -⟩ | ⟨g, cap, cur, he, h3, h4, -⟩
  · cases he
  · cases he
    exact Blk.free (T := u8) h4 q
theorem w32_shr1 (t : BitVec 32) (k : Nat) : bits .and .u32 (w32 t / ((2 ^ k : Nat) : Int)) 1 = if t.getLsbD k then 1 else 0 := by
  rw [w32_shr, w32_one]
  have : t >>> k &&& 1#32 = if t.getLsbD k then 1#32 else 0#32 := by
    apply BitVec.eq_of_getLsbD_eq
    intro i hi
    rw [BitVec.getLsbD_and, BitVec.getLsbD_ushiftRight, BitVec.getLsbD_one]
    by_cases h0 : i = 0
    · subst h0; cases h : t.getLsbD k <;> simp [h]
    · cases h : t.getLsbD k <;> simp [h0]
  rw [this]
  split
  · rw [w32_def]; rfl
  · rw [w32_def]; rfl
theorem shr_bit (t : BitVec 32) (k : Nat) (_h : k < 32) : (bits .and .u32 (w32 t / (2 : Int) ^ k) 1 == 1) = t.getLsbD k := by
  rw [show (2 : Int) ^ k = ((2 ^ k : Nat) : Int) from (Int.natCast_pow 2 k).symm, w32_shr1]; cases t.getLsbD k <;> rfl
theorem xor_bit (c : UInt8) (r : Nat) (h : r < 8) : bits .xor .u8 (c.toNat : Int) (IntKind.u8.wrap ((2 : Int) ^ r)) = ((xorB c r).toNat : Int) := by
  have h2 : 2 ^ r < 2 ^ 8 := Nat.pow_lt_pow_right (by decide) h
  have hc := c.toNat_lt
  have e1 : (c.toNat : Int) = w8 (BitVec.ofNat 8 c.toNat) := w8_lit _ (by omega)
  have e2 : (2 : Int) ^ r = ((2 ^ r : Nat) : Int) := (Int.natCast_pow 2 r).symm
  rw [e1, e2, w8_nat, w8_xor, w8_def, BitVec.toNat_xor, BitVec.toNat_ofNat, BitVec.toNat_ofNat, Nat.mod_eq_of_lt (by omega), Nat.mod_eq_of_lt (by omega)]
  unfold xorB
  rw [UInt8.toNat_ofNat', Nat.mod_eq_of_lt (Nat.xor_lt_two_pow (by omega) h2)]

set_option maxRecDepth 100000 in
set_option maxHeartbeats 16000000 in
theorem treeBack_fr (xs : List NodeL) (v0 : Value) (ys : List NodeL) (v1 : Value) (l : List UInt8) (v2 : Value) (at_ : Int) (t : BitVec 32) (w : World) (hx : IsNodes w xs v0 ∧ ∀ n ∈ xs, n.name.length ≤ 9223372036854775807) (hy : IsNodes w ys v1 ∧ ∀ n ∈ ys, n.name.length ≤ 9223372036854775807) (hb : IsBytes w l v2) (_lo : -9223372036854775808 ≤ at_) (_hi : at_ ≤ 9223372036854775807) :
    Calls Tryd.prog 3 #[v0, v1, v2, .int .i64 at_, .int .u32 (w32 t)] w fun e w' => e = .returned (.bool true) ∧ Ext No w w' := by
  obtain ⟨a, n, c, rfl, hn⟩ := nodes_form hx.1
  obtain ⟨b, m, d, rfl, hm⟩ := nodes_form hy.1
  obtain ⟨ab, cb, rfl, hcb1, hcb2, -⟩ := id hb
  obtain ⟨nb, hnb⟩ : ∃ k, k = l.length := ⟨_, rfl⟩
  rw [← hnb] at hb hcb1 ⊢
  have HX := Lib.hid hx; have HY := Lib.hid hy; have HN := Lib.hid hn; have HM := Lib.hid hm; have HB := Lib.hid hb; have HNB := Lib.hid hnb
  clear hx hy hn hm hb hnb
  go_enter Tryd.func3, Tryd.ntmps3
  go_wp2_with fail
  refine (alive_any w).mono ?_
  rintro e w1 ⟨rfl, hE1⟩
  have HE1 := Lib.hid hE1
  clear hE1
  dsimp only
  go_wp2_with fail
  refine (few_any xs _ w1 (HX.out.1.ext0 HE1.out) HX.out.2).mono ?_
  rintro e w2 ⟨rfl, hE2⟩
  have HE2 := Lib.hid (HE1.out.trans' hE2)
  clear hE2 HE1
  dsimp only
  cases hfx : fewB xs
  · go_wp2_with fail
    go_ret
    exact ⟨rfl, HE2.out⟩
  have HFX := Lib.hid hfx
  clear hfx
  go_wp2_with fail
  refine (few_any ys _ w2 (HY.out.1.ext0 HE2.out) HY.out.2).mono ?_
  rintro e w3 ⟨rfl, hE3⟩
  have HE3 := Lib.hid (HE2.out.trans' hE3)
  clear hE3 HE2
  dsimp only
  cases hfy : fewB ys
  · go_wp2_with fail
    go_ret
    exact ⟨rfl, HE3.out⟩
  have HFY := Lib.hid hfy
  clear hfy
  by_cases h600 : 600 < nb
  · have h600i : (600 : Int) < nb := by omega
    go_wp2_with fail
    go_ret
    exact ⟨rfl, HE3.out⟩
  have h600i : decide ((600 : Int) < (nb : Int)) = false := by simp; omega
  have HL6 := Lib.hid (show l.length ≤ 600 by rw [← HNB.out]; omega)
  have HNX := Lib.hid (show ∀ m ∈ xs, m.name.length ≤ 1000000000 from fun m hm => by have := ((few_ok HFX.out).2 m hm).2; omega)
  have HNY := Lib.hid (show ∀ m ∈ ys, m.name.length ≤ 1000000000 from fun m hm => by have := ((few_ok HFY.out).2 m hm).2; omega)
  have HLX := Lib.hid (show xs.length < 600 ∧ ys.length < 600 from ⟨(few_ok HFX.out).1, (few_ok HFY.out).1⟩)
  clear h600
  go_wp2_with fail
  refine (tencode_any xs _ w3 (HX.out.1.ext0 HE3.out) HNX.out).mono ?_
  rintro e w4 ⟨hE4, hT4⟩
  have HE4 := Lib.hid (HE3.out.trans' hE4); have HZ4 := Lib.hid (HE3.out.size)
  clear hE4 HE3
  rcases hT4 with ⟨hok, vx, rfl, hox⟩ | ⟨hno, rfl⟩
  case inr =>
    have hnob : (nodesE xs == 0) = false := by simpa using hno
    clear hno
    dsimp only
    go_wp2_with fail
    refine (tencode_any ys _ w4 (HY.out.1.ext0 HE4.out) HNY.out).mono ?_
    rintro e w5 ⟨hE5, hT5⟩
    obtain ⟨vy, f, rfl⟩ : ∃ vy f, e = .returned (.tuple #[vy, .int .i64 f]) := by
      rcases hT5 with ⟨-, vy, rfl, -⟩ | ⟨-, rfl⟩
      · exact ⟨_, _, rfl⟩
      · exact ⟨_, _, rfl⟩
    have HE5 := Lib.hid (HE4.out.trans' hE5)
    clear hE5 HE4 hT5
    dsimp only
    go_wp2_with fail
    refine (tdecode_any l _ _ (HB.out.ext0 HE5.out) (by have := HL6.out; omega)).mono ?_
    rintro e w30 ⟨hE30, ⟨gs, gv, hgd, rfl, hgo, hgn⟩ | ⟨hgd, rfl⟩⟩
    · have hds := dec_some hgd
      obtain ⟨ga, gm, gc, rfl, -⟩ := ownseq_form hgo
      have HE30 := Lib.hid (HE5.out.trans' hE30); have HG := Lib.hid hgo.nodes; have HDS := Lib.hid hds
      have HGN := Lib.hid (show ∀ m ∈ gs, m.name.length ≤ 1000000000 from fun m hm => by have := hgn m hm; omega)
      clear hE30 hgo hgn hds hgd
      dsimp only
      go_wp2_with fail
      refine (tencode_any gs _ w30 HG.out HGN.out).mono ?_
      rintro e w31 ⟨hE31, ⟨-, x31, rfl, hx31⟩ | ⟨h, -⟩⟩
      case inr => exact absurd HDS.out.2.1 h
      rw [HDS.out.2.2] at hx31
      obtain ⟨a31, c31, rfl⟩ := own_form hx31
      have HE31 := Lib.hid (HE30.out.trans' hE31); have HG31 := Lib.hid (HG.out.ext0 hE31); have HB31 := Lib.hid hx31.bytes
      rw [← HNB.out] at HB31 ⊢
      clear hE31 hx31
      dsimp only
      go_wp2_with fail
      refine (tcheck_any gs _ w31 HG31.out HGN.out).mono ?_
      rintro e w32 ⟨rfl, hE32⟩
      rw [HDS.out.2.1]
      have HE32 := Lib.hid (HE31.out.trans' hE32); have HB32 := Lib.hid (HB31.out.ext0 hE32)
      clear hE32
      dsimp only
      go_wp2_with fail
      refine (same1_any l l _ _ w32 HB32.out (HB.out.ext0 HE32.out)).mono ?_
      rintro e w33 ⟨rfl, rfl⟩
      rw [decide_eq_true rfl]
      dsimp only
      go_wp2_with fail
      go_ret
      exact ⟨rfl, HE32.out⟩
    · have hde := decE_none hgd
      have HE30 := Lib.hid (HE5.out.trans' hE30)
      generalize decE l = z at *
      have hzb : (z == 0) = false := by simpa using hde
      clear hE30 hgd hde
      dsimp only
      go_wp2_with fail
      go_ret
      exact ⟨rfl, HE30.out⟩
  have hen := enc_len xs HX.out.1.wf hok
  obtain ⟨X, hX⟩ : ∃ X, encB xs = X := ⟨_, rfl⟩
  have hdec := dec_enc xs HX.out.1.wf hok
  rw [hX] at hox hen hdec
  obtain ⟨xa, xc, rfl⟩ := own_form hox
  obtain ⟨xn, hxn⟩ : ∃ k, k = X.length := ⟨_, rfl⟩
  have HXO := Lib.hid hox; have HXN := Lib.hid hxn; have HXX := Lib.hid (show encB xs = X from hX); have HOK := Lib.hid hok; have HDEC := Lib.hid hdec
  rw [← hxn] at HXO hen ⊢
  clear hox hxn hX hok hdec
  dsimp only
  go_wp2_with fail
  refine (tencode_any ys _ w4 (HY.out.1.ext0 HE4.out) HNY.out).mono ?_
  rintro e w5 ⟨hE5, hT5⟩
  have HE5 := Lib.hid (HE4.out.trans' hE5)
  have HXO5 := Lib.hid (HXO.out.ext hE5 (fun _ _ s => s))
  have HDX := Lib.hid (fun W (hW : Ext No w5 W) => tdecode_any X _ W ((HXO5.out.ext hW (fun _ _ s => s)).bytes) (by rw [← HXN.out]; omega))
  clear hE5 HE4 HXO
  rcases hT5 with ⟨hok2, vy, rfl, hoy⟩ | ⟨hno2, rfl⟩
  · have hsm := enc_same xs ys HX.out.1.wf HY.out.1.wf HOK.out hok2
    have hyn := enc_len ys HY.out.1.wf hok2
    rw [HXX.out] at hsm
    obtain ⟨Y, hY⟩ : ∃ Y, encB ys = Y := ⟨_, rfl⟩
    rw [hY] at hoy hsm hyn
    obtain ⟨ya, yc, rfl⟩ := own_form hoy
    obtain ⟨yn, hynn⟩ : ∃ k, k = Y.length := ⟨_, rfl⟩
    have HYO := Lib.hid hoy.bytes; have HSM := Lib.hid hsm
    rw [← hynn] at HYO hyn ⊢
    clear hoy hY hynn hsm hok2
    dsimp only
    go_wp2_with fail
    refine (HDX.out _ (Ext.refl _ _)).mono ?_
    rintro e w6 ⟨hE6, ⟨bs, bv, hbd, rfl, hbo, -⟩ | ⟨hbd, -⟩⟩
    case inr => rw [HDEC.out] at hbd; cases hbd
    have hbs : xs = bs := by rw [HDEC.out] at hbd; exact Option.some.inj hbd
    subst hbs
    obtain ⟨ba, bm, bc, rfl, -⟩ := ownseq_form hbo
    have HE6 := Lib.hid (HE5.out.trans' hE6); have HBK := Lib.hid hbo.nodes; have HF6 := Lib.hid hE6
    clear hE6 hbo hbd
    dsimp only
    go_wp2_with fail
    refine (as_any xs _ _ HBK.out (by have := HLX.out; omega)).mono ?_
    rintro e w7 ⟨v7, rfl, hv7, hE7⟩
    obtain ⟨a7, m7, c7, rfl, -⟩ := nodes_form hv7
    have HE7 := Lib.hid (HE6.out.trans' hE7); have HV7 := Lib.hid hv7; have HF7 := Lib.hid (HF6.out.trans' hE7)
    clear hE7 hv7 HE6 HF6 HBK
    dsimp only
    go_wp2_with fail
    refine (as_any xs _ _ (HX.out.1.ext0 HE7.out) (by have := HLX.out; omega)).mono ?_
    rintro e w71 ⟨v71, rfl, hv71, hE71⟩
    obtain ⟨a71, m71, c71, rfl, -⟩ := nodes_form hv71
    have HE71 := Lib.hid (HE7.out.trans' hE71); have HV71 := Lib.hid hv71; have HV7b := Lib.hid (HV7.out.ext0 hE71); have HF71 := Lib.hid (HF7.out.trans' hE71)
    clear hE71 hv71 HE7 HV7 HF7
    dsimp only
    go_wp2_with fail
    refine (same10_any xs xs _ _ _ HV7b.out HV71.out).mono ?_
    rintro e w8 ⟨rfl, hE8⟩
    rw [decide_eq_true rfl]
    have HE8 := Lib.hid (HE71.out.trans' hE8); have HF8 := Lib.hid (HF71.out.trans' hE8)
    have HXO8 := Lib.hid (HXO5.out.ext HF8.out (fun _ _ s => s))
    clear hE8 HE71 HV7b HV71 HF71 HXO5 HE5
    dsimp only
    go_wp2_with fail
    refine (same1_any X Y _ _ _ (HXO8.out.bytes) (HYO.out.ext0 HF8.out)).mono ?_
    rintro e w9 ⟨rfl, rfl⟩
    rw [HSM.out]
    dsimp only
    go_wp2_with fail
    refine (as_any xs _ _ (HX.out.1.ext0 HE8.out) (by have := HLX.out; omega)).mono ?_
    rintro e w10 ⟨v10, rfl, hv10, hE10⟩
    obtain ⟨a10, m10, c10, rfl, -⟩ := nodes_form hv10
    have HE10 := Lib.hid (HE8.out.trans' hE10); have HXO10 := Lib.hid (HXO8.out.ext hE10 (fun _ _ s => s)); have HV10 := Lib.hid hv10
    clear hE10 hv10
    dsimp only
    go_wp2_with fail
    refine (as_any ys _ _ (HY.out.1.ext0 HE10.out) (by have := HLX.out; omega)).mono ?_
    rintro e w11 ⟨v11, rfl, hv11, hE11⟩
    obtain ⟨a11, m11, c11, rfl, -⟩ := nodes_form hv11
    have HE11 := Lib.hid (HE10.out.trans' hE11); have HXO11 := Lib.hid (HXO10.out.ext hE11 (fun _ _ s => s)); have HV11 := Lib.hid hv11; have HV10b := Lib.hid (HV10.out.ext0 hE11)
    clear hE11 hv11
    dsimp only
    go_wp2_with fail
    refine (same10_any xs ys _ _ _ HV10b.out HV11.out).mono ?_
    rintro e w12 ⟨rfl, hE12⟩
    have HE12 := Lib.hid (HE11.out.trans' hE12); have HXO12 := Lib.hid (HXO11.out.ext hE12 (fun _ _ s => s))
    clear hE12 HYO HSM HE8 HE10 HE11 HXO8 HXO10 HXO11 HV10 HV11 HV10b HF8 HDX
    generalize decide (xs = ys) = sm at *
    dsimp only
    go_wp2_with fail
    obtain ⟨q, hq, hq2⟩ := at_fit at_ xn hen.2
    rw [hq]
    obtain ⟨xb, rfl, hxb⟩ := own_some HXO12.out (by rw [← HXN.out]; omega)
    have HQ2 := Lib.hid hq2; have HXB := Lib.hid hxb
    clear hq
    have hx0 : Ext (fun j => j = xb) w12 w12 := Ext.refl _ _
    have HX0 := Lib.hid hx0
    clear hx0 hxb
    go_loopw [89] (fun i wr => ∃ k : Nat, i = .int .i64 k ∧ k ≤ 32 ∧ Ext (fun j => j = xb) w12 wr ∧ OwnB wr 5 w3.heap.size (turnS q t k X) (.slice (some ⟨xb, 0, none⟩) xn xc)) (fun i _ => 32 - (intOf i).toNat)
    case atStart => exact ⟨0, rfl, Nat.zero_le _, HX0.out, HXO12.out⟩
    case round =>
      obtain ⟨k, rfl, hk, hxr, hor⟩ := hrel
      have HXR := Lib.hid hxr; have HOR := Lib.hid hor
      clear hxr hor
      by_cases hlt : k < 32
      · have hltI : (k : Int) < 32 := by omega
        have hk0 : ¬ (k : Int) < 0 := by omega
        have hsh := shr_bit t k hlt
        have htn : turnS q t (k + 1) X = if t.getLsbD k then (turnS q t k X).set ((q + k) / 8) (xorB ((turnS q t k X).getD ((q + k) / 8) 0) ((q + k) % 8)) else turnS q t k X := rfl
        have hlen := turnS_length q t k X
        obtain ⟨Y1, hY1⟩ : ∃ Y1, turnS q t (k + 1) X = Y1 := ⟨_, rfl⟩
        rw [hY1] at htn
        have HY1 := Lib.hid hY1
        clear hY1
        generalize turnS q t k X = Y at *
        have HTN := Lib.hid htn; have HLEN := Lib.hid hlen
        clear htn hlen
        cases hb : t.getLsbD k
        · rw [hb] at hsh
          have HB1 := Lib.hid hb
          clear hb
          go_wp2_with fail
          go_roundw
          case rel => exact ⟨k + 1, by go_num, by omega, HXR.out, by rw [HY1.out, HTN.out, HB1.out, if_neg (by decide)]; exact HOR.out⟩
          case measure => simp [intOf]; omega
        · rw [hb] at hsh
          have HB1 := Lib.hid hb
          obtain ⟨p, hp⟩ : ∃ p, p = (q + k) / 8 := ⟨_, rfl⟩
          obtain ⟨r, hr⟩ : ∃ r, r = (q + k) % 8 := ⟨_, rfl⟩
          have hpi : ((q : Int) + k).tdiv 8 = (p : Int) := by rw [hp, Int.tdiv_eq_ediv_of_nonneg (by omega)]; omega
          have hri : ((q : Int) + k).tmod 8 = (r : Int) := by rw [hr, Int.tmod_eq_emod_of_nonneg (by omega)]; omega
          have hpn : p < xn := by have := HQ2.out; omega
          have hpnI : (p : Int) < xn := by omega
          have hr8 : r < 8 := by omega
          obtain ⟨cc, fz⟩ := ownB_cell HOR.out p (by rw [HLEN.out, ← HXN.out]; exact hpn)
          have hwp : IntKind.i64.wrap (p : Int) = p := by rw [IntKind.wrap_i64]; have := HXN.out; omega
          have hqk : IntKind.i64.wrap ((q : Int) + k) = (q : Int) + k := by rw [IntKind.wrap_i64]; have := HQ2.out; omega
          have HP := Lib.hid hp; have HR := Lib.hid hr
          rw [← hp, ← hr] at HTN
          have HSET := Lib.hid (ownB_set HOR.out p (xorB (Y.getD p 0) r))
          have hxb8 := xor_bit (Y.getD p 0) r hr8
          generalize Y.getD p 0 = yc at *
          clear hb hp hr
          go_wp2_with fail
          refine wp_region_still_tail 14 (by kernel_rfl) (by kernel_rfl) ?_
          simp only [List.take_succ_cons, List.take_zero, List.drop_succ_cons, List.drop_zero]
          repeat still_step
          refine wpStill_nil ?_
          go_wp2_with fail
          go_roundw
          case rel => exact ⟨k + 1, by go_num, by omega, (HXR.out.trans' ((Ext.refl _ wr).setCell _ _ (fun _ => rfl))).drew, by rw [HY1.out, HTN.out, HB1.out, if_pos rfl]; exact HSET.out⟩
          case measure => simp [intOf]; omega
      · have hk32 : k = 32 := by omega
        subst hk32
        have hex : Ext No w wr := HE12.out.trans HXR.out (fun _ _ s => s) (fun j hj h => by have := HXB.out; have := HZ4.out; omega)
        have HEX := Lib.hid hex
        have hdx := tdecode_any (turnS q t 32 X) _ wr HOR.out.bytes (by rw [turnS_length, ← HXN.out]; omega)
        have HDX2 := Lib.hid hdx
        clear hex hdx hlt hk
        go_wp2_with fail
        refine HDX2.out.mono ?_
        rintro e w20 ⟨hE20, hD20⟩
        have HE20 := Lib.hid (HEX.out.trans' hE20)
        clear hE20 HDX2 HEX HXR
        by_cases ht0 : t = 0#32
        · subst ht0
          rw [turnS_zero, HDEC.out] at hD20
          rcases hD20 with ⟨gs0, v20, -, rfl, ho20, -⟩ | ⟨h, -⟩
          case inr => cases h
          obtain ⟨a20, m20, c20, rfl, -⟩ := ownseq_form ho20
          have hw0 : w32 0#32 = 0 := by rw [w32_def]; rfl
          rw [hw0]
          clear ho20 hw0
          dsimp only
          go_wp2_with fail
          refine (tdecode_any l _ _ (HB.out.ext0 HE20.out) (by have := HL6.out; omega)).mono ?_
          rintro e w30 ⟨hE30, ⟨gs, gv, hgd, rfl, hgo, hgn⟩ | ⟨hgd, rfl⟩⟩
          · have hds := dec_some hgd
            obtain ⟨ga, gm, gc, rfl, -⟩ := ownseq_form hgo
            have HE30 := Lib.hid (HE20.out.trans' hE30); have HG := Lib.hid hgo.nodes; have HDS := Lib.hid hds
            have HGN := Lib.hid (show ∀ m ∈ gs, m.name.length ≤ 1000000000 from fun m hm => by have := hgn m hm; omega)
            clear hE30 hgo hgn hds hgd
            dsimp only
            go_wp2_with fail
            refine (tencode_any gs _ w30 HG.out HGN.out).mono ?_
            rintro e w31 ⟨hE31, ⟨-, x31, rfl, hx31⟩ | ⟨h, -⟩⟩
            case inr => exact absurd HDS.out.2.1 h
            rw [HDS.out.2.2] at hx31
            obtain ⟨a31, c31, rfl⟩ := own_form hx31
            have HE31 := Lib.hid (HE30.out.trans' hE31); have HG31 := Lib.hid (HG.out.ext0 hE31); have HB31 := Lib.hid hx31.bytes
            rw [← HNB.out] at HB31 ⊢
            clear hE31 hx31
            dsimp only
            go_wp2_with fail
            refine (tcheck_any gs _ w31 HG31.out HGN.out).mono ?_
            rintro e w32 ⟨rfl, hE32⟩
            rw [HDS.out.2.1]
            have HE32 := Lib.hid (HE31.out.trans' hE32); have HB32 := Lib.hid (HB31.out.ext0 hE32)
            clear hE32
            dsimp only
            go_wp2_with fail
            refine (same1_any l l _ _ w32 HB32.out (HB.out.ext0 HE32.out)).mono ?_
            rintro e w33 ⟨rfl, rfl⟩
            rw [decide_eq_true rfl]
            dsimp only
            go_wp2_with fail
            go_ret
            exact ⟨rfl, HE32.out⟩
          · have hde := decE_none hgd
            have HE30 := Lib.hid (HE20.out.trans' hE30)
            generalize decE l = z at *
            have hzb : (z == 0) = false := by simpa using hde
            clear hE30 hgd hde
            dsimp only
            go_wp2_with fail
            go_ret
            exact ⟨rfl, HE30.out⟩
        · have hsp := spoiled 84 84 (numB xs.length 4 ++ nodesB xs) q t ht0 (by rw [show sealB 84 (numB xs.length 4 ++ nodesB xs) = X from HXX.out, ← HXN.out]; exact HQ2.out)
          rw [show sealB 84 (numB xs.length 4 ++ nodesB xs) = X from HXX.out] at hsp
          have hdn : decT (turnS q t 32 X) = none := by unfold decT; rw [hsp]; rfl
          have hde : decE (turnS q t 32 X) = 36 := by unfold decE; rw [hsp]; rfl
          rcases hD20 with ⟨gs0, v20, h, -⟩ | ⟨-, rfl⟩
          case inl => rw [hdn] at h; cases h
          rw [hde]
          have htb : (w32 t == 0) = false := by
            rw [beq_eq_false_iff_ne]; intro h; exact ht0 (w32_inj (by rw [h, w32_def]; rfl))
          have htb2 : ¬ w32 t = 0 := by simpa using htb
          clear hsp hdn hde
          dsimp only
          go_wp2_with fail
          refine (tdecode_any l _ _ (HB.out.ext0 HE20.out) (by have := HL6.out; omega)).mono ?_
          rintro e w30 ⟨hE30, ⟨gs, gv, hgd, rfl, hgo, hgn⟩ | ⟨hgd, rfl⟩⟩
          · have hds := dec_some hgd
            obtain ⟨ga, gm, gc, rfl, -⟩ := ownseq_form hgo
            have HE30 := Lib.hid (HE20.out.trans' hE30); have HG := Lib.hid hgo.nodes; have HDS := Lib.hid hds
            have HGN := Lib.hid (show ∀ m ∈ gs, m.name.length ≤ 1000000000 from fun m hm => by have := hgn m hm; omega)
            clear hE30 hgo hgn hds hgd
            dsimp only
            go_wp2_with fail
            refine (tencode_any gs _ w30 HG.out HGN.out).mono ?_
            rintro e w31 ⟨hE31, ⟨-, x31, rfl, hx31⟩ | ⟨h, -⟩⟩
            case inr => exact absurd HDS.out.2.1 h
            rw [HDS.out.2.2] at hx31
            obtain ⟨a31, c31, rfl⟩ := own_form hx31
            have HE31 := Lib.hid (HE30.out.trans' hE31); have HG31 := Lib.hid (HG.out.ext0 hE31); have HB31 := Lib.hid hx31.bytes
            rw [← HNB.out] at HB31 ⊢
            clear hE31 hx31
            dsimp only
            go_wp2_with fail
            refine (tcheck_any gs _ w31 HG31.out HGN.out).mono ?_
            rintro e w32 ⟨rfl, hE32⟩
            rw [HDS.out.2.1]
            have HE32 := Lib.hid (HE31.out.trans' hE32); have HB32 := Lib.hid (HB31.out.ext0 hE32)
            clear hE32
            dsimp only
            go_wp2_with fail
            refine (same1_any l l _ _ w32 HB32.out (HB.out.ext0 HE32.out)).mono ?_
            rintro e w33 ⟨rfl, rfl⟩
            rw [decide_eq_true rfl]
            dsimp only
            go_wp2_with fail
            go_ret
            exact ⟨rfl, HE32.out⟩
          · have hde := decE_none hgd
            have HE30 := Lib.hid (HE20.out.trans' hE30)
            generalize decE l = z at *
            have hzb : (z == 0) = false := by simpa using hde
            clear hE30 hgd hde
            dsimp only
            go_wp2_with fail
            go_ret
            exact ⟨rfl, HE30.out⟩
  · have hnob : (nodesE ys == 0) = false := by simpa using hno2
    clear hno2
    dsimp only
    go_wp2_with fail
    refine (HDX.out _ (Ext.refl _ _)).mono ?_
    rintro e w6 ⟨hE6, ⟨bs, bv, hbd, rfl, hbo, -⟩ | ⟨hbd, -⟩⟩
    case inr => rw [HDEC.out] at hbd; cases hbd
    have hbs : xs = bs := by rw [HDEC.out] at hbd; exact Option.some.inj hbd
    subst hbs
    obtain ⟨ba, bm, bc, rfl, -⟩ := ownseq_form hbo
    have HE6 := Lib.hid (HE5.out.trans' hE6); have HBK := Lib.hid hbo.nodes; have HF6 := Lib.hid hE6
    clear hE6 hbo hbd
    dsimp only
    go_wp2_with fail
    refine (as_any xs _ _ HBK.out (by have := HLX.out; omega)).mono ?_
    rintro e w7 ⟨v7, rfl, hv7, hE7⟩
    obtain ⟨a7, m7, c7, rfl, -⟩ := nodes_form hv7
    have HE7 := Lib.hid (HE6.out.trans' hE7); have HV7 := Lib.hid hv7; have HF7 := Lib.hid (HF6.out.trans' hE7)
    clear hE7 hv7 HE6 HF6 HBK
    dsimp only
    go_wp2_with fail
    refine (as_any xs _ _ (HX.out.1.ext0 HE7.out) (by have := HLX.out; omega)).mono ?_
    rintro e w71 ⟨v71, rfl, hv71, hE71⟩
    obtain ⟨a71, m71, c71, rfl, -⟩ := nodes_form hv71
    have HE71 := Lib.hid (HE7.out.trans' hE71); have HV71 := Lib.hid hv71; have HV7b := Lib.hid (HV7.out.ext0 hE71); have HF71 := Lib.hid (HF7.out.trans' hE71)
    clear hE71 hv71 HE7 HV7 HF7
    dsimp only
    go_wp2_with fail
    refine (same10_any xs xs _ _ _ HV7b.out HV71.out).mono ?_
    rintro e w8 ⟨rfl, hE8⟩
    rw [decide_eq_true rfl]
    have HE8 := Lib.hid (HE71.out.trans' hE8); have HF8 := Lib.hid (HF71.out.trans' hE8)
    have HXO8 := Lib.hid (HXO5.out.ext HF8.out (fun _ _ s => s))
    clear hE8 HE71 HV7b HV71 HF71 HXO5 HE5
    dsimp only
    go_wp2_with fail
    clear HDX HF8
    obtain ⟨q, hq, hq2⟩ := at_fit at_ xn hen.2
    rw [hq]
    obtain ⟨xb, rfl, hxb⟩ := own_some HXO8.out (by rw [← HXN.out]; omega)
    have HQ2 := Lib.hid hq2; have HXB := Lib.hid hxb
    clear hq
    have hx0 : Ext (fun j => j = xb) w8 w8 := Ext.refl _ _
    have HX0 := Lib.hid hx0
    clear hx0 hxb
    go_loopw [89] (fun i wr => ∃ k : Nat, i = .int .i64 k ∧ k ≤ 32 ∧ Ext (fun j => j = xb) w8 wr ∧ OwnB wr 5 w3.heap.size (turnS q t k X) (.slice (some ⟨xb, 0, none⟩) xn xc)) (fun i _ => 32 - (intOf i).toNat)
    case atStart => exact ⟨0, rfl, Nat.zero_le _, HX0.out, HXO8.out⟩
    case round =>
      obtain ⟨k, rfl, hk, hxr, hor⟩ := hrel
      have HXR := Lib.hid hxr; have HOR := Lib.hid hor
      clear hxr hor
      by_cases hlt : k < 32
      · have hltI : (k : Int) < 32 := by omega
        have hk0 : ¬ (k : Int) < 0 := by omega
        have hsh := shr_bit t k hlt
        have htn : turnS q t (k + 1) X = if t.getLsbD k then (turnS q t k X).set ((q + k) / 8) (xorB ((turnS q t k X).getD ((q + k) / 8) 0) ((q + k) % 8)) else turnS q t k X := rfl
        have hlen := turnS_length q t k X
        obtain ⟨Y1, hY1⟩ : ∃ Y1, turnS q t (k + 1) X = Y1 := ⟨_, rfl⟩
        rw [hY1] at htn
        have HY1 := Lib.hid hY1
        clear hY1
        generalize turnS q t k X = Y at *
        have HTN := Lib.hid htn; have HLEN := Lib.hid hlen
        clear htn hlen
        cases hb : t.getLsbD k
        · rw [hb] at hsh
          have HB1 := Lib.hid hb
          clear hb
          go_wp2_with fail
          go_roundw
          case rel => exact ⟨k + 1, by go_num, by omega, HXR.out, by rw [HY1.out, HTN.out, HB1.out, if_neg (by decide)]; exact HOR.out⟩
          case measure => simp [intOf]; omega
        · rw [hb] at hsh
          have HB1 := Lib.hid hb
          obtain ⟨p, hp⟩ : ∃ p, p = (q + k) / 8 := ⟨_, rfl⟩
          obtain ⟨r, hr⟩ : ∃ r, r = (q + k) % 8 := ⟨_, rfl⟩
          have hpi : ((q : Int) + k).tdiv 8 = (p : Int) := by rw [hp, Int.tdiv_eq_ediv_of_nonneg (by omega)]; omega
          have hri : ((q : Int) + k).tmod 8 = (r : Int) := by rw [hr, Int.tmod_eq_emod_of_nonneg (by omega)]; omega
          have hpn : p < xn := by have := HQ2.out; omega
          have hpnI : (p : Int) < xn := by omega
          have hr8 : r < 8 := by omega
          obtain ⟨cc, fz⟩ := ownB_cell HOR.out p (by rw [HLEN.out, ← HXN.out]; exact hpn)
          have hwp : IntKind.i64.wrap (p : Int) = p := by rw [IntKind.wrap_i64]; have := HXN.out; omega
          have hqk : IntKind.i64.wrap ((q : Int) + k) = (q : Int) + k := by rw [IntKind.wrap_i64]; have := HQ2.out; omega
          have HP := Lib.hid hp; have HR := Lib.hid hr
          rw [← hp, ← hr] at HTN
          have HSET := Lib.hid (ownB_set HOR.out p (xorB (Y.getD p 0) r))
          have hxb8 := xor_bit (Y.getD p 0) r hr8
          generalize Y.getD p 0 = yc at *
          clear hb hp hr
          go_wp2_with fail
          refine wp_region_still_tail 14 (by kernel_rfl) (by kernel_rfl) ?_
          simp only [List.take_succ_cons, List.take_zero, List.drop_succ_cons, List.drop_zero]
          repeat still_step
          refine wpStill_nil ?_
          go_wp2_with fail
          go_roundw
          case rel => exact ⟨k + 1, by go_num, by omega, (HXR.out.trans' ((Ext.refl _ wr).setCell _ _ (fun _ => rfl))).drew, by rw [HY1.out, HTN.out, HB1.out, if_pos rfl]; exact HSET.out⟩
          case measure => simp [intOf]; omega
      · have hk32 : k = 32 := by omega
        subst hk32
        have hex : Ext No w wr := HE8.out.trans HXR.out (fun _ _ s => s) (fun j hj h => by have := HXB.out; have := HZ4.out; omega)
        have HEX := Lib.hid hex
        have hdx := tdecode_any (turnS q t 32 X) _ wr HOR.out.bytes (by rw [turnS_length, ← HXN.out]; omega)
        have HDX2 := Lib.hid hdx
        clear hex hdx hlt hk
        go_wp2_with fail
        refine HDX2.out.mono ?_
        rintro e w20 ⟨hE20, hD20⟩
        have HE20 := Lib.hid (HEX.out.trans' hE20)
        clear hE20 HDX2 HEX HXR
        by_cases ht0 : t = 0#32
        · subst ht0
          rw [turnS_zero, HDEC.out] at hD20
          rcases hD20 with ⟨gs0, v20, -, rfl, ho20, -⟩ | ⟨h, -⟩
          case inr => cases h
          obtain ⟨a20, m20, c20, rfl, -⟩ := ownseq_form ho20
          have hw0 : w32 0#32 = 0 := by rw [w32_def]; rfl
          rw [hw0]
          clear ho20 hw0
          dsimp only
          go_wp2_with fail
          refine (tdecode_any l _ _ (HB.out.ext0 HE20.out) (by have := HL6.out; omega)).mono ?_
          rintro e w30 ⟨hE30, ⟨gs, gv, hgd, rfl, hgo, hgn⟩ | ⟨hgd, rfl⟩⟩
          · have hds := dec_some hgd
            obtain ⟨ga, gm, gc, rfl, -⟩ := ownseq_form hgo
            have HE30 := Lib.hid (HE20.out.trans' hE30); have HG := Lib.hid hgo.nodes; have HDS := Lib.hid hds
            have HGN := Lib.hid (show ∀ m ∈ gs, m.name.length ≤ 1000000000 from fun m hm => by have := hgn m hm; omega)
            clear hE30 hgo hgn hds hgd
            dsimp only
            go_wp2_with fail
            refine (tencode_any gs _ w30 HG.out HGN.out).mono ?_
            rintro e w31 ⟨hE31, ⟨-, x31, rfl, hx31⟩ | ⟨h, -⟩⟩
            case inr => exact absurd HDS.out.2.1 h
            rw [HDS.out.2.2] at hx31
            obtain ⟨a31, c31, rfl⟩ := own_form hx31
            have HE31 := Lib.hid (HE30.out.trans' hE31); have HG31 := Lib.hid (HG.out.ext0 hE31); have HB31 := Lib.hid hx31.bytes
            rw [← HNB.out] at HB31 ⊢
            clear hE31 hx31
            dsimp only
            go_wp2_with fail
            refine (tcheck_any gs _ w31 HG31.out HGN.out).mono ?_
            rintro e w32 ⟨rfl, hE32⟩
            rw [HDS.out.2.1]
            have HE32 := Lib.hid (HE31.out.trans' hE32); have HB32 := Lib.hid (HB31.out.ext0 hE32)
            clear hE32
            dsimp only
            go_wp2_with fail
            refine (same1_any l l _ _ w32 HB32.out (HB.out.ext0 HE32.out)).mono ?_
            rintro e w33 ⟨rfl, rfl⟩
            rw [decide_eq_true rfl]
            dsimp only
            go_wp2_with fail
            go_ret
            exact ⟨rfl, HE32.out⟩
          · have hde := decE_none hgd
            have HE30 := Lib.hid (HE20.out.trans' hE30)
            generalize decE l = z at *
            have hzb : (z == 0) = false := by simpa using hde
            clear hE30 hgd hde
            dsimp only
            go_wp2_with fail
            go_ret
            exact ⟨rfl, HE30.out⟩
        · have hsp := spoiled 84 84 (numB xs.length 4 ++ nodesB xs) q t ht0 (by rw [show sealB 84 (numB xs.length 4 ++ nodesB xs) = X from HXX.out, ← HXN.out]; exact HQ2.out)
          rw [show sealB 84 (numB xs.length 4 ++ nodesB xs) = X from HXX.out] at hsp
          have hdn : decT (turnS q t 32 X) = none := by unfold decT; rw [hsp]; rfl
          have hde : decE (turnS q t 32 X) = 36 := by unfold decE; rw [hsp]; rfl
          rcases hD20 with ⟨gs0, v20, h, -⟩ | ⟨-, rfl⟩
          case inl => rw [hdn] at h; cases h
          rw [hde]
          have htb : (w32 t == 0) = false := by
            rw [beq_eq_false_iff_ne]; intro h; exact ht0 (w32_inj (by rw [h, w32_def]; rfl))
          have htb2 : ¬ w32 t = 0 := by simpa using htb
          clear hsp hdn hde
          dsimp only
          go_wp2_with fail
          refine (tdecode_any l _ _ (HB.out.ext0 HE20.out) (by have := HL6.out; omega)).mono ?_
          rintro e w30 ⟨hE30, ⟨gs, gv, hgd, rfl, hgo, hgn⟩ | ⟨hgd, rfl⟩⟩
          · have hds := dec_some hgd
            obtain ⟨ga, gm, gc, rfl, -⟩ := ownseq_form hgo
            have HE30 := Lib.hid (HE20.out.trans' hE30); have HG := Lib.hid hgo.nodes; have HDS := Lib.hid hds
            have HGN := Lib.hid (show ∀ m ∈ gs, m.name.length ≤ 1000000000 from fun m hm => by have := hgn m hm; omega)
            clear hE30 hgo hgn hds hgd
            dsimp only
            go_wp2_with fail
            refine (tencode_any gs _ w30 HG.out HGN.out).mono ?_
            rintro e w31 ⟨hE31, ⟨-, x31, rfl, hx31⟩ | ⟨h, -⟩⟩
            case inr => exact absurd HDS.out.2.1 h
            rw [HDS.out.2.2] at hx31
            obtain ⟨a31, c31, rfl⟩ := own_form hx31
            have HE31 := Lib.hid (HE30.out.trans' hE31); have HG31 := Lib.hid (HG.out.ext0 hE31); have HB31 := Lib.hid hx31.bytes
            rw [← HNB.out] at HB31 ⊢
            clear hE31 hx31
            dsimp only
            go_wp2_with fail
            refine (tcheck_any gs _ w31 HG31.out HGN.out).mono ?_
            rintro e w32 ⟨rfl, hE32⟩
            rw [HDS.out.2.1]
            have HE32 := Lib.hid (HE31.out.trans' hE32); have HB32 := Lib.hid (HB31.out.ext0 hE32)
            clear hE32
            dsimp only
            go_wp2_with fail
            refine (same1_any l l _ _ w32 HB32.out (HB.out.ext0 HE32.out)).mono ?_
            rintro e w33 ⟨rfl, rfl⟩
            rw [decide_eq_true rfl]
            dsimp only
            go_wp2_with fail
            go_ret
            exact ⟨rfl, HE32.out⟩
          · have hde := decE_none hgd
            have HE30 := Lib.hid (HE20.out.trans' hE30)
            generalize decE l = z at *
            have hzb : (z == 0) = false := by simpa using hde
            clear hE30 hgd hde
            dsimp only
            go_wp2_with fail
            go_ret
            exact ⟨rfl, HE30.out⟩
end Go.Proofs.YtefabpgfhghpgaaDoor
end

section
/-
  PROVED HERE: 'Rows.TreeBackCardSaid' (the tied card): of every input the law 'coldstorelaw10.TreeBack' answers true, and each argument reads behind the call as it read before. No condition but the form's own.
-/
namespace Go.Proofs.YtefabpgfhghpgaaDoor.treeBack
open Go.ChangeShapes Go.WideShapes Go.ChangeAt Go.RowKit Go.My
open Go.ChangeMaps (open_string shut_string)
set_option linter.unusedVariables false

theorem own : ownKnob Tryd.prog.godebug = none := by kernel_rfl
theorem laidOut : laidOutB Tryd.prog = true := by kernel_rfl

/-- what the row lists -/
noncomputable def laid : List (String × DataW Unit) := Rows.treeBackRow.laid
set_option maxRecDepth 100000 in
theorem lifted (os : Os) (started : os.Started) (H : Type) (enc : TypeId × Value → H) :
    ReturnsInHanded {} Tryd.checked os 3 .any (fun w args => (Rows.treeBackSpec.pre enc Tryd.prog Tryd.f3 [] false w args ∧ laidMetH Tryd.prog laid w) ∧ sizedMet enc Tryd.prog Tryd.f3 (OpenSpec.ofChange Rows.treeBackSpec) false w args)
      (Rows.treeBackSpec.post enc Tryd.prog Tryd.f3 false true false false) := by
  refine returnsInHanded_of_change_and (C := Tryd.checked) (X := fun w _ => laidMetH Tryd.prog laid w) (fun _ _ _ hh h => h.of_heap hh) own started (by kernel_rfl) Tryd.func3
    (ChangeSpec.witness_shaped (enc := enc) (C := Tryd.checked) (os := os) (X := fun w _ => laidMetH Tryd.prog laid w) false (World.laidAll Tryd.prog os laid) #[.slice none 0 0, .slice none 0 0, .slice none 0 0, .int .i64 0, .int .u32 0] 8 (World.laidAll_os _ _ _)
      (World.shaped_of_ZipB (by kernel_rfl) (by kernel_rfl)) (by kernel_rfl) (by kernel_rfl) (by kernel_rfl)
      (by rw [MakeChecks.laidMetH_plain _ _ _ (by kernel_rfl)]; exact laidMet_laidAll _ (by kernel_rfl) (by kernel_rfl))) ?_
  intro W base args ds gs before hval0 hW _ hSZ hL _
  have hval : ∀ (j : Nat) t v, Tryd.f3.params[j]? = some t → args[j]? = some v → Value.okWide Tryd.prog W .any base t v := hval0
  have hW' := hW
  obtain ⟨p, q, hA0, hV, rfl, hfz, hnd⟩ := hW
  have hA : DataW.TrodAll enc Tryd.prog W 0 (fun _ => true) true Tryd.f3.params.toList args.toList ds p := hA0
  rw [Tryd.params3] at hA hval
  obtain ⟨v0, vs0, d0, ds0, p0, q0, hargs, rfl, rfl, h0, r0⟩ := trodAll_cons hA
  obtain ⟨v1, vs1, d1, ds1, p1, q1, rfl, rfl, rfl, h1, r1⟩ := trodAll_cons r0
  obtain ⟨v2, vs2, d2, ds2, p2, q2, rfl, rfl, rfl, h2, r2⟩ := trodAll_cons r1
  obtain ⟨v3, vs3, d3, ds3, p3, q3, rfl, rfl, rfl, h3, r3⟩ := trodAll_cons r2
  obtain ⟨v4, vs4, d4, ds4, p4, q4, rfl, rfl, rfl, h4, r4⟩ := trodAll_cons r3
  obtain ⟨rfl, rfl, rfl⟩ := trodAll_nil r4
  obtain rfl : args = #[v0, v1, v2, v3, v4] := by cases args; simp_all
  obtain ⟨rfl, rfl⟩ := trodVars_none hV
  have k0 := h0
  have lt0 : ∀ x ∈ p0, x.block < W.heap.size := by obtain ⟨m, hm⟩ := k0; exact DataW.trod_lt m _ _ _ hm
  have k1 := h1
  have lt1 : ∀ x ∈ p1, x.block < W.heap.size := by obtain ⟨m, hm⟩ := k1; exact DataW.trod_lt m _ _ _ hm
  have k2 := h2
  have lt2 : ∀ x ∈ p2, x.block < W.heap.size := by obtain ⟨m, hm⟩ := k2; exact DataW.trod_lt m _ _ _ hm
  have k3 := h3
  have lt3 : ∀ x ∈ p3, x.block < W.heap.size := by obtain ⟨m, hm⟩ := k3; exact DataW.trod_lt m _ _ _ hm
  have k4 := h4
  have lt4 : ∀ x ∈ p4, x.block < W.heap.size := by obtain ⟨m, hm⟩ := k4; exact DataW.trod_lt m _ _ _ hm
  obtain ⟨a0, ot0⟩ := op_nodes (hval 0 22 v0 rfl rfl) h0
  obtain ⟨a1, ot1⟩ := op_nodes (hval 1 22 v1 rfl rfl) h1
  obtain ⟨a2, by2⟩ := op_bytes Tryd.underlying23 Tryd.underlying5 (by kernel_rfl) (hval 2 23 v2 rfl rfl) h2
  obtain ⟨a3, rfl, lo3, hi3⟩ := op_i64 Tryd.underlying3 (hval 3 3 v3 rfl rfl) h3
  obtain ⟨a4, rfl⟩ := op_u32 Tryd.underlying24 (hval 4 24 v4 rfl rfl) h4
  clear hA0 hval0
  refine (treeBack_fr a0 _ a1 _ a2 _ a3 a4 W ot0 ot1 by2 lo3 hi3).mono fun e W' ⟨he, ext⟩ => ?_
  subst he
  have bel := ext.below
  exact ⟨_, rfl, _, _, _, [], _, [], hW', trodAll_mk1 (shut_bool Tryd.underlying4 _), (trodAll_cons_mk (Below.trod laidOut (by kernel_rfl) (of_decide_eq_true (by kernel_rfl)) k0 bel lt0) (trodAll_cons_mk (Below.trod laidOut (by kernel_rfl) (of_decide_eq_true (by kernel_rfl)) k1 bel lt1) (trodAll_cons_mk (Below.trod laidOut (by kernel_rfl) (of_decide_eq_true (by kernel_rfl)) k2 bel lt2) (trodAll_cons_mk (Below.trod laidOut (by kernel_rfl) (of_decide_eq_true (by kernel_rfl)) k3 bel lt3) (trodAll_cons_mk (Below.trod laidOut (by kernel_rfl) (of_decide_eq_true (by kernel_rfl)) k4 bel lt4) trodAll_mk0))))), rfl, bel.frame _, fun h => by cases h⟩

theorem over : Rows.treeBackRow.holds Tryd.pinned (OpenSpec.ofChange Rows.treeBackSpec) :=
  OpenClaim.holds_of_wide 3 Tryd.f3 rfl rfl rfl rfl rfl rfl rfl ⟨rfl, rfl, rfl, rfl, rfl⟩ rfl rfl rfl rfl rfl (by kernel_rfl) Tryd.func3 (by kernel_rfl)
    (of_decide_eq_true (by kernel_rfl)) (by unfold Func.isWrapper; first | (rw [if_pos (by decide +kernel)]; kernel_rfl) | (rw [if_neg (by decide +kernel)]; exact ⟨rfl, rfl⟩))
    (fun os started H enc _ => lifted os started H enc)

/-- THE STATEMENT: the card over the row, tied to the program's text -/
theorem proved : Rows.TreeBackCardSaid :=
  Claim7.holds_tied_plain_at .later [] [.data, .pinned] true (true, "971da6edd60431238cee40c381ac6223c40d50f4d6aedc22df960b64bcf27c18") true over (fun _ h => by cases h) (by kernel_rfl) (fun _ h => by cases h) treeBack_row_tie rfl ⟨rfl, rfl⟩ (by kernel_rfl) rfl
    (fun f fn hf hfn => by
      obtain rfl : f = 3 := Option.some.inj ((show Tryd.prog.funcNamed "coldstore/coldstorelaw10.TreeBack" = some 3 by kernel_rfl).symm.trans hf) |>.symm
      obtain rfl : fn = Tryd.f3 := (Option.some.inj (Tryd.func3.symm.trans hfn)).symm
      exact ⟨by kernel_rfl, fun j t ht => by
        rw [Tryd.params3] at ht
        have hm : t ∈ [22, 22, 23, 3, 24] := by simpa using Array.mem_of_getElem? ht
        have hall : ([22, 22, 23, 3, 24].all fun u => !Tryd.prog.wantsStandIn u) = true := by kernel_rfl
        exact (show Tryd.prog.wantsStandIn t = false by simpa using List.all_eq_true.1 hall t hm)⟩)
    (by kernel_rfl)
#print axioms proved
end Go.Proofs.YtefabpgfhghpgaaDoor.treeBack
end
