/-
  PROVED HERE: 'Rows.TreeFindsCardSaid' (the tied card): of every input the law 'coldstorelaw10.TreeFinds' answers true, and each argument reads behind the call as it read before. No condition but the form's own; the listed tables of the library are tied to the program's text.
-/
import Derived.Test.YtefabpgfhghpgaaDoorTZF
import Derived.SizedLaws
import Derived.Test.YtefabpgfhghpgaaDoorRows
import Derived.Test.YtefabpgfhghpgaaDoorCards
import Derived.Test.YtefabpgfhghpgaaDoorTie
import Derived.Lay
import Derived.LaidOnce
import Derived.SevenTiedAt
set_option linter.unusedVariables false
set_option linter.unusedSimpArgs false

section
/- Opening a law's string argument: a list of bytes, and what it is as a datum. -/
namespace Go.Proofs.YtefabpgfhghpgaaDoor
open Go.ChangeShapes Go.WideShapes Go.ChangeAt Go.RowKit Go.My

theorem op_strZ {H : Type} {enc : TypeId × Value → H} {P : Program} {W : World} {base : Nat} {t : TypeId} {v : Value} {d : DataW H} {p : List MemPlace} (ht : P.underlying t = some .string) (hv : Value.okWide P W .any base t v)
    (h : DataW.Trod enc P W 0 (fun _ => true) true t v d p) : ∃ l : List UInt8, v = .string (strB l) ∧ .lit (.string l) = d := by
  obtain ⟨s, rfl, rfl, rfl, hs⟩ := Go.ChangeMaps.open_string ht hv h
  exact ⟨s.data.toList, by rw [← strB_of], rfl⟩
end Go.Proofs.YtefabpgfhghpgaaDoor
end

section
/- The walk of TreeBlobs. -/
namespace Go.Proofs.YtefabpgfhghpgaaDoor
open Go.RowKit Go.My

theorem Src.ext0 {α : Type} {w w' : World} {size : Nat} {E : α → List Value → Prop} {ys : List α} {v : Value} {css : List (List Value)} (h : Src w size E ys v css) (x : Ext No w w') : Src w' size E ys v css := by
  obtain ⟨⟨ad, c, h1, h2⟩, h3, h4⟩ := h
  exact ⟨⟨ad, c, h1, fun hp => by obtain ⟨b, o, h5, h6⟩ := h2 hp; exact ⟨b, o, h5, rangeAt.ext0 h6 x⟩⟩, h3, h4⟩
theorem ownseq_form {α : Type} {w : World} {base size : Nat} {T : TypeId} {E : World → α → List Value → Prop} {xs : List α} {v : Value} (h : OwnSeq w base T size E xs v) : ∃ a n c, v = .slice a n c ∧ n = xs.length := by
  obtain ⟨a, c, rfl⟩ := OwnSeq.len h
  exact ⟨a, _, c, rfl, rfl⟩
theorem ids_form {w : World} {ids : List (List UInt8)} {v : Value} (h : IsIDs w ids v) : ∃ a n c, v = .slice a n c ∧ n = ids.length := by
  obtain ⟨a, c, rfl, -⟩ := h
  exact ⟨a, _, c, rfl, rfl⟩
theorem nodes_form {w : World} {ns : List NodeL} {v : Value} (h : IsNodes w ns v) : ∃ a n c, v = .slice a n c ∧ n = ns.length := by
  obtain ⟨a, c, rfl, -⟩ := h
  exact ⟨a, _, c, rfl, rfl⟩
theorem seq_made (w : World) {α : Type} (T : TypeId) (size : Nat) (E : World → α → List Value → Prop) : OwnSeq (w.alloc (.cells #[] T)) w.heap.size T size E [] (.slice (some ⟨w.heap.size, 0, none⟩) 0 0) :=
  ⟨[], ⟨by simp, .inr ⟨_, 0, #[], rfl, Nat.le_refl _, Blk.new w #[] T, Nat.le_refl _, by decide, by simp, by simp⟩⟩, fun i x hx => by simp at hx⟩
theorem few_ok {ns : List NodeL} (h : fewB ns = true) : ns.length < 600 ∧ ∀ n ∈ ns, n.parts.length ≤ 4200 ∧ n.name.length ≤ 200 := by
  unfold fewB at h
  rw [Bool.and_eq_true] at h
  obtain ⟨h1, h2⟩ := h
  refine ⟨?_, fun n hn => ?_⟩
  · rw [Bool.or_eq_true] at h2
    rcases h2 with h2 | h2
    · have := of_decide_eq_true h2; omega
    · rw [Bool.and_eq_true] at h2; exact of_decide_eq_true h2.2
  · have := List.all_eq_true.1 h1 n hn
    unfold okN at this
    simp only [Bool.and_eq_true, Bool.or_eq_true, decide_eq_true_eq] at this
    omega
theorem blobs_len : ∀ ns : List NodeL, (∀ n ∈ ns, n.parts.length ≤ 4200) → (blobsL ns).length ≤ 4200 * ns.length
  | [], _ => by simp [blobsL]
  | n :: ns, h => by
    have h1 := h n (List.mem_cons_self ..)
    have h2 := blobs_len ns (fun m hm => h m (List.mem_cons_of_mem _ hm))
    have h3 : (blobsN n).length ≤ 4200 := by
      unfold blobsN; split
      · exact (by decide : 1 ≤ 4200)
      · exact h1
    have e : blobsL (n :: ns) = blobsN n ++ blobsL ns := by simp [blobsL]
    rw [e, List.length_append, List.length_cons]; omega
theorem few_blobs {ns : List NodeL} (h : fewB ns = true) : (blobsL ns).length ≤ 2520000 := by
  obtain ⟨h1, h2⟩ := few_ok h
  have := blobs_len ns (fun n hn => (h2 n hn).1)
  omega
theorem blobs_append (xs ys : List NodeL) : blobsL (xs ++ ys) = blobsL xs ++ blobsL ys := by simp [blobsL]
theorem take_all {α : Type} (l : List α) (h : l.length ≤ 5040000) : l.take (1073741824 : Int).toNat = l := List.take_of_length_le (by show l.length ≤ 1073741824; omega)
theorem OwnIDs.ext0 {w w' : World} {B : Nat} {ids : List (List UInt8)} {v : Value} (h : OwnIDs w B ids v) (x : Ext No w w') : OwnIDs w' B ids v := h.ext x (fun _ _ s => s)

set_option maxRecDepth 100000 in
set_option maxHeartbeats 8000000 in
theorem treeBlobs_fr (xs : List NodeL) (v0 : Value) (ys : List NodeL) (v1 : Value) (w : World) (hx : IsNodes w xs v0 ∧ ∀ n ∈ xs, n.name.length ≤ 9223372036854775807) (hy : IsNodes w ys v1 ∧ ∀ n ∈ ys, n.name.length ≤ 9223372036854775807) :
    Calls Tryd.prog 5 #[v0, v1] w fun e w' => e = .returned (.bool true) ∧ Ext No w w' := by
  obtain ⟨a, n, c, rfl, hn⟩ := nodes_form hx.1
  obtain ⟨b, m, d, rfl, hm⟩ := nodes_form hy.1
  have HX := Lib.hid hx; have HY := Lib.hid hy; have HN := Lib.hid hn; have HM := Lib.hid hm
  clear hx hy hn hm
  go_enter Tryd.func5, Tryd.ntmps5
  go_wp2_with fail
  refine (alive_any w).mono ?_
  rintro e w1 ⟨rfl, hE1⟩
  have HE1 := Lib.hid hE1
  clear hE1
  dsimp only
  go_wp2_with fail
  refine (few_any xs _ w1 (HX.out.1.ext0 HE1.out) HX.out.2).mono ?_
  rintro e w2 ⟨rfl, hE2⟩
  have HE2 := Lib.hid (HE1.out.trans' hE2)
  clear hE2 HE1
  dsimp only
  cases hfx : fewB xs
  · go_wp2_with fail
    go_ret
    exact ⟨rfl, HE2.out⟩
  have HFX := Lib.hid hfx
  have hn6 : n < 600 := by rw [HN.out]; exact (few_ok hfx).1
  clear hfx
  go_wp2_with fail
  refine (few_any ys _ w2 (HY.out.1.ext0 HE2.out) HY.out.2).mono ?_
  rintro e w3 ⟨rfl, hE3⟩
  have HE3 := Lib.hid (HE2.out.trans' hE3)
  clear hE3 HE2
  dsimp only
  cases hfy : fewB ys
  · go_wp2_with fail
    go_ret
    exact ⟨rfl, HE3.out⟩
  have HFY := Lib.hid hfy
  clear hfy
  have HO0 := Lib.hid (show OwnIDs (w3.alloc (.cells #[] 40)) w.heap.size [] (.slice (some ⟨w3.heap.size, 0, none⟩) 0 0) from OwnIDs.le (B := w3.heap.size) (seq_made w3 40 32 IdE) HE3.out.size)
  have HEA := Lib.hid (HE3.out.alloc (.cells #[] 40))
  go_wp2_with fail
  go_loopw [5, 24] (fun each i wr => ∃ k : Nat, i = .int .i64 k ∧ k ≤ n ∧ Ext No w wr ∧ OwnIDs wr w.heap.size (blobsL (xs.take k)) each) (fun _ i _ => n - (intOf i).toNat)
  case atStart => exact ⟨0, rfl, Nat.zero_le _, HEA.out, HO0.out⟩
  case round =>
    obtain ⟨k, rfl, hk, hx, hown⟩ := hrel
    obtain ⟨oa, om, oc, rfl, hom⟩ := ownseq_form hown
    have HXR := Lib.hid hx; have HOW := Lib.hid hown; have HOM := Lib.hid hom
    clear hx hown hom HO0 HEA HE3
    by_cases hlt : k < n
    · have hltI : (k : Int) < n := by omega
      have hlt' : k < xs.length := by rw [← HN.out]; exact hlt
      obtain ⟨a0, c0, ha0, -, -, hat⟩ := id HX.out.1
      obtain ⟨b, off, cs, ha1, hra, hnd⟩ := hat.at_ k hlt'
      have hcount := blobs_count xs k hlt'
      have hstep := blobs_step xs k hlt'
      have hpre := blobs_pre xs (k + 1)
      have htot := few_blobs HFX.out
      have hle : (blobsL (xs.take (k + 1))).length ≤ 2520000 := by
        obtain ⟨r, hr⟩ := hpre
        rw [hr, List.length_append] at htot; omega
      generalize xs.getD k node0 = nd at *
      have haa : a = some ⟨b, off, none⟩ := by cases ha0; exact ha1
      subst haa
      clear ha0 ha1 hat hpre htot
      have hl36 := hnd.length
      have h1 := hnd.one
      have hr := rangeAt.ext0 hra HXR.out
      obtain ⟨⟨pv, hcs, ⟨pa, pc, rfl, hp1, hp2, hids⟩⟩, hs32, -, -⟩ := hnd
      have hidv : IsIDs w nd.parts (.slice pa nd.parts.length pc) := ⟨pa, pc, rfl, hp1, hp2, hids⟩
      obtain ⟨np, hnp⟩ : ∃ m, m = nd.parts.length := ⟨_, rfl⟩
      rw [← hnp] at hidv hcs hp1
      have c1 : cs[1]? = some (.bool nd.dir) := by rw [hcs]; rfl
      have c3 : cs[3]? = some (.slice pa np pc) := by rw [hcs]; rfl
      have HL42 := Lib.hid (run_loadAt_mid (P := Tryd.prog) wr b (off + k * 36) 42 cs _ hr Tryd.underlying42 rfl (by rw [hl36]; exact info42))
      have HS42 := Lib.hid (store_node wr cs hl36 h1)
      have hbk := Blk.new wr cs.toArray 42
      have d1 : (wr.alloc (.cells cs.toArray 42)).cell? ⟨wr.heap.size, 1, none⟩ = some (.bool nd.dir) := by rw [hbk.cell]; simpa using c1
      have d3 : (wr.alloc (.cells cs.toArray 42)).cell? ⟨wr.heap.size, 3, none⟩ = some (.slice pa np pc) := by rw [hbk.cell]; simpa using c3
      have hra4 : (wr.alloc (.cells cs.toArray 42)).rangeAt wr.heap.size 4 (byts nd.sub) := by
        have h := rangeAt.blk hbk 4
        rw [hcs] at h ⊢
        exact h
      have HL40 := Lib.hid (ids_load hra4 hs32 _ (Ext.refl _ _))
      have HB40 := Lib.hid (build_id nd.sub hs32)
      have hXA : Ext No w (wr.alloc (.cells cs.toArray 42)) := HXR.out.alloc (.cells cs.toArray 42)
      have HXA := Lib.hid hXA
      have hbn : (nd.dir = true ∧ blobsN nd = [nd.sub]) ∨ (nd.dir = false ∧ blobsN nd = nd.parts) := by
        unfold blobsN
        cases nd.dir
        · exact .inr ⟨rfl, rfl⟩
        · exact .inl ⟨rfl, rfl⟩
      have HST := Lib.hid hstep; have HIV := Lib.hid (And.intro hidv hs32)
      have HCNT := Lib.hid (And.intro hcount hle)
      clear hra hcs c1 c3 hbk hlt' h1 hl36 hr hra4 hids hXA hstep hidv hs32 hnp hcount hle
      rcases hbn with ⟨hdir, hbn⟩ | ⟨hdir, hbn⟩
      · rw [hdir] at d1
        obtain ⟨w4, hw4⟩ : ∃ w4, (wr.alloc (.cells cs.toArray 42)).alloc (.cells (byts nd.sub).toArray 40) = w4 := ⟨_, rfl⟩
        have hx4 : Ext No wr w4 := by rw [← hw4]; exact ((Ext.refl No wr).alloc _).alloc _
        have hsrc : Src w4 32 IdC [nd.sub] (.slice (some ⟨wr.heap.size + 1, 0, none⟩) 1 1) ([nd.sub].map byts) := by
          have h := Blk.new (wr.alloc (.cells cs.toArray 42)) (byts nd.sub).toArray 40
          rw [World.size_alloc, hw4] at h
          exact src_ids (isIDs_one HIV.out.2 h)
        have hbi := HB40.out (wr.alloc (.cells cs.toArray 42))
        rw [World.size_alloc, hw4] at hbi
        have HSRC := Lib.hid hsrc; have HBI := Lib.hid hbi
        have HO4 := Lib.hid (show OwnSeq w4 w.heap.size 40 32 (fun _ => IdC) (blobsL (xs.take k)) (.slice oa om oc) from HOW.out.ext0 hx4)
        have HX4 := Lib.hid (HXR.out.trans' hx4)
        have HNM := Lib.hid (show (blobsL (xs.take k)).length + [nd.sub].length ≤ 9223372036854775807 ∧ ((blobsL (xs.take k)).length + [nd.sub].length) * 32 ≤ 140737488355328 by
          obtain ⟨h1, h2⟩ := HCNT.out
          rw [hbn] at h1; rw [← h1]; omega)
        have HS1 := Lib.hid (show blobsL (xs.take (k + 1)) = blobsL (xs.take k) ++ [nd.sub] by rw [HST.out, hbn])
        clear hw4 hx4 hsrc hbi hbn HST HB40 HCNT HOW
        go_wp2_with (first
          | ((with_reducible refine wpList_load_at ?_ 42 _ rfl ?_ HL42.out ?_); rfl; rfl)
          | ((with_reducible refine wpList_store_at ?_ 42 _ _ rfl ?_ ?_ (HS42.out _ ?_) ?_); rfl; rfl; rfl; rfl)
          | ((with_reducible refine wpList_load_at ?_ 40 _ rfl ?_ HL40.out ?_); rfl; rfl)
          | ((with_reducible refine wpList_buildS1 ?_ 38 1 0 _ rfl ?_ HBI.out ?_); rfl; rfl)
          | ((with_reducible refine wpList_appG _ ?_ _ _ 38 rfl w.heap.size 40 _ _ id_info Tryd.underlying38 rfl (by decide) _ _ ?_ ?_ HO4.out HSRC.out HNM.out.1 HNM.out.2 HX4.out.size ?_); rfl; rfl; rfl; intro v7 w7 hown7 hg7 hat7; obtain ⟨a7, m7, c7, rfl, -⟩ := ownseq_form hown7))
        go_roundw
        case rel =>
          refine ⟨k + 1, by go_num, by omega, HX4.out.grown hg7 (fun j hj h => absurd h (by have := (OwnSeq.lt HO4.out j hj).1; omega)), ?_⟩
          rw [HS1.out]
          exact hown7
        case measure => simp [intOf]; omega
      · rw [hdir] at d1
        have HSRC := Lib.hid (src_ids (HIV.out.1.ext0 HXA.out))
        have HO4 := Lib.hid (show OwnSeq (wr.alloc (.cells cs.toArray 42)) w.heap.size 40 32 (fun _ => IdC) (blobsL (xs.take k)) (.slice oa om oc) from HOW.out.ext0 ((Ext.refl No wr).alloc _))
        have HNM := Lib.hid (show (blobsL (xs.take k)).length + nd.parts.length ≤ 9223372036854775807 ∧ ((blobsL (xs.take k)).length + nd.parts.length) * 32 ≤ 140737488355328 by
          obtain ⟨h1, h2⟩ := HCNT.out
          rw [hbn] at h1; rw [← h1]; omega)
        have HS1 := Lib.hid (show blobsL (xs.take (k + 1)) = blobsL (xs.take k) ++ nd.parts by rw [HST.out, hbn])
        clear hbn HST HB40 HCNT HOW
        go_wp2_with (first
          | ((with_reducible refine wpList_load_at ?_ 42 _ rfl ?_ HL42.out ?_); rfl; rfl)
          | ((with_reducible refine wpList_store_at ?_ 42 _ _ rfl ?_ ?_ (HS42.out _ ?_) ?_); rfl; rfl; rfl; rfl)
          | ((with_reducible refine wpList_appG _ ?_ _ _ 38 rfl w.heap.size 40 _ _ id_info Tryd.underlying38 rfl (by decide) _ _ ?_ ?_ HO4.out HSRC.out HNM.out.1 HNM.out.2 HXA.out.size ?_); rfl; rfl; rfl; intro v7 w7 hown7 hg7 hat7; obtain ⟨a7, m7, c7, rfl, -⟩ := ownseq_form hown7))
        go_roundw
        case rel =>
          refine ⟨k + 1, by go_num, by omega, HXA.out.grown hg7 (fun j hj h => absurd h (by have := (OwnSeq.lt HO4.out j hj).1; omega)), ?_⟩
          rw [HS1.out]
          exact hown7
        case measure => simp [intOf]; omega
    · have hkn : n = k := by omega
      subst hkn
      have ho := HOW.out
      rw [show xs.take n = xs by rw [HN.out]; exact List.take_length] at ho
      have HOF := Lib.hid ho
      clear ho HOW hlt
      go_wp2_with fail
      refine (blobs_any xs _ 1073741824 wr (HX.out.1.ext0 HXR.out) (by have := few_blobs HFX.out; omega)).mono ?_
      rintro e w8 ⟨v8, rfl, hv8, hE8⟩
      rw [take_all _ (by have := few_blobs HFX.out; omega)] at hv8
      obtain ⟨a8, m8, c8, rfl, -⟩ := ownseq_form hv8
      have HE8 := Lib.hid (HXR.out.trans' hE8); have HEACH := Lib.hid ((OwnIDs.ids HOF.out).ext0 hE8); have HV8 := Lib.hid hv8.ids
      clear hv8 hE8 HOF HXR
      dsimp only
      go_wp2_with fail
      refine (blobs_any ys _ 1073741824 w8 (HY.out.1.ext0 HE8.out) (by have := few_blobs HFY.out; omega)).mono ?_
      rintro e w9 ⟨v9, rfl, hv9, hE9⟩
      rw [take_all _ (by have := few_blobs HFY.out; omega)] at hv9
      obtain ⟨a9, m9, c9, rfl, -⟩ := ownseq_form hv9
      have HE9 := Lib.hid (HE8.out.trans' hE9); have HEACH9 := Lib.hid (HEACH.out.ext0 hE9); have HV89 := Lib.hid (HV8.out.ext0 hE9); have HV9 := Lib.hid hv9.ids
      clear hv9 hE9 HE8 HEACH HV8
      obtain ⟨css1, hc1⟩ := src_nodes HX.out.1
      obtain ⟨css2, hc2⟩ := src_nodes HY.out.1
      have hEB : Ext No w (w9.alloc (.cells #[] 42)) := HE9.out.alloc _
      have HOB := Lib.hid (show OwnSeq (w9.alloc (.cells #[] 42)) w9.heap.size 42 36 (fun _ => IsNode w) [] (.slice (some ⟨w9.heap.size, 0, none⟩) 0 0) from seq_made w9 42 36 (fun _ => IsNode w))
      have HSB := Lib.hid (hc1.ext0 hEB); have HC2 := Lib.hid hc2
      have HXB := Lib.hid ((Ext.refl No w9).alloc (.cells #[] 42))
      have HNL := Lib.hid (show xs.length < 600 ∧ ys.length < 600 from ⟨(few_ok HFX.out).1, (few_ok HFY.out).1⟩)
      have HN1 := Lib.hid (show ([] : List NodeL).length + xs.length ≤ 9223372036854775807 ∧ (([] : List NodeL).length + xs.length) * 88 ≤ 140737488355328 by have := HNL.out.1; rw [List.length_nil]; omega)
      have HN2 := Lib.hid (show ([] ++ xs).length + ys.length ≤ 9223372036854775807 ∧ (([] ++ xs).length + ys.length) * 88 ≤ 140737488355328 by have := HNL.out; rw [List.nil_append]; omega)
      clear hc1 hc2 hEB
      dsimp only
      go_wp2_with (first
          | ((with_reducible refine wpList_appG _ ?_ _ _ 22 rfl w9.heap.size 42 _ _ node_info Tryd.underlying22 rfl (by decide) _ _ ?_ ?_ HOB.out HSB.out HN1.out.1 HN1.out.2 HXB.out.size ?_); rfl; rfl; rfl; intro v10 w10 hown10 hg10 hat10; obtain ⟨a10, m10, c10, rfl, -⟩ := ownseq_form hown10; have HE10 := Lib.hid (HXB.out.grown hg10 (fun j hj h => absurd h (by have := (OwnSeq.lt HOB.out j hj).1; omega))); have HS10 := Lib.hid (HC2.out.ext0 (HE9.out.trans' HE10.out)); have HO10 := Lib.hid hown10; clear hown10 hg10 hat10)
          | ((with_reducible refine wpList_appG _ ?_ _ _ 22 rfl w9.heap.size 42 _ _ node_info Tryd.underlying22 rfl (by decide) _ _ ?_ ?_ HO10.out HS10.out HN2.out.1 HN2.out.2 HE10.out.size ?_); rfl; rfl; rfl; intro v11 w11 hown11 hg11 hat11; obtain ⟨a11, m11, c11, rfl, -⟩ := ownseq_form hown11))
      have hE11 : Ext No w9 w11 := HE10.out.grown hg11 (fun j hj h => absurd h (by have := (OwnSeq.lt HO10.out j hj).1; omega))
      have hn11 := ownseq_nodes hown11 (HE9.out.trans' hE11)
      rw [List.nil_append] at hn11
      have HN11 := Lib.hid hn11
      have HE11 := Lib.hid (HE9.out.trans' hE11); have HEACH11 := Lib.hid (HEACH9.out.ext0 hE11); have HV811 := Lib.hid (HV89.out.ext0 hE11); have HV911 := Lib.hid (HV9.out.ext0 hE11)
      clear hown11 hg11 hat11 hE11 hn11 HE10 HS10 HO10 HOB HSB HC2 HXB HNL HN1 HN2 HE9 HEACH9 HV89 HV9
      have hbl : (blobsL (xs ++ ys)).length ≤ 5040000 := by
        have h1 := few_blobs HFX.out; have h2 := few_blobs HFY.out
        rw [blobs_append, List.length_append]; omega
      refine (blobs_any (xs ++ ys) _ 1073741824 w11 HN11.out (by omega)).mono ?_
      rintro e w12 ⟨v12, rfl, hv12, hE12⟩
      rw [take_all _ hbl, blobs_append] at hv12
      obtain ⟨a12, m12, c12, rfl, -⟩ := ownseq_form hv12
      have HE12 := Lib.hid (HE11.out.trans' hE12); have HEACH12 := Lib.hid (HEACH11.out.ext0 hE12); have HV812 := Lib.hid (HV811.out.ext0 hE12); have HV912 := Lib.hid (HV911.out.ext0 hE12); have HV12 := Lib.hid hv12.ids
      clear hv12 hE12 HE11 HEACH11 HV811 HV911 HN11 hbl
      dsimp only
      go_wp2_with fail
      refine (sameIDs_any _ _ _ _ w12 HV812.out HEACH12.out).mono ?_
      rintro e w13 ⟨rfl, hE13⟩
      rw [decide_eq_true rfl]
      have HE13 := Lib.hid (HE12.out.trans' hE13); have HV13 := Lib.hid (HV12.out.ext0 hE13)
      have hEB : Ext No w12 (w13.alloc (.cells #[] 40)) := hE13.alloc _
      have HOB := Lib.hid (show OwnSeq (w13.alloc (.cells #[] 40)) w13.heap.size 40 32 (fun _ => IdC) [] (.slice (some ⟨w13.heap.size, 0, none⟩) 0 0) from seq_made w13 40 32 (fun _ => IdC))
      have HSB := Lib.hid (src_ids (HV812.out.ext0 hEB)); have HC2 := Lib.hid (src_ids (HV912.out.ext0 hE13))
      have HXB := Lib.hid ((Ext.refl No w13).alloc (.cells #[] 40))
      have HNL := Lib.hid (show (blobsL xs).length ≤ 2520000 ∧ (blobsL ys).length ≤ 2520000 from ⟨few_blobs HFX.out, few_blobs HFY.out⟩)
      have HN1 := Lib.hid (show ([] : List (List UInt8)).length + (blobsL xs).length ≤ 9223372036854775807 ∧ (([] : List (List UInt8)).length + (blobsL xs).length) * 32 ≤ 140737488355328 by have := HNL.out.1; rw [List.length_nil]; omega)
      have HN2 := Lib.hid (show ([] ++ blobsL xs).length + (blobsL ys).length ≤ 9223372036854775807 ∧ (([] ++ blobsL xs).length + (blobsL ys).length) * 32 ≤ 140737488355328 by have := HNL.out; rw [List.nil_append]; omega)
      clear hE13 hEB HE12 HV12 HEACH12 HV812 HV912
      dsimp only
      go_wp2_with (first
          | ((with_reducible refine wpList_appG _ ?_ _ _ 38 rfl w13.heap.size 40 _ _ id_info Tryd.underlying38 rfl (by decide) _ _ ?_ ?_ HOB.out HSB.out HN1.out.1 HN1.out.2 HXB.out.size ?_); rfl; rfl; rfl; intro v14 w14 hown14 hg14 hat14; obtain ⟨a14, m14, c14, rfl, -⟩ := ownseq_form hown14; have HE14 := Lib.hid (HXB.out.grown hg14 (fun j hj h => absurd h (by have := (OwnSeq.lt HOB.out j hj).1; omega))); have HS14 := Lib.hid (HC2.out.ext0 HE14.out); have HO14 := Lib.hid hown14; clear hown14 hg14 hat14)
          | ((with_reducible refine wpList_appG _ ?_ _ _ 38 rfl w13.heap.size 40 _ _ id_info Tryd.underlying38 rfl (by decide) _ _ ?_ ?_ HO14.out HS14.out HN2.out.1 HN2.out.2 HE14.out.size ?_); rfl; rfl; rfl; intro v15 w15 hown15 hg15 hat15; obtain ⟨a15, m15, c15, rfl, -⟩ := ownseq_form hown15))
      have hE15 : Ext No w13 w15 := HE14.out.grown hg15 (fun j hj h => absurd h (by have := (OwnSeq.lt HO14.out j hj).1; omega))
      rw [List.nil_append] at hown15
      have hi15 : IsIDs w15 (blobsL xs ++ blobsL ys) (.slice a15 m15 c15) := OwnIDs.ids (show OwnIDs w15 w13.heap.size _ _ from hown15)
      refine (sameIDs_any _ _ _ _ w15 (HV13.out.ext0 hE15) hi15).mono ?_
      rintro e w16 ⟨rfl, hE16⟩
      rw [decide_eq_true rfl]
      have HE16 := Lib.hid ((HE13.out.trans' hE15).trans' hE16)
      clear hE15 hE16 hi15 hown15 hg15 hat15
      dsimp only
      go_wp2_with fail
      go_ret
      exact ⟨rfl, HE16.out⟩
end Go.Proofs.YtefabpgfhghpgaaDoor
end

section
/- The walk of TreeFinds. Printed by wip/mktfinds.py. -/
namespace Go.Proofs.YtefabpgfhghpgaaDoor
open Go.RowKit Go.My

theorem node_loadT {w : World} {b o : Nat} {cs : List Value} (h : w.rangeAt b o cs) (hl : cs.length = 36) : ∀ W, Ext No w W → (Instr.loadAt 42 (.pointer (some ⟨b, o, none⟩))).run Tryd.prog W = .ok (.agg cs.toArray) W := fun W hW =>
  run_loadAt_mid (P := Tryd.prog) W b o 42 cs _ (rangeAt.ext0 h hW) Tryd.underlying42 rfl (by rw [hl]; exact info42)
def FndV (l nm p : List UInt8) (cs cs2 : List Value) (b off n c k j p7 p8 : Nat) (t : Bool) : Nat → Value → World → Prop
  | 0, v, w => v = .bool true
  | 1, v, w => v = .bool false
  | 2, v, w => v = .bool false
  | 3, v, w => v = .agg cs2.toArray
  | 4, v, w => v = .agg cs.toArray
  | 5, v, w => v = .bool true
  | 6, v, w => v = .bool false
  | 7, v, w => v = .bool false
  | 8, v, w => v = .bool false
  | 9, v, w => v = .int .i64 (k : Int)
  | 10, v, w => v = .bool true
  | 11, v, w => v = .bool true
  | 12, v, w => v = .slice (some ⟨b, off, none⟩) n c
  | 13, v, w => v = .int .i64 (k : Int)
  | 14, v, w => v = .int .i64 (j : Int)
  | 15, v, w => v = .pointer (some ⟨b, off + j * 36, none⟩)
  | 16, v, w => v = .pointer (some ⟨b, off + j * 36, none⟩)
  | 17, v, w => v = .string (strB p)
  | 18, v, w => v = .pointer (some ⟨p7, 0, none⟩)
  | 19, v, w => v = .string (strB nm)
  | 20, v, w => v = .bool false
  | 21, v, w => v = .bool false
  | _, _, _ => True
theorem FndV_ext (l nm p : List UInt8) (cs cs2 : List Value) (b off n c k j p7 p8 : Nat) (t : Bool) : ∀ i v w w', FndV l nm p cs cs2 b off n c k j p7 p8 t i v w → Ext No w w' → FndV l nm p cs cs2 b off n c k j p7 p8 t i v w'
  | 0, _, _, _, h, _ => h
  | 1, _, _, _, h, _ => h
  | 2, _, _, _, h, _ => h
  | 3, _, _, _, h, _ => h
  | 4, _, _, _, h, _ => h
  | 5, _, _, _, h, _ => h
  | 6, _, _, _, h, _ => h
  | 7, _, _, _, h, _ => h
  | 8, _, _, _, h, _ => h
  | 9, _, _, _, h, _ => h
  | 10, _, _, _, h, _ => h
  | 11, _, _, _, h, _ => h
  | 12, _, _, _, h, _ => h
  | 13, _, _, _, h, _ => h
  | 14, _, _, _, h, _ => h
  | 15, _, _, _, h, _ => h
  | 16, _, _, _, h, _ => h
  | 17, _, _, _, h, _ => h
  | 18, _, _, _, h, _ => h
  | 19, _, _, _, h, _ => h
  | 20, _, _, _, h, _ => h
  | 21, _, _, _, h, _ => h
  | _ + 22, _, _, _, _, _ => trivial
def FndW (l nm p : List UInt8) (cs cs2 : List Value) (b off n c k j p7 p8 : Nat) (t : Bool) : Nat → Value → World → Prop
  | 0, v, w => v = .bool true
  | 1, v, w => v = .bool false
  | 2, v, w => v = .bool false
  | 3, v, w => v = .agg cs2.toArray
  | 4, v, w => v = .agg cs.toArray
  | 5, v, w => v = .bool true
  | 6, v, w => v = .bool false
  | 7, v, w => v = .bool false
  | 8, v, w => v = .bool false
  | 9, v, w => v = .int .i64 (k : Int)
  | 10, v, w => v = .bool false
  | 11, v, w => v = .bool false
  | 12, v, w => v = undef
  | 13, v, w => v = undef
  | 14, v, w => v = undef
  | 15, v, w => v = undef
  | 16, v, w => v = undef
  | 17, v, w => v = undef
  | 18, v, w => v = undef
  | 19, v, w => v = undef
  | 20, v, w => v = undef
  | 21, v, w => v = .bool false
  | _, _, _ => True
theorem FndW_ext (l nm p : List UInt8) (cs cs2 : List Value) (b off n c k j p7 p8 : Nat) (t : Bool) : ∀ i v w w', FndW l nm p cs cs2 b off n c k j p7 p8 t i v w → Ext No w w' → FndW l nm p cs cs2 b off n c k j p7 p8 t i v w'
  | 0, _, _, _, h, _ => h
  | 1, _, _, _, h, _ => h
  | 2, _, _, _, h, _ => h
  | 3, _, _, _, h, _ => h
  | 4, _, _, _, h, _ => h
  | 5, _, _, _, h, _ => h
  | 6, _, _, _, h, _ => h
  | 7, _, _, _, h, _ => h
  | 8, _, _, _, h, _ => h
  | 9, _, _, _, h, _ => h
  | 10, _, _, _, h, _ => h
  | 11, _, _, _, h, _ => h
  | 12, _, _, _, h, _ => h
  | 13, _, _, _, h, _ => h
  | 14, _, _, _, h, _ => h
  | 15, _, _, _, h, _ => h
  | 16, _, _, _, h, _ => h
  | 17, _, _, _, h, _ => h
  | 18, _, _, _, h, _ => h
  | 19, _, _, _, h, _ => h
  | 20, _, _, _, h, _ => h
  | 21, _, _, _, h, _ => h
  | _ + 22, _, _, _, _, _ => trivial
set_option maxRecDepth 100000 in
set_option maxHeartbeats 16000000 in
theorem treeFinds_fr (ns : List NodeL) (v0 : Value) (l : List UInt8) (w : World) (hx : IsNodes w ns v0 ∧ ∀ n ∈ ns, n.name.length ≤ 9223372036854775807) (hl : l.length ≤ 140737488351232) :
    Calls Tryd.prog 6 #[v0, .string (strB l)] w fun e w' => e = .returned (.bool true) ∧ Ext No w w' := by
  obtain ⟨a, n, c, rfl, hn⟩ := nodes_form hx.1
  have HX := Lib.hid hx; have HN := Lib.hid hn
  clear hx hn
  go_enter Tryd.func6, Tryd.ntmps6
  go_wp2_with fail
  refine (alive_any w).mono ?_
  rintro e w1 ⟨rfl, hE1⟩
  have HE1 := Lib.hid hE1
  clear hE1
  dsimp only
  go_wp2_with fail
  refine (few_any ns _ w1 (HX.out.1.ext0 HE1.out) HX.out.2).mono ?_
  rintro e w2 ⟨rfl, hE2⟩
  have HE2 := Lib.hid (HE1.out.trans' hE2)
  clear hE2 HE1
  dsimp only
  cases hfx : fewB ns
  · go_wp2_with fail
    go_ret
    exact ⟨rfl, HE2.out⟩
  have hn6 : n < 600 := by rw [HN.out]; exact (few_ok hfx).1
  have HNL := Lib.hid (show ∀ m ∈ ns, m.name.length ≤ 1000000000 from fun m hm => by have := ((few_ok hfx).2 m hm).2; omega)
  clear hfx
  go_wp2_with fail
  refine (tcheck_any ns _ w2 (HX.out.1.ext0 HE2.out) HNL.out).mono ?_
  rintro e w3 ⟨rfl, hE3⟩
  have HE3 := Lib.hid (HE2.out.trans' hE3)
  clear hE3 HE2
  dsimp only
  by_cases hok : nodesE ns = 0
  case neg =>
    have hokb : (nodesE ns == 0) = false := by simpa using hok
    go_wp2_with fail
    go_ret
    exact ⟨rfl, HE3.out⟩
  rw [hok]
  have HOK := Lib.hid hok
  clear hok
  go_wp2_with fail
  go_loopw [5, 26] (fun has i wr => ∃ k : Nat, i = .int .i64 k ∧ k ≤ n ∧ Ext No w wr ∧ has = .bool (hasN ns l k)) (fun _ i _ => n - (intOf i).toNat)
  case atStart => exact ⟨0, rfl, Nat.zero_le _, HE3.out, rfl⟩
  case round =>
    obtain ⟨k, rfl, hk, hxr, rfl⟩ := hrel
    have HXR := Lib.hid hxr
    clear hxr HE3
    by_cases hlt : k < n
    · have hltI : (k : Int) < n := by omega
      have hlt' : k < ns.length := by rw [← HN.out]; exact hlt
      obtain ⟨a0, c0, ha0, -, -, hat⟩ := id HX.out.1
      obtain ⟨b, off, cs, ha1, hra, hnd⟩ := hat.at_ k hlt'
      have hfs := find_self HOK.out k hlt'
      have hhs := hasN_step ns l k hlt'
      have haa : a = some ⟨b, off, none⟩ := by cases ha0; exact ha1
      subst haa
      have hprev : ∀ j, j + 1 = k → ∃ csp, w.rangeAt b (off + j * 36) csp ∧ IsNode w (ns.getD j node0) csp ∧ Op.bytesLess (ns.getD j node0).name (ns.getD k node0).name = true := by
        intro j hj
        obtain ⟨b2, off2, csp, ha2, hr2, hn2⟩ := hat.at_ j (by omega)
        cases ha0; cases ha2
        exact ⟨csp, hr2, hn2, names_order HOK.out j k (by omega) hlt'⟩
      clear ha0 ha1 hat
      have HFS := Lib.hid hfs; have HHS := Lib.hid hhs; have HPR := Lib.hid hprev
      clear hfs hhs hprev
      have hndk : ns.getD k node0 = ns.getD k node0 := rfl
      obtain ⟨nd, hnd0⟩ : ∃ nd, ns.getD k node0 = nd := ⟨_, rfl⟩
      rw [hnd0] at hnd HFS HHS HPR
      have HND0 := Lib.hid hnd0
      clear hndk hnd0
      have hl36 := hnd.length
      have h1 := hnd.one
      have hr := rangeAt.ext0 hra HXR.out
      obtain ⟨pv, hcs, -⟩ := hnd.cells
      have c0 : cs[0]? = some (.string (strB nd.name)) := by rw [hcs]; rfl
      have HL42 := Lib.hid (node_loadT hr hl36 _ (Ext.refl _ _))
      have HS42 := Lib.hid (store_node wr cs hl36 h1)
      have hbk := Blk.new wr cs.toArray 42
      have d0 : (wr.alloc (.cells cs.toArray 42)).cell? ⟨wr.heap.size, 0, none⟩ = some (.string (strB nd.name)) := by rw [hbk.cell]; simpa using c0
      have HC0 := Lib.hid c0; have HND := Lib.hid hnd; have HB7 := Lib.hid hbk; have HL36 := Lib.hid hl36
      have HXA := Lib.hid (HXR.out.alloc (.cells cs.toArray 42))
      clear hra hcs c0 hbk hlt' h1 hl36 hr hnd
      go_wp2_with (first
          | ((with_reducible refine wpList_load_at ?_ 42 _ rfl ?_ HL42.out ?_); rfl; rfl)
          | ((with_reducible refine wpList_store_at ?_ 42 _ _ rfl ?_ ?_ (HS42.out _ ?_) ?_); rfl; rfl; rfl; rfl))
      refine (tfind_any ns _ nd.name _ (HX.out.1.ext0 HXA.out)).mono ?_
      rintro e w5 ⟨hE5, cs2, ⟨i5, hf5, rfl, hn5⟩ | ⟨hf5, -⟩⟩
      case inr => rw [HFS.out] at hf5; cases hf5
      have hi5 : k = i5 := by rw [HFS.out] at hf5; exact Option.some.inj hf5
      subst hi5
      rw [HND0.out] at hn5
      have HS5 := Lib.hid (store_node w5 cs2 hn5.length hn5.one)
      have hx6 := (Ext.refl No w5).alloc (.cells cs2.toArray 42)
      obtain ⟨w6, hw6⟩ : ∃ w6, w5.alloc (.cells cs2.toArray 42) = w6 := ⟨_, rfl⟩
      have hb8 : Blk w6 w5.heap.size cs2.toArray 42 := by rw [← hw6]; exact Blk.new _ _ _
      rw [hw6] at hx6
      have hb7 : Blk w6 wr.heap.size cs.toArray 42 := (HB7.out.ext hE5 (fun s => s)).ext hx6 (fun s => s)
      have hX3 : Ext No w w6 := (HXA.out.trans' hE5).trans' hx6
      have HX3 := Lib.hid hX3
      have HN5 := Lib.hid hn5.length
      have HL8 := Lib.hid (node_loadT (rangeAt.blk hb8 0) HN5.out); have HL7 := Lib.hid (node_loadT (rangeAt.blk hb7 0) HL36.out)
      have HAL : Hid (∀ W, Ext No w6 W → Calls Tryd.prog 19 #[.agg cs2.toArray, .agg cs.toArray] W fun e w' => e = .returned (.bool true) ∧ Ext No W w') := Lib.hid fun W hW =>
        (alike_any nd nd cs2 cs W (((hn5.ext0 hE5).ext0 hx6).ext0 hW) ((HND.out.ext0 hX3).ext0 hW)).mono (by rintro e w' ⟨rfl, h⟩; rw [decide_eq_true rfl]; exact ⟨rfl, h⟩)
      have HNM : Hid (∀ W, Ext No w6 W → W.cell? ⟨wr.heap.size, 0, none⟩ = some (.string (strB nd.name))) := Lib.hid fun W hW => by
        rw [(hb7.ext hW (fun s => s)).cell]; simpa using HC0.out
      have HPV : Hid (∀ j, j + 1 = k → ∃ p, (∀ W, Ext No w6 W → W.cell? ⟨b, off + j * 36, none⟩ = some (.string (strB p))) ∧ Op.bytesLess p nd.name = true) := Lib.hid fun j hj => by
        obtain ⟨csp, h1, h2, h3⟩ := HPR.out j hj
        refine ⟨(ns.getD j node0).name, fun W hW => ?_, h3⟩
        obtain ⟨pv, hcs, -⟩ := h2.cells
        have := rangeAt.ext0 h1 (hX3.trans' hW) 0 (.string (strB (ns.getD j node0).name)) (by rw [hcs]; rfl)
        exact this
      clear hE5 hf5 hn5 hx6 hb7 hb8 hX3 HPR HB7 HC0 HL42 HS42 HXA HXR HND d0
      dsimp only
      go_wp2_with ((with_reducible refine wpList_store_at ?_ 42 _ _ rfl ?_ ?_ (HS5.out _ ?_) ?_); rfl; rfl; rfl; rfl)

      try rw [hw6]
      clear hw6 HS5
      generalize wr.heap.size = p7 at *
      generalize w5.heap.size = p8 at *
      clear HND0 HFS
      generalize nd.name = nm at *
      obtain ⟨t, ht⟩ : ∃ t, hasN ns l k = t := ⟨_, rfl⟩
      rw [ht]
      have HT := Lib.hid ht
      clear ht
      rcases Nat.eq_zero_or_pos k with hk0 | hk0
      · have hkd : decide (0 < k) = false := by simp; omega
        have hkn : ¬ 0 < k := by omega
        have hp0 : ∃ p : List UInt8, p = [] := ⟨_, rfl⟩
        obtain ⟨p, -⟩ := hp0
        obtain ⟨j, -⟩ : ∃ j : Nat, j = 0 := ⟨_, rfl⟩
        clear hk0 HPV
        go_wp2_with fail
        refine wp_region_headG 22 (fun i => !([12, 13, 14, 15, 16, 17, 18, 19, 20] : List Nat).contains i) No (FndW l nm p cs cs2 b off n c k j p7 p8 t) (by kernel_rfl) (by kernel_rfl) (by kernel_rfl) (FndW_ext l nm p cs cs2 b off n c k j p7 p8 t) (HeadStepsG.cons (by rfl) (by exact trivial) ?_ (HeadStepsG.cons (by rfl) (by exact trivial) ?_ (HeadStepsG.cons (by rfl) (by exact trivial) ?_ (HeadStepsG.cons (by rfl) (by exact fun _ _ h => h) ?_ (HeadStepsG.cons (by rfl) (by exact fun _ _ h => h) ?_ (HeadStepsG.cons (by rfl) (by exact fun _ _ h => h) ?_ (HeadStepsG.cons (by rfl) (by exact fun _ _ h => h) ?_ (HeadStepsG.cons (by rfl) (by exact trivial) ?_ (HeadStepsG.cons (by rfl) (by exact trivial) ?_ (HeadStepsG.cons (by rfl) (by exact fun _ _ h => h) ?_ (HeadStepsG.cons (by rfl) (by exact fun _ _ h => h) ?_ (HeadStepsG.cons (by rfl) (by exact fun _ _ h => h) ?_ (HeadStepsG.skip (by rfl) (by exact fun _ _ h => h) (by exact fun _ => rfl) (HeadStepsG.skip (by rfl) (by exact fun _ _ h => h) (by exact fun _ => rfl) (HeadStepsG.skip (by rfl) (by exact fun _ _ h => h) (by exact fun _ => rfl) (HeadStepsG.skip (by rfl) (by exact fun _ _ h => h) (by exact fun _ => rfl) (HeadStepsG.skip (by rfl) (by exact fun _ _ h => h) (by exact fun _ => rfl) (HeadStepsG.skip (by rfl) (by exact fun _ _ h => h) (by exact fun _ => rfl) (HeadStepsG.skip (by rfl) (by exact fun _ _ h => h) (by exact fun _ => rfl) (HeadStepsG.skip (by rfl) (by exact fun _ _ h => h) (by exact fun _ => rfl) (HeadStepsG.skip (by rfl) (by exact fun _ _ h => h) (by exact fun _ => rfl) (HeadStepsG.cons (by rfl) (by exact fun _ _ h => h) ?_ HeadStepsG.nil)))))))))))))))))))))) ?_
        · -- slot 38
          intro ac wk hx hsame hdep K hK
          have d9 : ac.tmps.getD 9 undef = .bool true := hsame 9 (by kernel_rfl)
          have e9 := d9
          rw [Array.getD_eq_getD_getElem?] at e9
          clear hsame hdep
          go_simp
          exact hK _ _ (Ext.refl _ wk) rfl
        · -- slot 39
          intro ac wk hx hsame hdep K hK
          have d38 : ac.tmps.getD 38 undef = .bool true := hdep 0 (by kernel_rfl)
          have e38 := d38
          rw [Array.getD_eq_getD_getElem?] at e38
          clear hsame hdep
          go_simp
          exact hK _ _ (Ext.refl _ wk) rfl
        · -- slot 40
          intro ac wk hx hsame hdep K hK
          have d39 : ac.tmps.getD 39 undef = .bool false := hdep 1 (by kernel_rfl)
          have e39 := d39
          rw [Array.getD_eq_getD_getElem?] at e39
          clear hsame hdep
          go_simp
          exact hK _ _ (Ext.refl _ wk) rfl
        · -- slot 41
          intro ac wk hx hsame hdep K hK
          have d8 : ac.tmps.getD 8 undef = .pointer (some ⟨p8, 0, none⟩) := hsame 8 (by kernel_rfl)
          have e8 := d8
          rw [Array.getD_eq_getD_getElem?] at e8
          clear hsame hdep
          exact wp_load_known _ _ rfl d8 (HL8.out wk (Dr.extN hx)) (hK _ _ (Ext.refl _ wk) rfl)
        · -- slot 42
          intro ac wk hx hsame hdep K hK
          have d7 : ac.tmps.getD 7 undef = .pointer (some ⟨p7, 0, none⟩) := hsame 7 (by kernel_rfl)
          have e7 := d7
          rw [Array.getD_eq_getD_getElem?] at e7
          clear hsame hdep
          exact wp_load_known _ _ rfl d7 (HL7.out wk (Dr.extN hx)) (hK _ _ (Ext.refl _ wk) rfl)
        · -- slot 43
          intro ac wk hx hsame hdep K hK
          have d41 : ac.tmps.getD 41 undef = .agg cs2.toArray := hdep 3 (by kernel_rfl)
          have e41 := d41
          rw [Array.getD_eq_getD_getElem?] at e41
          have d42 : ac.tmps.getD 42 undef = .agg cs.toArray := hdep 4 (by kernel_rfl)
          have e42 := d42
          rw [Array.getD_eq_getD_getElem?] at e42
          clear hsame hdep
          go_simp
          refine (HAL.out wk (Dr.extN hx)).mono ?_
          rintro e w' ⟨rfl, hx'⟩
          exact hK _ _ hx' rfl
        · -- slot 44
          intro ac wk hx hsame hdep K hK
          have d43 : ac.tmps.getD 43 undef = .bool true := hdep 5 (by kernel_rfl)
          have e43 := d43
          rw [Array.getD_eq_getD_getElem?] at e43
          clear hsame hdep
          go_simp
          exact hK _ _ (Ext.refl _ wk) rfl
        · -- slot 45
          intro ac wk hx hsame hdep K hK
          have d40 : ac.tmps.getD 40 undef = .bool false := hdep 2 (by kernel_rfl)
          have e40 := d40
          rw [Array.getD_eq_getD_getElem?] at e40
          have d44 : ac.tmps.getD 44 undef = .bool false := hdep 6 (by kernel_rfl)
          have e44 := d44
          rw [Array.getD_eq_getD_getElem?] at e44
          clear hsame hdep
          go_simp
          exact hK _ _ (Ext.refl _ wk) rfl
        · -- slot 46
          intro ac wk hx hsame hdep K hK
          have d45 : ac.tmps.getD 45 undef = .bool false := hdep 7 (by kernel_rfl)
          have e45 := d45
          rw [Array.getD_eq_getD_getElem?] at e45
          clear hsame hdep
          go_simp
          exact hK _ _ (Ext.refl _ wk) rfl
        · -- slot 47
          intro ac wk hx hsame hdep K hK
          have d6 : ac.tmps.getD 6 undef = .int .i64 (k : Int) := hsame 6 (by kernel_rfl)
          have e6 := d6
          rw [Array.getD_eq_getD_getElem?] at e6
          clear hsame hdep
          go_simp
          exact hK _ _ (Ext.refl _ wk) rfl
        · -- slot 48
          intro ac wk hx hsame hdep K hK
          have d47 : ac.tmps.getD 47 undef = .int .i64 (k : Int) := hdep 9 (by kernel_rfl)
          have e47 := d47
          rw [Array.getD_eq_getD_getElem?] at e47
          clear hsame hdep
          go_simp
          exact hK _ _ (Ext.refl _ wk) rfl
        · -- slot 49
          intro ac wk hx hsame hdep K hK
          have d48 : ac.tmps.getD 48 undef = .bool false := hdep 10 (by kernel_rfl)
          have e48 := d48
          rw [Array.getD_eq_getD_getElem?] at e48
          clear hsame hdep
          go_simp
          exact hK _ _ (Ext.refl _ wk) rfl
        · -- slot 59
          intro ac wk hx hsame hdep K hK
          have d49 : ac.tmps.getD 49 undef = .bool false := hdep 11 (by kernel_rfl)
          have e49 := d49
          rw [Array.getD_eq_getD_getElem?] at e49
          clear hsame hdep
          go_simp
          exact hK _ _ (Ext.refl _ wk) rfl
        · intro ac wk hx hdf hsz hsame hvals
          have f0 : ac.tmps.getD 0 undef = .slice (some ⟨b, off, none⟩) n c := hsame 0 (by kernel_rfl)
          have f1 : ac.tmps.getD 1 undef = .string (strB l) := hsame 1 (by kernel_rfl)
          have f2 : ac.tmps.getD 2 undef = undef := hsame 2 (by kernel_rfl)
          have f3 : ac.tmps.getD 3 undef = undef := hsame 3 (by kernel_rfl)
          obtain ⟨u4, f4⟩ : ∃ u, ac.tmps.getD 4 undef = u := ⟨_, rfl⟩
          have f5 : ac.tmps.getD 5 undef = .bool t := hsame 5 (by kernel_rfl)
          have f6 : ac.tmps.getD 6 undef = .int .i64 (k : Int) := hsame 6 (by kernel_rfl)
          have f7 : ac.tmps.getD 7 undef = .pointer (some ⟨p7, 0, none⟩) := hsame 7 (by kernel_rfl)
          have f8 : ac.tmps.getD 8 undef = .pointer (some ⟨p8, 0, none⟩) := hsame 8 (by kernel_rfl)
          have f9 : ac.tmps.getD 9 undef = .bool true := hsame 9 (by kernel_rfl)
          have f10 : ac.tmps.getD 10 undef = undef := hsame 10 (by kernel_rfl)
          have f11 : ac.tmps.getD 11 undef = undef := hsame 11 (by kernel_rfl)
          have f12 : ac.tmps.getD 12 undef = undef := hsame 12 (by kernel_rfl)
          have f13 : ac.tmps.getD 13 undef = undef := hsame 13 (by kernel_rfl)
          have f14 : ac.tmps.getD 14 undef = .bool true := hsame 14 (by kernel_rfl)
          have f15 : ac.tmps.getD 15 undef = .bool false := hsame 15 (by kernel_rfl)
          have f16 : ac.tmps.getD 16 undef = .slice (some ⟨b, off, none⟩) n c := hsame 16 (by kernel_rfl)
          have f17 : ac.tmps.getD 17 undef = .bool true := hsame 17 (by kernel_rfl)
          have f18 : ac.tmps.getD 18 undef = .bool false := hsame 18 (by kernel_rfl)
          have f19 : ac.tmps.getD 19 undef = .bool false := hsame 19 (by kernel_rfl)
          have f20 : ac.tmps.getD 20 undef = .slice (some ⟨b, off, none⟩) n c := hsame 20 (by kernel_rfl)
          have f21 : ac.tmps.getD 21 undef = .int .i64 0 := hsame 21 (by kernel_rfl)
          have f22 : ac.tmps.getD 22 undef = .bool false := hsame 22 (by kernel_rfl)
          have f23 : ac.tmps.getD 23 undef = .bool false := hsame 23 (by kernel_rfl)
          have f24 : ac.tmps.getD 24 undef = .slice (some ⟨b, off, none⟩) n c := hsame 24 (by kernel_rfl)
          have f25 : ac.tmps.getD 25 undef = .int .i64 (n : Int) := hsame 25 (by kernel_rfl)
          have f26 : ac.tmps.getD 26 undef = .int .i64 (k : Int) := hsame 26 (by kernel_rfl)
          obtain ⟨u27, f27⟩ : ∃ u, ac.tmps.getD 27 undef = u := ⟨_, rfl⟩
          obtain ⟨u28, f28⟩ : ∃ u, ac.tmps.getD 28 undef = u := ⟨_, rfl⟩
          obtain ⟨u29, f29⟩ : ∃ u, ac.tmps.getD 29 undef = u := ⟨_, rfl⟩
          obtain ⟨u30, f30⟩ : ∃ u, ac.tmps.getD 30 undef = u := ⟨_, rfl⟩
          obtain ⟨u31, f31⟩ : ∃ u, ac.tmps.getD 31 undef = u := ⟨_, rfl⟩
          obtain ⟨u32, f32⟩ : ∃ u, ac.tmps.getD 32 undef = u := ⟨_, rfl⟩
          obtain ⟨u33, f33⟩ : ∃ u, ac.tmps.getD 33 undef = u := ⟨_, rfl⟩
          obtain ⟨u34, f34⟩ : ∃ u, ac.tmps.getD 34 undef = u := ⟨_, rfl⟩
          obtain ⟨u35, f35⟩ : ∃ u, ac.tmps.getD 35 undef = u := ⟨_, rfl⟩
          obtain ⟨u36, f36⟩ : ∃ u, ac.tmps.getD 36 undef = u := ⟨_, rfl⟩
          obtain ⟨u37, f37⟩ : ∃ u, ac.tmps.getD 37 undef = u := ⟨_, rfl⟩
          have f38 : ac.tmps.getD 38 undef = .bool true := hvals 0 (by decide)
          have f39 : ac.tmps.getD 39 undef = .bool false := hvals 1 (by decide)
          have f40 : ac.tmps.getD 40 undef = .bool false := hvals 2 (by decide)
          have f41 : ac.tmps.getD 41 undef = .agg cs2.toArray := hvals 3 (by decide)
          have f42 : ac.tmps.getD 42 undef = .agg cs.toArray := hvals 4 (by decide)
          have f43 : ac.tmps.getD 43 undef = .bool true := hvals 5 (by decide)
          have f44 : ac.tmps.getD 44 undef = .bool false := hvals 6 (by decide)
          have f45 : ac.tmps.getD 45 undef = .bool false := hvals 7 (by decide)
          have f46 : ac.tmps.getD 46 undef = .bool false := hvals 8 (by decide)
          have f47 : ac.tmps.getD 47 undef = .int .i64 (k : Int) := hvals 9 (by decide)
          have f48 : ac.tmps.getD 48 undef = .bool false := hvals 10 (by decide)
          have f49 : ac.tmps.getD 49 undef = .bool false := hvals 11 (by decide)
          have f50 : ac.tmps.getD 50 undef = undef := hvals 12 (by decide)
          have f51 : ac.tmps.getD 51 undef = undef := hvals 13 (by decide)
          have f52 : ac.tmps.getD 52 undef = undef := hvals 14 (by decide)
          have f53 : ac.tmps.getD 53 undef = undef := hvals 15 (by decide)
          have f54 : ac.tmps.getD 54 undef = undef := hvals 16 (by decide)
          have f55 : ac.tmps.getD 55 undef = undef := hvals 17 (by decide)
          have f56 : ac.tmps.getD 56 undef = undef := hvals 18 (by decide)
          have f57 : ac.tmps.getD 57 undef = undef := hvals 19 (by decide)
          have f58 : ac.tmps.getD 58 undef = undef := hvals 20 (by decide)
          have f59 : ac.tmps.getD 59 undef = .bool false := hvals 21 (by decide)
          obtain ⟨u60, f60⟩ : ∃ u, ac.tmps.getD 60 undef = u := ⟨_, rfl⟩
          obtain ⟨u61, f61⟩ : ∃ u, ac.tmps.getD 61 undef = u := ⟨_, rfl⟩
          obtain ⟨u62, f62⟩ : ∃ u, ac.tmps.getD 62 undef = u := ⟨_, rfl⟩
          obtain ⟨u63, f63⟩ : ∃ u, ac.tmps.getD 63 undef = u := ⟨_, rfl⟩
          obtain ⟨u64, f64⟩ : ∃ u, ac.tmps.getD 64 undef = u := ⟨_, rfl⟩
          obtain ⟨u65, f65⟩ : ∃ u, ac.tmps.getD 65 undef = u := ⟨_, rfl⟩
          obtain ⟨u66, f66⟩ : ∃ u, ac.tmps.getD 66 undef = u := ⟨_, rfl⟩
          obtain ⟨u67, f67⟩ : ∃ u, ac.tmps.getD 67 undef = u := ⟨_, rfl⟩
          obtain ⟨u68, f68⟩ : ∃ u, ac.tmps.getD 68 undef = u := ⟨_, rfl⟩
          have f69 : ac.tmps.getD 69 undef = undef := hsame 69 (by kernel_rfl)
          have f70 : ac.tmps.getD 70 undef = undef := hsame 70 (by kernel_rfl)
          have f71 : ac.tmps.getD 71 undef = undef := hsame 71 (by kernel_rfl)
          have f72 : ac.tmps.getD 72 undef = undef := hsame 72 (by kernel_rfl)
          have f73 : ac.tmps.getD 73 undef = undef := hsame 73 (by kernel_rfl)
          have f74 : ac.tmps.getD 74 undef = undef := hsame 74 (by kernel_rfl)
          have f75 : ac.tmps.getD 75 undef = undef := hsame 75 (by kernel_rfl)
          have f76 : ac.tmps.getD 76 undef = undef := hsame 76 (by kernel_rfl)
          have f77 : ac.tmps.getD 77 undef = undef := hsame 77 (by kernel_rfl)
          have f78 : ac.tmps.getD 78 undef = undef := hsame 78 (by kernel_rfl)
          have f79 : ac.tmps.getD 79 undef = undef := hsame 79 (by kernel_rfl)
          have f80 : ac.tmps.getD 80 undef = undef := hsame 80 (by kernel_rfl)
          have f81 : ac.tmps.getD 81 undef = undef := hsame 81 (by kernel_rfl)
          have f82 : ac.tmps.getD 82 undef = undef := hsame 82 (by kernel_rfl)
          have f83 : ac.tmps.getD 83 undef = undef := hsame 83 (by kernel_rfl)
          have f84 : ac.tmps.getD 84 undef = undef := hsame 84 (by kernel_rfl)
          have f85 : ac.tmps.getD 85 undef = undef := hsame 85 (by kernel_rfl)
          have f86 : ac.tmps.getD 86 undef = undef := hsame 86 (by kernel_rfl)
          have f87 : ac.tmps.getD 87 undef = undef := hsame 87 (by kernel_rfl)
          have f88 : ac.tmps.getD 88 undef = undef := hsame 88 (by kernel_rfl)
          have hlit : ac = ⟨#[.slice (some ⟨b, off, none⟩) n c, .string (strB l), undef, undef, u4, .bool t, .int .i64 (k : Int), .pointer (some ⟨p7, 0, none⟩), .pointer (some ⟨p8, 0, none⟩), .bool true, undef, undef, undef, undef, .bool true, .bool false, .slice (some ⟨b, off, none⟩) n c, .bool true, .bool false, .bool false, .slice (some ⟨b, off, none⟩) n c, .int .i64 0, .bool false, .bool false, .slice (some ⟨b, off, none⟩) n c, .int .i64 (n : Int), .int .i64 (k : Int), u27, u28, u29, u30, u31, u32, u33, u34, u35, u36, u37, .bool true, .bool false, .bool false, .agg cs2.toArray, .agg cs.toArray, .bool true, .bool false, .bool false, .bool false, .int .i64 (k : Int), .bool false, .bool false, undef, undef, undef, undef, undef, undef, undef, undef, undef, .bool false, u60, u61, u62, u63, u64, u65, u66, u67, u68, undef, undef, undef, undef, undef, undef, undef, undef, undef, undef, undef, undef, undef, undef, undef, undef, undef, undef, undef, undef], []⟩ := by
            refine (act_lit hsz hdf).trans ?_
            rw [show List.range _ = [0, 1, 2, 3, 4, 5, 6, 7, 8, 9, 10, 11, 12, 13, 14, 15, 16, 17, 18, 19, 20, 21, 22, 23, 24, 25, 26, 27, 28, 29, 30, 31, 32, 33, 34, 35, 36, 37, 38, 39, 40, 41, 42, 43, 44, 45, 46, 47, 48, 49, 50, 51, 52, 53, 54, 55, 56, 57, 58, 59, 60, 61, 62, 63, 64, 65, 66, 67, 68, 69, 70, 71, 72, 73, 74, 75, 76, 77, 78, 79, 80, 81, 82, 83, 84, 85, 86, 87, 88] from rfl]
            simp only [List.map_cons, List.map_nil, f0, f1, f2, f3, f4, f5, f6, f7, f8, f9, f10, f11, f12, f13, f14, f15, f16, f17, f18, f19, f20, f21, f22, f23, f24, f25, f26, f27, f28, f29, f30, f31, f32, f33, f34, f35, f36, f37, f38, f39, f40, f41, f42, f43, f44, f45, f46, f47, f48, f49, f50, f51, f52, f53, f54, f55, f56, f57, f58, f59, f60, f61, f62, f63, f64, f65, f66, f67, f68, f69, f70, f71, f72, f73, f74, f75, f76, f77, f78, f79, f80, f81, f82, f83, f84, f85, f86, f87, f88]
          clear hvals hsame hdf hsz f0 f1 f2 f3 f4 f5 f6 f7 f8 f9 f10 f11 f12 f13 f14 f15 f16 f17 f18 f19 f20 f21 f22 f23 f24 f25 f26 f27 f28 f29 f30 f31 f32 f33 f34 f35 f36 f37 f38 f39 f40 f41 f42 f43 f44 f45 f46 f47 f48 f49 f50 f51 f52 f53 f54 f55 f56 f57 f58 f59 f60 f61 f62 f63 f64 f65 f66 f67 f68 f69 f70 f71 f72 f73 f74 f75 f76 f77 f78 f79 f80 f81 f82 f83 f84 f85 f86 f87 f88
          subst hlit
          simp only [List.drop_succ_cons, List.drop_zero]
          have hnmc := HNM.out _ hx
          have hq := strB_eq nm l
          have hxx := HX3.out.trans' hx
          have HXX := Lib.hid hxx
          clear hxx
          cases t
          · cases hd : decide (nm = l)
            · rw [hd] at hq
              have HHS2 := Lib.hid (show hasN ns l (k + 1) = false by rw [HHS.out, HT.out, hd]; rfl)
              clear hd
              go_wp2_with fail
              go_roundw
              case rel => exact ⟨k + 1, by go_num, by omega, HXX.out, by rw [HHS2.out]⟩
              case measure => simp [intOf]; omega
            · rw [hd] at hq
              have HHS2 := Lib.hid (show hasN ns l (k + 1) = true by rw [HHS.out, HT.out, hd]; rfl)
              clear hd
              go_wp2_with fail
              go_roundw
              case rel => exact ⟨k + 1, by go_num, by omega, HXX.out, by rw [HHS2.out]⟩
              case measure => simp [intOf]; omega
          · have HHS2 := Lib.hid (show hasN ns l (k + 1) = true by rw [HHS.out, HT.out]; rfl)
            clear hq
            go_wp2_with fail
            go_roundw
            case rel => exact ⟨k + 1, by go_num, by omega, HXX.out, by rw [HHS2.out]⟩
            case measure => simp [intOf]; omega
      · obtain ⟨j, hj⟩ : ∃ j, j + 1 = k := ⟨k - 1, by omega⟩
        obtain ⟨p, hpv, hbl⟩ := HPV.out j hj
        have HPV1 := Lib.hid hpv
        have hsub : (k : Int) - 1 = (j : Int) := by omega
        have hjn : (j : Int) < n := by omega
        have hjn2 : j < n := by omega
        have HQ3 : Hid (Op.bytesLess (strB p).toList (strB nm).toList = true) := Lib.hid (by rw [strB_list, strB_list]; exact hbl)
        have HWJ : Hid (IntKind.i64.wrap (j : Int) = (j : Int)) := Lib.hid (by rw [IntKind.wrap_i64]; omega)
        clear hbl hpv HPV hj
        have hkI : (0 : Int) < k := by omega
        go_wp2_with fail
        refine wp_region_headG 22 (fun i => !([] : List Nat).contains i) No (FndV l nm p cs cs2 b off n c k j p7 p8 t) (by kernel_rfl) (by kernel_rfl) (by kernel_rfl) (FndV_ext l nm p cs cs2 b off n c k j p7 p8 t) (HeadStepsG.cons (by rfl) (by exact trivial) ?_ (HeadStepsG.cons (by rfl) (by exact trivial) ?_ (HeadStepsG.cons (by rfl) (by exact trivial) ?_ (HeadStepsG.cons (by rfl) (by exact fun _ _ h => h) ?_ (HeadStepsG.cons (by rfl) (by exact fun _ _ h => h) ?_ (HeadStepsG.cons (by rfl) (by exact fun _ _ h => h) ?_ (HeadStepsG.cons (by rfl) (by exact fun _ _ h => h) ?_ (HeadStepsG.cons (by rfl) (by exact trivial) ?_ (HeadStepsG.cons (by rfl) (by exact trivial) ?_ (HeadStepsG.cons (by rfl) (by exact fun _ _ h => h) ?_ (HeadStepsG.cons (by rfl) (by exact fun _ _ h => h) ?_ (HeadStepsG.cons (by rfl) (by exact fun _ _ h => h) ?_ (HeadStepsG.cons (by rfl) (by exact fun _ _ h => h) ?_ (HeadStepsG.cons (by rfl) (by exact fun _ _ h => h) ?_ (HeadStepsG.cons (by rfl) (by exact fun _ _ h => h) ?_ (HeadStepsG.cons (by rfl) (by exact fun _ _ h => h) ?_ (HeadStepsG.cons (by rfl) (by exact fun _ _ h => h) ?_ (HeadStepsG.cons (by rfl) (by exact fun _ _ h => h) ?_ (HeadStepsG.cons (by rfl) (by exact fun _ _ h => h) ?_ (HeadStepsG.cons (by rfl) (by exact fun _ _ h => h) ?_ (HeadStepsG.cons (by rfl) (by exact fun _ _ h => h) ?_ (HeadStepsG.cons (by rfl) (by exact fun _ _ h => h) ?_ HeadStepsG.nil)))))))))))))))))))))) ?_
        · -- slot 38
          intro ac wk hx hsame hdep K hK
          have d9 : ac.tmps.getD 9 undef = .bool true := hsame 9 (by kernel_rfl)
          have e9 := d9
          rw [Array.getD_eq_getD_getElem?] at e9
          clear hsame hdep
          go_simp
          exact hK _ _ (Ext.refl _ wk) rfl
        · -- slot 39
          intro ac wk hx hsame hdep K hK
          have d38 : ac.tmps.getD 38 undef = .bool true := hdep 0 (by kernel_rfl)
          have e38 := d38
          rw [Array.getD_eq_getD_getElem?] at e38
          clear hsame hdep
          go_simp
          exact hK _ _ (Ext.refl _ wk) rfl
        · -- slot 40
          intro ac wk hx hsame hdep K hK
          have d39 : ac.tmps.getD 39 undef = .bool false := hdep 1 (by kernel_rfl)
          have e39 := d39
          rw [Array.getD_eq_getD_getElem?] at e39
          clear hsame hdep
          go_simp
          exact hK _ _ (Ext.refl _ wk) rfl
        · -- slot 41
          intro ac wk hx hsame hdep K hK
          have d8 : ac.tmps.getD 8 undef = .pointer (some ⟨p8, 0, none⟩) := hsame 8 (by kernel_rfl)
          have e8 := d8
          rw [Array.getD_eq_getD_getElem?] at e8
          clear hsame hdep
          exact wp_load_known _ _ rfl d8 (HL8.out wk (Dr.extN hx)) (hK _ _ (Ext.refl _ wk) rfl)
        · -- slot 42
          intro ac wk hx hsame hdep K hK
          have d7 : ac.tmps.getD 7 undef = .pointer (some ⟨p7, 0, none⟩) := hsame 7 (by kernel_rfl)
          have e7 := d7
          rw [Array.getD_eq_getD_getElem?] at e7
          clear hsame hdep
          exact wp_load_known _ _ rfl d7 (HL7.out wk (Dr.extN hx)) (hK _ _ (Ext.refl _ wk) rfl)
        · -- slot 43
          intro ac wk hx hsame hdep K hK
          have d41 : ac.tmps.getD 41 undef = .agg cs2.toArray := hdep 3 (by kernel_rfl)
          have e41 := d41
          rw [Array.getD_eq_getD_getElem?] at e41
          have d42 : ac.tmps.getD 42 undef = .agg cs.toArray := hdep 4 (by kernel_rfl)
          have e42 := d42
          rw [Array.getD_eq_getD_getElem?] at e42
          clear hsame hdep
          go_simp
          refine (HAL.out wk (Dr.extN hx)).mono ?_
          rintro e w' ⟨rfl, hx'⟩
          exact hK _ _ hx' rfl
        · -- slot 44
          intro ac wk hx hsame hdep K hK
          have d43 : ac.tmps.getD 43 undef = .bool true := hdep 5 (by kernel_rfl)
          have e43 := d43
          rw [Array.getD_eq_getD_getElem?] at e43
          clear hsame hdep
          go_simp
          exact hK _ _ (Ext.refl _ wk) rfl
        · -- slot 45
          intro ac wk hx hsame hdep K hK
          have d40 : ac.tmps.getD 40 undef = .bool false := hdep 2 (by kernel_rfl)
          have e40 := d40
          rw [Array.getD_eq_getD_getElem?] at e40
          have d44 : ac.tmps.getD 44 undef = .bool false := hdep 6 (by kernel_rfl)
          have e44 := d44
          rw [Array.getD_eq_getD_getElem?] at e44
          clear hsame hdep
          go_simp
          exact hK _ _ (Ext.refl _ wk) rfl
        · -- slot 46
          intro ac wk hx hsame hdep K hK
          have d45 : ac.tmps.getD 45 undef = .bool false := hdep 7 (by kernel_rfl)
          have e45 := d45
          rw [Array.getD_eq_getD_getElem?] at e45
          clear hsame hdep
          go_simp
          exact hK _ _ (Ext.refl _ wk) rfl
        · -- slot 47
          intro ac wk hx hsame hdep K hK
          have d6 : ac.tmps.getD 6 undef = .int .i64 (k : Int) := hsame 6 (by kernel_rfl)
          have e6 := d6
          rw [Array.getD_eq_getD_getElem?] at e6
          clear hsame hdep
          go_simp
          exact hK _ _ (Ext.refl _ wk) rfl
        · -- slot 48
          intro ac wk hx hsame hdep K hK
          have d47 : ac.tmps.getD 47 undef = .int .i64 (k : Int) := hdep 9 (by kernel_rfl)
          have e47 := d47
          rw [Array.getD_eq_getD_getElem?] at e47
          clear hsame hdep
          go_simp
          exact hK _ _ (Ext.refl _ wk) rfl
        · -- slot 49
          intro ac wk hx hsame hdep K hK
          have d48 : ac.tmps.getD 48 undef = .bool true := hdep 10 (by kernel_rfl)
          have e48 := d48
          rw [Array.getD_eq_getD_getElem?] at e48
          clear hsame hdep
          go_simp
          exact hK _ _ (Ext.refl _ wk) rfl
        · -- slot 50
          intro ac wk hx hsame hdep K hK
          have d0 : ac.tmps.getD 0 undef = .slice (some ⟨b, off, none⟩) n c := hsame 0 (by kernel_rfl)
          have e0 := d0
          rw [Array.getD_eq_getD_getElem?] at e0
          clear hsame hdep
          go_simp
          exact hK _ _ (Ext.refl _ wk) rfl
        · -- slot 51
          intro ac wk hx hsame hdep K hK
          have d6 : ac.tmps.getD 6 undef = .int .i64 (k : Int) := hsame 6 (by kernel_rfl)
          have e6 := d6
          rw [Array.getD_eq_getD_getElem?] at e6
          clear hsame hdep
          go_simp
          exact hK _ _ (Ext.refl _ wk) rfl
        · -- slot 52
          intro ac wk hx hsame hdep K hK
          have d51 : ac.tmps.getD 51 undef = .int .i64 (k : Int) := hdep 13 (by kernel_rfl)
          have e51 := d51
          rw [Array.getD_eq_getD_getElem?] at e51
          clear hsame hdep
          have hwj := HWJ.out
          go_simp
          exact hK _ _ (Ext.refl _ wk) rfl
        · -- slot 53
          intro ac wk hx hsame hdep K hK
          have d50 : ac.tmps.getD 50 undef = .slice (some ⟨b, off, none⟩) n c := hdep 12 (by kernel_rfl)
          have e50 := d50
          rw [Array.getD_eq_getD_getElem?] at e50
          have d52 : ac.tmps.getD 52 undef = .int .i64 (j : Int) := hdep 14 (by kernel_rfl)
          have e52 := d52
          rw [Array.getD_eq_getD_getElem?] at e52
          clear hsame hdep
          go_simp
          exact hK _ _ (Ext.refl _ wk) rfl
        · -- slot 54
          intro ac wk hx hsame hdep K hK
          have d53 : ac.tmps.getD 53 undef = .pointer (some ⟨b, off + j * 36, none⟩) := hdep 15 (by kernel_rfl)
          have e53 := d53
          rw [Array.getD_eq_getD_getElem?] at e53
          clear hsame hdep
          go_simp
          exact hK _ _ (Ext.refl _ wk) rfl
        · -- slot 55
          intro ac wk hx hsame hdep K hK
          have d54 : ac.tmps.getD 54 undef = .pointer (some ⟨b, off + j * 36, none⟩) := hdep 16 (by kernel_rfl)
          have e54 := d54
          rw [Array.getD_eq_getD_getElem?] at e54
          clear hsame hdep
          have hcc := HPV1.out wk (Dr.extN hx)
          go_simp
          exact hK _ _ (Ext.refl _ wk) rfl
        · -- slot 56
          intro ac wk hx hsame hdep K hK
          have d7 : ac.tmps.getD 7 undef = .pointer (some ⟨p7, 0, none⟩) := hsame 7 (by kernel_rfl)
          have e7 := d7
          rw [Array.getD_eq_getD_getElem?] at e7
          clear hsame hdep
          go_simp
          exact hK _ _ (Ext.refl _ wk) rfl
        · -- slot 57
          intro ac wk hx hsame hdep K hK
          have d56 : ac.tmps.getD 56 undef = .pointer (some ⟨p7, 0, none⟩) := hdep 18 (by kernel_rfl)
          have e56 := d56
          rw [Array.getD_eq_getD_getElem?] at e56
          clear hsame hdep
          have hcc := HNM.out wk (Dr.extN hx)
          go_simp
          exact hK _ _ (Ext.refl _ wk) rfl
        · -- slot 58
          intro ac wk hx hsame hdep K hK
          have d55 : ac.tmps.getD 55 undef = .string (strB p) := hdep 17 (by kernel_rfl)
          have e55 := d55
          rw [Array.getD_eq_getD_getElem?] at e55
          have d57 : ac.tmps.getD 57 undef = .string (strB nm) := hdep 19 (by kernel_rfl)
          have e57 := d57
          rw [Array.getD_eq_getD_getElem?] at e57
          clear hsame hdep
          have hq3 := HQ3.out
          go_simp
          exact hK _ _ (Ext.refl _ wk) rfl
        · -- slot 59
          intro ac wk hx hsame hdep K hK
          have d49 : ac.tmps.getD 49 undef = .bool true := hdep 11 (by kernel_rfl)
          have e49 := d49
          rw [Array.getD_eq_getD_getElem?] at e49
          have d58 : ac.tmps.getD 58 undef = .bool false := hdep 20 (by kernel_rfl)
          have e58 := d58
          rw [Array.getD_eq_getD_getElem?] at e58
          clear hsame hdep
          go_simp
          exact hK _ _ (Ext.refl _ wk) rfl
        · intro ac wk hx hdf hsz hsame hvals
          have f0 : ac.tmps.getD 0 undef = .slice (some ⟨b, off, none⟩) n c := hsame 0 (by kernel_rfl)
          have f1 : ac.tmps.getD 1 undef = .string (strB l) := hsame 1 (by kernel_rfl)
          have f2 : ac.tmps.getD 2 undef = undef := hsame 2 (by kernel_rfl)
          have f3 : ac.tmps.getD 3 undef = undef := hsame 3 (by kernel_rfl)
          obtain ⟨u4, f4⟩ : ∃ u, ac.tmps.getD 4 undef = u := ⟨_, rfl⟩
          have f5 : ac.tmps.getD 5 undef = .bool t := hsame 5 (by kernel_rfl)
          have f6 : ac.tmps.getD 6 undef = .int .i64 (k : Int) := hsame 6 (by kernel_rfl)
          have f7 : ac.tmps.getD 7 undef = .pointer (some ⟨p7, 0, none⟩) := hsame 7 (by kernel_rfl)
          have f8 : ac.tmps.getD 8 undef = .pointer (some ⟨p8, 0, none⟩) := hsame 8 (by kernel_rfl)
          have f9 : ac.tmps.getD 9 undef = .bool true := hsame 9 (by kernel_rfl)
          have f10 : ac.tmps.getD 10 undef = undef := hsame 10 (by kernel_rfl)
          have f11 : ac.tmps.getD 11 undef = undef := hsame 11 (by kernel_rfl)
          have f12 : ac.tmps.getD 12 undef = undef := hsame 12 (by kernel_rfl)
          have f13 : ac.tmps.getD 13 undef = undef := hsame 13 (by kernel_rfl)
          have f14 : ac.tmps.getD 14 undef = .bool true := hsame 14 (by kernel_rfl)
          have f15 : ac.tmps.getD 15 undef = .bool false := hsame 15 (by kernel_rfl)
          have f16 : ac.tmps.getD 16 undef = .slice (some ⟨b, off, none⟩) n c := hsame 16 (by kernel_rfl)
          have f17 : ac.tmps.getD 17 undef = .bool true := hsame 17 (by kernel_rfl)
          have f18 : ac.tmps.getD 18 undef = .bool false := hsame 18 (by kernel_rfl)
          have f19 : ac.tmps.getD 19 undef = .bool false := hsame 19 (by kernel_rfl)
          have f20 : ac.tmps.getD 20 undef = .slice (some ⟨b, off, none⟩) n c := hsame 20 (by kernel_rfl)
          have f21 : ac.tmps.getD 21 undef = .int .i64 0 := hsame 21 (by kernel_rfl)
          have f22 : ac.tmps.getD 22 undef = .bool false := hsame 22 (by kernel_rfl)
          have f23 : ac.tmps.getD 23 undef = .bool false := hsame 23 (by kernel_rfl)
          have f24 : ac.tmps.getD 24 undef = .slice (some ⟨b, off, none⟩) n c := hsame 24 (by kernel_rfl)
          have f25 : ac.tmps.getD 25 undef = .int .i64 (n : Int) := hsame 25 (by kernel_rfl)
          have f26 : ac.tmps.getD 26 undef = .int .i64 (k : Int) := hsame 26 (by kernel_rfl)
          obtain ⟨u27, f27⟩ : ∃ u, ac.tmps.getD 27 undef = u := ⟨_, rfl⟩
          obtain ⟨u28, f28⟩ : ∃ u, ac.tmps.getD 28 undef = u := ⟨_, rfl⟩
          obtain ⟨u29, f29⟩ : ∃ u, ac.tmps.getD 29 undef = u := ⟨_, rfl⟩
          obtain ⟨u30, f30⟩ : ∃ u, ac.tmps.getD 30 undef = u := ⟨_, rfl⟩
          obtain ⟨u31, f31⟩ : ∃ u, ac.tmps.getD 31 undef = u := ⟨_, rfl⟩
          obtain ⟨u32, f32⟩ : ∃ u, ac.tmps.getD 32 undef = u := ⟨_, rfl⟩
          obtain ⟨u33, f33⟩ : ∃ u, ac.tmps.getD 33 undef = u := ⟨_, rfl⟩
          obtain ⟨u34, f34⟩ : ∃ u, ac.tmps.getD 34 undef = u := ⟨_, rfl⟩
          obtain ⟨u35, f35⟩ : ∃ u, ac.tmps.getD 35 undef = u := ⟨_, rfl⟩
          obtain ⟨u36, f36⟩ : ∃ u, ac.tmps.getD 36 undef = u := ⟨_, rfl⟩
          obtain ⟨u37, f37⟩ : ∃ u, ac.tmps.getD 37 undef = u := ⟨_, rfl⟩
          have f38 : ac.tmps.getD 38 undef = .bool true := hvals 0 (by decide)
          have f39 : ac.tmps.getD 39 undef = .bool false := hvals 1 (by decide)
          have f40 : ac.tmps.getD 40 undef = .bool false := hvals 2 (by decide)
          have f41 : ac.tmps.getD 41 undef = .agg cs2.toArray := hvals 3 (by decide)
          have f42 : ac.tmps.getD 42 undef = .agg cs.toArray := hvals 4 (by decide)
          have f43 : ac.tmps.getD 43 undef = .bool true := hvals 5 (by decide)
          have f44 : ac.tmps.getD 44 undef = .bool false := hvals 6 (by decide)
          have f45 : ac.tmps.getD 45 undef = .bool false := hvals 7 (by decide)
          have f46 : ac.tmps.getD 46 undef = .bool false := hvals 8 (by decide)
          have f47 : ac.tmps.getD 47 undef = .int .i64 (k : Int) := hvals 9 (by decide)
          have f48 : ac.tmps.getD 48 undef = .bool true := hvals 10 (by decide)
          have f49 : ac.tmps.getD 49 undef = .bool true := hvals 11 (by decide)
          have f50 : ac.tmps.getD 50 undef = .slice (some ⟨b, off, none⟩) n c := hvals 12 (by decide)
          have f51 : ac.tmps.getD 51 undef = .int .i64 (k : Int) := hvals 13 (by decide)
          have f52 : ac.tmps.getD 52 undef = .int .i64 (j : Int) := hvals 14 (by decide)
          have f53 : ac.tmps.getD 53 undef = .pointer (some ⟨b, off + j * 36, none⟩) := hvals 15 (by decide)
          have f54 : ac.tmps.getD 54 undef = .pointer (some ⟨b, off + j * 36, none⟩) := hvals 16 (by decide)
          have f55 : ac.tmps.getD 55 undef = .string (strB p) := hvals 17 (by decide)
          have f56 : ac.tmps.getD 56 undef = .pointer (some ⟨p7, 0, none⟩) := hvals 18 (by decide)
          have f57 : ac.tmps.getD 57 undef = .string (strB nm) := hvals 19 (by decide)
          have f58 : ac.tmps.getD 58 undef = .bool false := hvals 20 (by decide)
          have f59 : ac.tmps.getD 59 undef = .bool false := hvals 21 (by decide)
          obtain ⟨u60, f60⟩ : ∃ u, ac.tmps.getD 60 undef = u := ⟨_, rfl⟩
          obtain ⟨u61, f61⟩ : ∃ u, ac.tmps.getD 61 undef = u := ⟨_, rfl⟩
          obtain ⟨u62, f62⟩ : ∃ u, ac.tmps.getD 62 undef = u := ⟨_, rfl⟩
          obtain ⟨u63, f63⟩ : ∃ u, ac.tmps.getD 63 undef = u := ⟨_, rfl⟩
          obtain ⟨u64, f64⟩ : ∃ u, ac.tmps.getD 64 undef = u := ⟨_, rfl⟩
          obtain ⟨u65, f65⟩ : ∃ u, ac.tmps.getD 65 undef = u := ⟨_, rfl⟩
          obtain ⟨u66, f66⟩ : ∃ u, ac.tmps.getD 66 undef = u := ⟨_, rfl⟩
          obtain ⟨u67, f67⟩ : ∃ u, ac.tmps.getD 67 undef = u := ⟨_, rfl⟩
          obtain ⟨u68, f68⟩ : ∃ u, ac.tmps.getD 68 undef = u := ⟨_, rfl⟩
          have f69 : ac.tmps.getD 69 undef = undef := hsame 69 (by kernel_rfl)
          have f70 : ac.tmps.getD 70 undef = undef := hsame 70 (by kernel_rfl)
          have f71 : ac.tmps.getD 71 undef = undef := hsame 71 (by kernel_rfl)
          have f72 : ac.tmps.getD 72 undef = undef := hsame 72 (by kernel_rfl)
          have f73 : ac.tmps.getD 73 undef = undef := hsame 73 (by kernel_rfl)
          have f74 : ac.tmps.getD 74 undef = undef := hsame 74 (by kernel_rfl)
          have f75 : ac.tmps.getD 75 undef = undef := hsame 75 (by kernel_rfl)
          have f76 : ac.tmps.getD 76 undef = undef := hsame 76 (by kernel_rfl)
          have f77 : ac.tmps.getD 77 undef = undef := hsame 77 (by kernel_rfl)
          have f78 : ac.tmps.getD 78 undef = undef := hsame 78 (by kernel_rfl)
          have f79 : ac.tmps.getD 79 undef = undef := hsame 79 (by kernel_rfl)
          have f80 : ac.tmps.getD 80 undef = undef := hsame 80 (by kernel_rfl)
          have f81 : ac.tmps.getD 81 undef = undef := hsame 81 (by kernel_rfl)
          have f82 : ac.tmps.getD 82 undef = undef := hsame 82 (by kernel_rfl)
          have f83 : ac.tmps.getD 83 undef = undef := hsame 83 (by kernel_rfl)
          have f84 : ac.tmps.getD 84 undef = undef := hsame 84 (by kernel_rfl)
          have f85 : ac.tmps.getD 85 undef = undef := hsame 85 (by kernel_rfl)
          have f86 : ac.tmps.getD 86 undef = undef := hsame 86 (by kernel_rfl)
          have f87 : ac.tmps.getD 87 undef = undef := hsame 87 (by kernel_rfl)
          have f88 : ac.tmps.getD 88 undef = undef := hsame 88 (by kernel_rfl)
          have hlit : ac = ⟨#[.slice (some ⟨b, off, none⟩) n c, .string (strB l), undef, undef, u4, .bool t, .int .i64 (k : Int), .pointer (some ⟨p7, 0, none⟩), .pointer (some ⟨p8, 0, none⟩), .bool true, undef, undef, undef, undef, .bool true, .bool false, .slice (some ⟨b, off, none⟩) n c, .bool true, .bool false, .bool false, .slice (some ⟨b, off, none⟩) n c, .int .i64 0, .bool false, .bool false, .slice (some ⟨b, off, none⟩) n c, .int .i64 (n : Int), .int .i64 (k : Int), u27, u28, u29, u30, u31, u32, u33, u34, u35, u36, u37, .bool true, .bool false, .bool false, .agg cs2.toArray, .agg cs.toArray, .bool true, .bool false, .bool false, .bool false, .int .i64 (k : Int), .bool true, .bool true, .slice (some ⟨b, off, none⟩) n c, .int .i64 (k : Int), .int .i64 (j : Int), .pointer (some ⟨b, off + j * 36, none⟩), .pointer (some ⟨b, off + j * 36, none⟩), .string (strB p), .pointer (some ⟨p7, 0, none⟩), .string (strB nm), .bool false, .bool false, u60, u61, u62, u63, u64, u65, u66, u67, u68, undef, undef, undef, undef, undef, undef, undef, undef, undef, undef, undef, undef, undef, undef, undef, undef, undef, undef, undef, undef], []⟩ := by
            refine (act_lit hsz hdf).trans ?_
            rw [show List.range _ = [0, 1, 2, 3, 4, 5, 6, 7, 8, 9, 10, 11, 12, 13, 14, 15, 16, 17, 18, 19, 20, 21, 22, 23, 24, 25, 26, 27, 28, 29, 30, 31, 32, 33, 34, 35, 36, 37, 38, 39, 40, 41, 42, 43, 44, 45, 46, 47, 48, 49, 50, 51, 52, 53, 54, 55, 56, 57, 58, 59, 60, 61, 62, 63, 64, 65, 66, 67, 68, 69, 70, 71, 72, 73, 74, 75, 76, 77, 78, 79, 80, 81, 82, 83, 84, 85, 86, 87, 88] from rfl]
            simp only [List.map_cons, List.map_nil, f0, f1, f2, f3, f4, f5, f6, f7, f8, f9, f10, f11, f12, f13, f14, f15, f16, f17, f18, f19, f20, f21, f22, f23, f24, f25, f26, f27, f28, f29, f30, f31, f32, f33, f34, f35, f36, f37, f38, f39, f40, f41, f42, f43, f44, f45, f46, f47, f48, f49, f50, f51, f52, f53, f54, f55, f56, f57, f58, f59, f60, f61, f62, f63, f64, f65, f66, f67, f68, f69, f70, f71, f72, f73, f74, f75, f76, f77, f78, f79, f80, f81, f82, f83, f84, f85, f86, f87, f88]
          clear hvals hsame hdf hsz f0 f1 f2 f3 f4 f5 f6 f7 f8 f9 f10 f11 f12 f13 f14 f15 f16 f17 f18 f19 f20 f21 f22 f23 f24 f25 f26 f27 f28 f29 f30 f31 f32 f33 f34 f35 f36 f37 f38 f39 f40 f41 f42 f43 f44 f45 f46 f47 f48 f49 f50 f51 f52 f53 f54 f55 f56 f57 f58 f59 f60 f61 f62 f63 f64 f65 f66 f67 f68 f69 f70 f71 f72 f73 f74 f75 f76 f77 f78 f79 f80 f81 f82 f83 f84 f85 f86 f87 f88
          subst hlit
          simp only [List.drop_succ_cons, List.drop_zero]
          have hnmc := HNM.out _ hx
          have hq := strB_eq nm l
          have hxx := HX3.out.trans' hx
          have HXX := Lib.hid hxx
          clear hxx
          cases t
          · cases hd : decide (nm = l)
            · rw [hd] at hq
              have HHS2 := Lib.hid (show hasN ns l (k + 1) = false by rw [HHS.out, HT.out, hd]; rfl)
              clear hd
              go_wp2_with fail
              go_roundw
              case rel => exact ⟨k + 1, by go_num, by omega, HXX.out, by rw [HHS2.out]⟩
              case measure => simp [intOf]; omega
            · rw [hd] at hq
              have HHS2 := Lib.hid (show hasN ns l (k + 1) = true by rw [HHS.out, HT.out, hd]; rfl)
              clear hd
              go_wp2_with fail
              go_roundw
              case rel => exact ⟨k + 1, by go_num, by omega, HXX.out, by rw [HHS2.out]⟩
              case measure => simp [intOf]; omega
          · have HHS2 := Lib.hid (show hasN ns l (k + 1) = true by rw [HHS.out, HT.out]; rfl)
            clear hq
            go_wp2_with fail
            go_roundw
            case rel => exact ⟨k + 1, by go_num, by omega, HXX.out, by rw [HHS2.out]⟩
            case measure => simp [intOf]; omega
    · have hkn : n = k := by omega
      subst hkn
      have hhf := has_find ns l
      rw [← HN.out] at hhf
      have HHF := Lib.hid hhf
      clear hhf hlt
      go_wp2_with fail
      refine (tfind_any ns _ l wr (HX.out.1.ext0 HXR.out)).mono ?_
      rintro e w5 ⟨hE5, cs5, h5⟩
      have h5' : ∃ t, e = .returned (.tuple #[.agg cs5.toArray, .bool t]) ∧ t = hasN ns l n ∧ cs5.length = 36 ∧ cs5.toArray.all (·.oneCell') = true := by
        rw [← HN.out] at h5
        rcases h5 with ⟨i, h6, h7, h8⟩ | ⟨h6, h7, h8⟩
        · exact ⟨true, h7, by rw [HHF.out, h6]; rfl, h8.length, h8.one⟩
        · exact ⟨false, h7, by rw [HHF.out, h6]; rfl, h8.length, h8.one⟩
      clear h5
      obtain ⟨t5, rfl, ht5, hl5, ho5⟩ := h5'
      subst ht5
      have HS5 := Lib.hid (store_node w5 cs5 hl5 ho5)
      have HE5 := Lib.hid ((HXR.out.trans' hE5).alloc (.cells cs5.toArray 42))
      have hz := strB_size l
      obtain ⟨nl, hnl⟩ : ∃ m, m = l.length := ⟨_, rfl⟩
      have hl2 := hl
      rw [← hnl] at hz hl2
      have hcat : strB l ++ ⟨#[47]⟩ = strB (l ++ [47]) := strB_append l [47]
      clear hl5 ho5 hE5 HXR hnl
      dsimp only
      go_wp2_with ((with_reducible refine wpList_store_at ?_ 42 _ _ rfl ?_ ?_ (HS5.out _ ?_) ?_); rfl; rfl; rfl; rfl)
      have hnone := find_sep HOK.out l
      refine (tfind_any ns _ (l ++ [47]) _ (HX.out.1.ext0 HE5.out)).mono ?_
      rintro e w7 ⟨hE7, cs7, ⟨i7, hf7, -⟩ | ⟨-, rfl, hn7⟩⟩
      case inl => rw [hnone] at hf7; cases hf7
      have HS7 := Lib.hid (store_node w7 cs7 hn7.length hn7.one)
      have HE7 := Lib.hid ((HE5.out.trans' hE7).alloc (.cells cs7.toArray 42))
      clear hn7 hE7 HE5 HS5 hnone hcat hz
      generalize hasN ns l n = t at *
      dsimp only
      cases t
      all_goals go_wp2_with ((with_reducible refine wpList_store_at ?_ 42 _ _ rfl ?_ ?_ (HS7.out _ ?_) ?_); rfl; rfl; rfl; rfl)
      all_goals go_ret
      all_goals exact ⟨rfl, HE7.out⟩
end Go.Proofs.YtefabpgfhghpgaaDoor
end

section
/-
  PROVED HERE: 'Rows.TreeFindsCardSaid' (the tied card): of every input the law 'coldstorelaw10.TreeFinds' answers true, and each argument reads behind the call as it read before. No condition but the form's own.
-/
namespace Go.Proofs.YtefabpgfhghpgaaDoor.treeFinds
open Go.ChangeShapes Go.WideShapes Go.ChangeAt Go.RowKit Go.My
open Go.ChangeMaps (open_string shut_string)
set_option linter.unusedVariables false

theorem own : ownKnob Tryd.prog.godebug = none := by kernel_rfl
theorem laidOut : laidOutB Tryd.prog = true := by kernel_rfl

/-- what the row lists -/
noncomputable def laid : List (String × DataW Unit) := Rows.treeFindsRow.laid
set_option maxRecDepth 100000 in
theorem lifted (os : Os) (started : os.Started) (H : Type) (enc : TypeId × Value → H) :
    ReturnsInHanded {} Tryd.checked os 6 .any (fun w args => (Rows.treeFindsSpec.pre enc Tryd.prog Tryd.f6 [] false w args ∧ laidMetH Tryd.prog laid w) ∧ sizedMet enc Tryd.prog Tryd.f6 (OpenSpec.ofChange Rows.treeFindsSpec) false w args)
      (Rows.treeFindsSpec.post enc Tryd.prog Tryd.f6 false true false false) := by
  refine returnsInHanded_of_change_and (C := Tryd.checked) (X := fun w _ => laidMetH Tryd.prog laid w) (fun _ _ _ hh h => h.of_heap hh) own started (by kernel_rfl) Tryd.func6
    (ChangeSpec.witness_shaped (enc := enc) (C := Tryd.checked) (os := os) (X := fun w _ => laidMetH Tryd.prog laid w) false (World.laidAll Tryd.prog os laid) #[.slice none 0 0, .string ⟨#[]⟩] 8 (World.laidAll_os _ _ _)
      (World.shaped_of_ZipB (by kernel_rfl) (by kernel_rfl)) (by kernel_rfl) (by kernel_rfl) (by kernel_rfl)
      (by rw [MakeChecks.laidMetH_plain _ _ _ (by kernel_rfl)]; exact laidMet_laidAll _ (by kernel_rfl) (by kernel_rfl))) ?_
  intro W base args ds gs before hval0 hW _ hSZ hL _
  have hval : ∀ (j : Nat) t v, Tryd.f6.params[j]? = some t → args[j]? = some v → Value.okWide Tryd.prog W .any base t v := hval0
  have hW' := hW
  obtain ⟨p, q, hA0, hV, rfl, hfz, hnd⟩ := hW
  have hA : DataW.TrodAll enc Tryd.prog W 0 (fun _ => true) true Tryd.f6.params.toList args.toList ds p := hA0
  rw [Tryd.params6] at hA hval
  obtain ⟨v0, vs0, d0, ds0, p0, q0, hargs, rfl, rfl, h0, r0⟩ := trodAll_cons hA
  obtain ⟨v1, vs1, d1, ds1, p1, q1, rfl, rfl, rfl, h1, r1⟩ := trodAll_cons r0
  obtain ⟨rfl, rfl, rfl⟩ := trodAll_nil r1
  obtain rfl : args = #[v0, v1] := by cases args; simp_all
  obtain ⟨rfl, rfl⟩ := trodVars_none hV
  have k0 := h0
  have lt0 : ∀ x ∈ p0, x.block < W.heap.size := by obtain ⟨m, hm⟩ := k0; exact DataW.trod_lt m _ _ _ hm
  have k1 := h1
  have lt1 : ∀ x ∈ p1, x.block < W.heap.size := by obtain ⟨m, hm⟩ := k1; exact DataW.trod_lt m _ _ _ hm
  obtain ⟨a0, ot0⟩ := op_nodes (hval 0 22 v0 rfl rfl) h0
  obtain ⟨a1, rfl, hd1⟩ := op_strZ Tryd.underlying9 (hval 1 9 v1 rfl rfl) h1
  have le1 : a1.length ≤ 140737488351232 := Go.sized_string (P := Tryd.prog) hSZ (j := 1) (by rw [Tryd.params6]; rfl) (by rw [← hd1]; rfl)
  clear hA0 hval0
  refine (treeFinds_fr a0 _ a1 W ot0 le1).mono fun e W' ⟨he, ext⟩ => ?_
  subst he
  have bel := ext.below
  exact ⟨_, rfl, _, _, _, [], _, [], hW', trodAll_mk1 (shut_bool Tryd.underlying4 _), (trodAll_cons_mk (Below.trod laidOut (by kernel_rfl) (of_decide_eq_true (by kernel_rfl)) k0 bel lt0) (trodAll_cons_mk (Below.trod laidOut (by kernel_rfl) (of_decide_eq_true (by kernel_rfl)) k1 bel lt1) trodAll_mk0)), rfl, bel.frame _, fun h => by cases h⟩

theorem over : Rows.treeFindsRow.holds Tryd.pinned (OpenSpec.ofChange Rows.treeFindsSpec) :=
  OpenClaim.holds_of_wide 6 Tryd.f6 rfl rfl rfl rfl rfl rfl rfl ⟨rfl, rfl, rfl, rfl, rfl⟩ rfl rfl rfl rfl rfl (by kernel_rfl) Tryd.func6 (by kernel_rfl)
    (of_decide_eq_true (by kernel_rfl)) (by unfold Func.isWrapper; first | (rw [if_pos (by decide +kernel)]; kernel_rfl) | (rw [if_neg (by decide +kernel)]; exact ⟨rfl, rfl⟩))
    (fun os started H enc _ => lifted os started H enc)

/-- THE STATEMENT: the card over the row, tied to the program's text -/
theorem proved : Rows.TreeFindsCardSaid :=
  Claim7.holds_tied_plain_at .later [] [.data, .pinned] true (true, "971da6edd60431238cee40c381ac6223c40d50f4d6aedc22df960b64bcf27c18") true over (fun _ h => by cases h) (by kernel_rfl) (fun _ h => by cases h) treeFinds_row_tie rfl ⟨rfl, rfl⟩ (by kernel_rfl) rfl
    (fun f fn hf hfn => by
      obtain rfl : f = 6 := Option.some.inj ((show Tryd.prog.funcNamed "coldstore/coldstorelaw10.TreeFinds" = some 6 by kernel_rfl).symm.trans hf) |>.symm
      obtain rfl : fn = Tryd.f6 := (Option.some.inj (Tryd.func6.symm.trans hfn)).symm
      exact ⟨by kernel_rfl, fun j t ht => by
        rw [Tryd.params6] at ht
        have hm : t ∈ [22, 9] := by simpa using Array.mem_of_getElem? ht
        have hall : ([22, 9].all fun u => !Tryd.prog.wantsStandIn u) = true := by kernel_rfl
        exact (show Tryd.prog.wantsStandIn t = false by simpa using List.all_eq_true.1 hall t hm)⟩)
    (by kernel_rfl)
#print axioms proved
end Go.Proofs.YtefabpgfhghpgaaDoor.treeFinds
end
