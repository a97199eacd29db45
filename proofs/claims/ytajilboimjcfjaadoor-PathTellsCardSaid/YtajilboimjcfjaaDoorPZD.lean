/-
  JOINED (4): the statements own helpers; plain laws on paths; arguments, opened.
-/
import Derived.Test.YtajilboimjcfjaaDoorPZC
import Derived.ProofKit
import Derived.OpenShut
import Derived.ShutString
import Derived.ChangeOld
set_option linter.unusedVariables false
set_option linter.unusedSimpArgs false

section
/- The contract of parts (the statements' own function). Printed by wip/mkparts.py. -/
namespace Go.Proofs.YtajilboimjcfjaaDoor
open Go.RowKit Go.My Go.Shelf

attribute [local go_sem] Oper.semAt_some

/-- which blocks a round may turn -/
def UP (b4 b5 b6 D : Nat) (W : World) (j : Nat) : Prop := j = b4 ∨ j = b5 ∨ j = b6 ∨ (D + 2 ≤ j ∧ ∃ cs, Blk W j cs 9)
structure GathP (w W : World) (b3 b4 b5 b6 D : Nat) (most : Int) (l : List UInt8) (k : Nat) : Prop where
  own : ∃ a c, Blk W b5 #[.slice a k c] 30 ∧ W.ownsRow w.heap.size 9 1 (.slice a k c) k (strVs ((partsL l).take k)) ∧ ∀ j, (Value.slice a k c).ownBlock = some j → j = b6 ∨ D + 2 ≤ j
  r3 : Blk W b3 #[.int .i64 most] 3
  r4 : ∃ v, Blk W b4 #[v] 30
  lt : (k : Int) < most
  ext : Ext No w W
structure GathPX (w W : World) (b4 b6 D : Nat) (most : Int) (l : List UInt8) (k : Nat) : Prop where
  own : ∃ v, Blk W b4 #[v] 30 ∧ W.ownsRow w.heap.size 9 1 v k (strVs ((partsL l).take k)) ∧ ∀ j, v.ownBlock = some j → j = b6 ∨ D + 2 ≤ j
  eq : (k : Int) = most
  ext : Ext No w W

set_option maxRecDepth 100000 in
set_option maxHeartbeats 8000000 in
theorem partsS_any (l : List UInt8) (most : Int) (w : World) (hl : l.length ≤ 1000000000) :
    Calls Tryd.prog 23 #[.string (strB l), .int .i64 most] w fun e w' => ∃ v, e = .returned v ∧ w'.ownsRow w.heap.size 9 1 v ((partsL l).take most.toNat).length (strVs ((partsL l).take most.toNat)) ∧ Ext No w w' := by
  obtain ⟨w0, hw0⟩ : ∃ w0, lay w [(#[.int .i64 most], 3), (#[.slice none 0 0], 30), (#[], 9), (#[.slice (some ⟨w.heap.size + 1 + 1, 0, none⟩) 0 0], 30)] = w0 := ⟨_, rfl⟩
  have hx : Ext No w w0 := by rw [← hw0]; exact lay_ext _ (Ext.refl _ _)
  have hsz : w0.heap.size = w.heap.size + 4 := by rw [← hw0]; exact lay_size _ w
  have hb0 := lay_at hw0 0 _ _ rfl
  have hb1 := lay_at hw0 1 _ _ rfl
  have hb2 := lay_at hw0 2 _ _ rfl
  have hb3 := lay_at hw0 3 _ _ rfl
  rw [Nat.add_zero] at hb0
  simp only [lay] at hw0
  have HW0 := Lib.hid hw0; have HX := Lib.hid hx; have HSZ := Lib.hid hsz; have HB := Lib.hid (And.intro hb0 (And.intro hb1 (And.intro hb2 hb3))); have HL := Lib.hid hl
  clear hw0 hx hsz hb0 hb1 hb2 hb3 hl
  refine (callsIn_wide (n := 0)).1 ?_
  refine callsIn_of_wp_marks Tryd.func23 rfl trivial ?_ rfl
  simp only [Tryd.ntmps23, List.size_toArray, List.length_cons, List.length_nil, Nat.reduceAdd, Nat.reduceSub, Array.replicate_succ, Array.replicate_zero, List.push_toArray, List.append_toArray, List.nil_append, List.cons_append]
  by_cases hm : most ≤ 0
  · obtain ⟨w9, hw9⟩ : ∃ w9, lay w [(#[.int .i64 most], 3), (#[.slice (some ⟨w.heap.size + 1 + 1, 0, none⟩) 0 0], 30), (#[], 9), (#[.slice (some ⟨w.heap.size + 1 + 1, 0, none⟩) 0 0], 30)] = w9 := ⟨_, rfl⟩
    have hx9 : Ext No w w9 := by rw [← hw9]; exact lay_ext _ (Ext.refl _ _)
    have hr := (lay_at hw9 1 _ _ rfl).cell 0
    simp only [List.getElem?_toArray, List.getElem?_cons_zero] at hr
    have hb2 := lay_at hw9 2 _ _ rfl
    simp only [lay] at hw9
    have HW9 := Lib.hid hw9; have HX9 := Lib.hid hx9; have HB2 := Lib.hid hb2
    clear hw9 hx9 hb2
    gi_wp2_with fail
    rw [HW9.out]
    rw [show most.toNat = 0 by omega, List.take_zero]
    exact ⟨.slice (some ⟨w.heap.size + 1 + 1, 0, none⟩) 0 0, by simp [results, Tryd.func23, Tryd.f23, go_sem, hr], _, rfl, ⟨rfl, .inr ⟨_, 0, #[], rfl, by omega, HB2.out, by simp, by decide, by simp, by simp [strVs]⟩⟩, HX9.out⟩
  · have hm' : decide (most ≤ 0) = false := by simp; omega
    gi_wp2_with fail
    rw [HW0.out]; clear HW0
    refine ⟨trivial, rfl, (callsIn_wide.2 (parts_any l _)).mono ?_⟩
    rintro e w1 ⟨hE1, bp, bs, bv, rfl, hbp, hbs, hbv, hn1, h1, h2, h3⟩
    have hX1 := HX.out.trans' hE1
    have hz := HSZ.out
    have hlts := hbs.lt; have hltp := hbp.lt; have hltv := hbv.lt
    obtain ⟨B, hB⟩ : ∃ B, w.heap.size = B := ⟨_, rfl⟩
    have hseq := split1_seq l bp bs bv w1 hbp hbs hbv (by have := HL.out; omega) hn1 (fun W j => UP (w.heap.size + 1) (w.heap.size + 1 + 1 + 1) (w.heap.size + 1 + 1) w1.heap.size W j ∨ j = w1.heap.size ∨ j = w1.heap.size + 1) (fun W => by
      refine ⟨?_, ?_, ?_⟩ <;> (rintro ((h | h | h | ⟨h, -⟩) | h | h) <;> omega))
    have hg0 : GathP w w1 w.heap.size (w.heap.size + 1) (w.heap.size + 1 + 1 + 1) (w.heap.size + 1 + 1) w1.heap.size most l 0 := by
      obtain ⟨hb0, hb1, hb2, hb3⟩ := HB.out
      refine ⟨⟨_, _, hb3.ext hE1 (fun s => s), ⟨rfl, .inr ⟨_, 0, #[], rfl, by omega, hb2.ext hE1 (fun s => s), by simp, by decide, by simp, by simp [strVs]⟩⟩, fun j hj => .inl (Option.some.inj hj).symm⟩, hb0.ext hE1 (fun s => s), ⟨_, hb1.ext hE1 (fun s => s)⟩, by omega, hX1⟩
    have HSEQ := Lib.hid hseq; have HG0 := Lib.hid hg0
    have HLT := Lib.hid (show w.heap.size + 4 ≤ bs ∧ bs < w1.heap.size ∧ w.heap.size + 4 ≤ w1.heap.size by have := hE1.size; omega)
    clear hseq hg0 hX1 hz hlts hltp hltv hbp hbs hbv hn1 h1 h2 h3 hE1 HX HSZ HB hB
    dsimp only
    generalize h5 : w.heap.size + 1 + 1 + 1 = b5 at *
    generalize h6 : w.heap.size + 1 + 1 = b6 at *
    generalize h4 : w.heap.size + 1 = b4 at *
    have HBS := Lib.hid (And.intro h4 (And.intro h5 h6))
    clear h4 h5 h6
    gi_wp2_with fail
    refine wpIn_rangeW (gf := 54) (lb := #[.pointer (some ⟨bp, 0, none⟩), .pointer (some ⟨bs, 0, none⟩), .pointer (some ⟨bv, 0, none⟩)]) rfl (enters_of Tryd.func54 (by kernel_rfl) rfl)
      (UP b4 b5 b6 w1.heap.size) (fun j => j = bs) (N := (partsL l).length) HSEQ.out ?hUp ?hFin ?hps ?hA ?hU0 ?hU1 ?hS0 ?hS1
      (fun k W => GathP w W w.heap.size b4 b5 b6 w1.heap.size most l k) (fun c k W => c = .ret ∧ GathPX w W b4 b6 w1.heap.size most l k) ?hI ?hIx HG0.out
      (fun args => { tmps := #[.string (strB l), .int .i64 most, undef, .pointer (some ⟨w.heap.size, 0, none⟩), .pointer (some ⟨b4, 0, none⟩), .pointer (some ⟨b5, 0, none⟩), args.getD 0 undef, .slice (some ⟨b6, 0, none⟩) 0 0, .int .i64 most, .bool false, undef, .string (strB l), .func (.func 54) #[] #[.pointer (some ⟨bp, 0, none⟩), .pointer (some ⟨bs, 0, none⟩), .pointer (some ⟨bv, 0, none⟩)], args.getD 0 undef, undef, undef, undef, undef, undef, undef, undef, undef, undef, undef], defers := [] })
      ?assign ?body ?done ?stop
    case hUp =>
      intro W o r k hr hU
      rcases hU with hU | hU | hU | ⟨hk, cs, hb⟩
      · exact .inl (.inl hU)
      · exact .inl (.inr (.inl hU))
      · exact .inl (.inr (.inr (.inl hU)))
      · refine .inl (.inr (.inr (.inr ⟨hk, cs, ?_⟩)))
        unfold Blk at hb ⊢
        rw [World.putObj_heap_other (by omega)] at hb; exact hb
    case hFin => intro A B _ _; trivial
    case hps => rintro k args W h; unfold HandedP at h; subst h; rfl
    case hA => rintro k args W r o h hl; exact h
    case hU0 => obtain ⟨h0, h1, h2⟩ := HLT.out; obtain ⟨g0, g1, g2⟩ := HBS.out; rintro W (h | h | h | ⟨h, -⟩) <;> omega
    case hU1 => obtain ⟨h0, h1, h2⟩ := HLT.out; obtain ⟨g0, g1, g2⟩ := HBS.out; rintro W (h | h | h | ⟨h, -⟩) <;> omega
    case hS0 => obtain ⟨h0, h1, h2⟩ := HLT.out; intro h; omega
    case hS1 => obtain ⟨h0, h1, h2⟩ := HLT.out; intro h; omega
    case hI =>
      obtain ⟨h0, h1, h2⟩ := HLT.out
      obtain ⟨g0, g1, g2⟩ := HBS.out
      rintro k A B ⟨⟨a, c, hb, ho, hj⟩, h3, ⟨v4, h4⟩, hlt, he⟩ hE
      refine ⟨⟨a, c, hb.extN hE (fun s => by omega), own_extN ho hE (fun k hk s => ?_), hj⟩, h3.extN hE (fun s => by omega), ⟨v4, h4.extN hE (fun s => by omega)⟩, hlt, he.trans hE (fun _ _ s => s) (fun j hj s => s.elim (fun s => by omega) (fun s => by omega))⟩
      have := hj k hk
      omega
    case hIx =>
      obtain ⟨h0, h1, h2⟩ := HLT.out
      obtain ⟨g0, g1, g2⟩ := HBS.out
      rintro c k A B ⟨rfl, ⟨v, h4, ho, hj⟩, heq, he⟩ hE
      refine ⟨rfl, ⟨v, h4.extN hE (fun s => by omega), own_extN ho hE (fun k hk s => ?_), hj⟩, heq, he.trans hE (fun _ _ s => s) (fun j hj s => s.elim (fun s => by omega) (fun s => by omega))⟩
      have := hj k hk
      omega
    case assign =>
      rintro y k args W K h hK
      unfold HandedP at h
      subst h
      gi_wp2_with fail
      exact hK
    case body =>
      rintro y k args W hkN hg h hsz
      unfold HandedP at h
      subst h
      obtain ⟨h0, h1, h2⟩ := HLT.out
      obtain ⟨g0, g1, g2⟩ := HBS.out
      have hst := strVs_take (partsL l) k hkN
      have hcn := partsL_count l
      have hll := HL.out
      generalize (partsL l).getD k [] = s at *
      obtain ⟨⟨a, c, hb, ho, hj⟩, h3, ⟨v4, h4⟩, hlt, he⟩ := hg
      have HO := Lib.hid (ho.alloc (.cells #[.string (strB s)] 9)); have HB5 := Lib.hid (hb.alloc (.cells #[.string (strB s)] 9)); have HB3 := Lib.hid (h3.alloc (.cells #[.string (strB s)] 9)); have HB4 := Lib.hid (h4.alloc (.cells #[.string (strB s)] 9))
      have HN5 := Lib.hid (own_ne_type HO.out HB5.out (by decide)); have HN4 := Lib.hid (own_ne_type HO.out HB4.out (by decide)); have HN3 := Lib.hid (own_ne_type HO.out HB3.out (by decide))
      have HNM := Lib.hid (show k + 1 ≤ 9223372036854775807 ∧ (k + 1) * 16 ≤ 140737488355328 by omega)
      have HZ := Lib.hid (show w.heap.size ≤ (W.alloc (.cells #[.string (strB s)] 9)).heap.size by rw [World.size_alloc]; omega)
      have HST := Lib.hid hst; have HE := Lib.hid he; have HJ := Lib.hid hj; have HSZ := Lib.hid hsz; have HOW := Lib.hid ho
      have hcb := hb.cell 0; have hfb := hb.free 0
      simp only [List.getElem?_toArray, List.getElem?_cons_zero] at hcb
      have hn45 : b4 ≠ b5 := by omega
      have hn54 : b5 ≠ b4 := by omega
      have hn53 : b5 ≠ w.heap.size := by omega
      have hn35 : w.heap.size ≠ b5 := by omega
      have hn34 : w.heap.size ≠ b4 := by omega
      have hn43 : b4 ≠ w.heap.size := by omega
      have hmxo : Tryd.prog.follows .mixedOrders = true := by kernel_rfl
      clear hst hcn hll hb ho hj he h3 h4 h0 h1 h2 g0 g1 g2 hsz
      by_cases hme : (k : Int) + 1 = most
      · have hd2 : ((k : Int) + 1 == most) = true := by simpa using hme
        have HME := Lib.hid hme; clear hme
        gi_wp2_with (gi_at_builtin; refine wpListIn_app1 _ _ rfl _ _ 30 rfl w.heap.size 9 _ _ str_info Tryd.underlying30 rfl _ _ _ rfl HO.out _ rfl (cell_new _ _ _ rfl) rfl HNM.out.1 HNM.out.2 HZ.out ?_; intro v' w2 hown hgrow hat; obtain ⟨a6, c6, rfl⟩ := own_form hown; have hd5 := (HB5.out.grown hgrow HN5.out).cell 0; have hg5 := (HB5.out.grown hgrow HN5.out).free 0; have hd3 := (HB3.out.grown hgrow HN3.out).cell 0; have hd4 := (HB4.out.grown hgrow HN4.out).cell 0; have hg4 := (HB4.out.grown hgrow HN4.out).free 0; simp only [List.getElem?_toArray, List.getElem?_cons_zero] at hd5 hd3 hd4)
        obtain ⟨h0, h1, h2⟩ := HLT.out
        obtain ⟨g0, g1, g2⟩ := HBS.out
        have hsz := HSZ.out
        have hb5 := HB5.out.grown hgrow HN5.out; have hb4 := HB4.out.grown hgrow HN4.out; have hb3 := HB3.out.grown hgrow HN3.out
        have hne5 := own_ne_type hown hb5 (by decide); have hne4 := own_ne_type hown hb4 (by decide)
        have hU0 : Ext (UP b4 b5 b6 w1.heap.size W) W w2 := ((Ext.refl _ W).alloc _).grown hgrow (fun j hj _ => by
          rcases HJ.out j hj with h | h
          · exact .inr (.inr (.inl h))
          · exact .inr (.inr (.inr ⟨h, own_blkS HOW.out hj⟩)))
        have hj6 : ∀ j, (Value.slice a6 (k + 1) c6).ownBlock = some j → j = b6 ∨ w1.heap.size + 2 ≤ j := fun j hj => by
          rcases hat with h | h
          · exact HJ.out j (h ▸ hj)
          · rw [h] at hj
            have := Option.some.inj hj
            rw [World.size_alloc] at this; omega
        have hU : Ext (UP b4 b5 b6 w1.heap.size W) W ((w2.setCell ⟨b5, 0, none⟩ (.slice a6 (k + 1) c6)).setCell ⟨b4, 0, none⟩ (.slice a6 (k + 1) c6)) := (hU0.setCell _ _ (fun _ => .inr (.inl rfl))).setCell _ _ (fun _ => .inl rfl)
        have hS : Ext (fun j => j = b5 ∨ j = b4) w2 ((w2.setCell ⟨b5, 0, none⟩ (.slice a6 (k + 1) c6)).setCell ⟨b4, 0, none⟩ (.slice a6 (k + 1) c6)) := ((Ext.refl _ w2).setCell _ _ (fun _ => .inl rfl)).setCell _ _ (fun _ => .inr rfl)
        refine ⟨hU, rfl, ⟨_, (hb4.set_other ⟨b5, 0, none⟩ (.slice a6 (k + 1) c6) hn45).set 0 (.slice a6 (k + 1) c6), ?_, hj6⟩, ?_, HE.out.trans hU (fun _ _ s => s) (fun j hj s => ?_)⟩
        · rw [HST.out]; exact own_ext hown hS (fun j hj s => s.elim (fun s => hne5 (by rw [hj, s])) (fun s => hne4 (by rw [hj, s])))
        · have := HME.out; omega
        · rcases s with s | s | s | ⟨s, -⟩ <;> omega
      · have hd2 : ((k : Int) + 1 == most) = false := by simpa using hme
        have HME := Lib.hid hme; clear hme
        gi_wp2_with (gi_at_builtin; refine wpListIn_app1 _ _ rfl _ _ 30 rfl w.heap.size 9 _ _ str_info Tryd.underlying30 rfl _ _ _ rfl HO.out _ rfl (cell_new _ _ _ rfl) rfl HNM.out.1 HNM.out.2 HZ.out ?_; intro v' w2 hown hgrow hat; obtain ⟨a6, c6, rfl⟩ := own_form hown; have hd5 := (HB5.out.grown hgrow HN5.out).cell 0; have hg5 := (HB5.out.grown hgrow HN5.out).free 0; have hd3 := (HB3.out.grown hgrow HN3.out).cell 0; have hd4 := (HB4.out.grown hgrow HN4.out).cell 0; have hg4 := (HB4.out.grown hgrow HN4.out).free 0; simp only [List.getElem?_toArray, List.getElem?_cons_zero] at hd5 hd3 hd4)
        obtain ⟨h0, h1, h2⟩ := HLT.out
        obtain ⟨g0, g1, g2⟩ := HBS.out
        have hsz := HSZ.out
        have hb5 := HB5.out.grown hgrow HN5.out; have hb4 := HB4.out.grown hgrow HN4.out; have hb3 := HB3.out.grown hgrow HN3.out
        have hne5 := own_ne_type hown hb5 (by decide); have hne4 := own_ne_type hown hb4 (by decide)
        have hU0 : Ext (UP b4 b5 b6 w1.heap.size W) W w2 := ((Ext.refl _ W).alloc _).grown hgrow (fun j hj _ => by
          rcases HJ.out j hj with h | h
          · exact .inr (.inr (.inl h))
          · exact .inr (.inr (.inr ⟨h, own_blkS HOW.out hj⟩)))
        have hj6 : ∀ j, (Value.slice a6 (k + 1) c6).ownBlock = some j → j = b6 ∨ w1.heap.size + 2 ≤ j := fun j hj => by
          rcases hat with h | h
          · exact HJ.out j (h ▸ hj)
          · rw [h] at hj
            have := Option.some.inj hj
            rw [World.size_alloc] at this; omega
        have hU : Ext (UP b4 b5 b6 w1.heap.size W) W (w2.setCell ⟨b5, 0, none⟩ (.slice a6 (k + 1) c6)) := hU0.setCell _ _ (fun _ => .inr (.inl rfl))
        have hS : Ext (fun j => j = b5) w2 (w2.setCell ⟨b5, 0, none⟩ (.slice a6 (k + 1) c6)) := (Ext.refl _ w2).setCell _ _ (fun _ => rfl)
        refine ⟨hU, ⟨a6, c6, hb5.set 0 (.slice a6 (k + 1) c6), ?_, hj6⟩, hb3.set_other _ _ hn35, ⟨_, hb4.set_other _ _ hn45⟩, ?_, HE.out.trans hU (fun _ _ s => s) (fun j hj s => ?_)⟩
        · rw [HST.out]; exact own_ext hown hS (fun j hj s => hne5 (by rw [hj, s]))
        · have := HME.out; omega
        · rcases s with s | s | s | ⟨s, -⟩ <;> omega
    case done =>
      rintro W ⟨⟨a, c, hb, ho, hj⟩, h3, ⟨v4, h4⟩, hlt, he⟩ _ hK
      rw [List.take_length] at ho
      have hcb := hb.cell 0; have hcb4 := h4.cell 0; have hfb4 := h4.free 0
      simp only [List.getElem?_toArray, List.getElem?_cons_zero] at hcb hcb4
      have HO := Lib.hid ho; have HB4 := Lib.hid h4; have HB5 := Lib.hid hb; have HE := Lib.hid he; have HK := Lib.hid hK; have HT := Lib.hid hlt
      clear hb ho hj h3 h4 he hK hlt
      gi_wp2_with fail
      obtain ⟨h0, h1, h2⟩ := HLT.out
      obtain ⟨g0, g1, g2⟩ := HBS.out
      have hs : Ext (fun j => j = b4) W (W.setCell ⟨b4, 0, none⟩ (.slice a (partsL l).length c)) := (Ext.refl _ W).setCell _ _ (fun _ => rfl)
      have hE : Ext No w (W.setCell ⟨b4, 0, none⟩ (.slice a (partsL l).length c)) := HE.out.trans hs (fun _ _ s => s) (fun j hj s => by omega)
      have hb4 := HB4.out.set 0 (.slice a (partsL l).length c)
      have hne4 := own_ne_type HO.out HB4.out (by decide)
      have ho4 := own_ext HO.out hs (fun j hj s => hne4 (by rw [hj, s]))
      have hK1 := (hs.block w1.heap.size (Array.getElem?_eq_some_iff.1 HK.out).1 (by omega)).trans HK.out
      generalize W.setCell ⟨b4, 0, none⟩ (.slice a (partsL l).length c) = W4 at *
      refine ⟨by simp, .inl ⟨_, _, rfl, run_takeDeferred hK1, ?_⟩⟩
      have hxp : Ext (fun j => No j ∨ (j = w1.heap.size ∧ NC W4 j)) W4 (W4.putObj w1.heap.size (.deferred none)) := Ext.putObjN _ _ _ (NC.defs hK1)
      have hr := (hb4.extN hxp (fun h => h)).cell 0
      simp at hr
      have hE2 : Ext No w (W4.putObj w1.heap.size (.deferred none)) := hE.trans hxp (fun _ _ s => s) (fun j hj s => s.elim id (fun s => by omega))
      rw [List.take_of_length_le (by have := HT.out; omega)]
      exact ⟨.slice a (partsL l).length c, by simp [results, Tryd.func23, Tryd.f23, go_sem, hr], _, rfl, own_extN (S := No) ho4 hxp (fun _ _ s => s), hE2⟩
    case stop =>
      rintro c k W4 hk ⟨rfl, ⟨v, hb4, ho, hj⟩, heq, hE⟩ _ hK1
      have HB4 := Lib.hid hb4; have HE := Lib.hid hE; have HK := Lib.hid hK1; have HO := Lib.hid ho; have HEQ := Lib.hid heq
      clear hb4 hE hK1 ho hj heq
      gi_wp2_with fail
      refine ⟨by simp, .inl ⟨_, _, rfl, run_takeDeferred HK.out, ?_⟩⟩
      obtain ⟨h0, h1, h2⟩ := HLT.out
      have hE := HE.out; have hb4 := HB4.out; have hK1 := HK.out
      have hxp : Ext (fun j => No j ∨ (j = w1.heap.size ∧ NC W4 j)) W4 (W4.putObj w1.heap.size (.deferred none)) := Ext.putObjN _ _ _ (NC.defs hK1)
      have hr := (hb4.extN hxp (fun h => h)).cell 0
      simp at hr
      have hE2 : Ext No w (W4.putObj w1.heap.size (.deferred none)) := hE.trans hxp (fun _ _ s => s) (fun j hj s => s.elim id (fun s => by omega))
      have hkl : ((partsL l).take k).length = k := by rw [List.length_take]; omega
      rw [show most.toNat = k by have := HEQ.out; omega, hkl]
      exact ⟨v, by simp [results, Tryd.func23, Tryd.f23, go_sem, hr], _, rfl, own_extN (S := No) HO.out hxp (fun _ _ s => s), hE2⟩

end Go.Proofs.YtajilboimjcfjaaDoor
end

section
/- The contract of alive (chapter 05). Printed by wip/mkpalive.py. -/
namespace Go.Proofs.YtajilboimjcfjaaDoor
open Go.RowKit Go.My

theorem al_clean1 : cleanL [97, 47, 47, 98, 47, 46, 47, 46, 46, 47, 99] = some [97, 47, 99] := by decide +kernel
theorem al_clean2 : cleanL [97, 47, 46, 46, 47, 46, 46] = none := by decide +kernel
theorem al_check1 : checkE [97, 47, 99] = 0 := by decide +kernel
theorem al_check2 : checkE [97, 47, 47, 99] = 38 := by decide +kernel
theorem al_parent : parentL [97, 47, 98, 47, 99] = [97, 47, 98] := by decide +kernel
theorem al_base : baseL [97, 47, 98, 47, 99] = [99] := by decide +kernel
theorem al_less : lessB [97, 47, 98] [97, 46, 98] = true := by decide +kernel
theorem al_within1 : withinB [97, 47, 98] [97] = true := by decide +kernel
theorem al_within2 : withinB [97, 98] [97] = false := by decide +kernel
theorem al_parts : ((partsL [97, 47, 98]).take (Int.toNat 9)).length = 2 := by decide +kernel

set_option maxRecDepth 100000 in
set_option maxHeartbeats 8000000 in
theorem alive_any (w : World) : Calls Tryd.prog 8 #[] w fun e w' => e = .returned (.bool true) ∧ Ext No w w' := by
  go_enter Tryd.func8, Tryd.ntmps8
  go_wp2_with fail
  refine (clean_any [97, 47, 47, 98, 47, 46, 47, 46, 46, 47, 99] w (by decide)).mono ?_
  rintro e w1 ⟨hE1, ⟨c, hc, rfl⟩ | ⟨hc, -⟩⟩
  case inr => rw [al_clean1] at hc; cases hc
  rw [al_clean1] at hc
  obtain rfl := Option.some.inj hc
  have HE1 := Lib.hid hE1
  clear hc hE1
  have e1 : strB [97, 47, 99] = ⟨#[97, 47, 99]⟩ := rfl
  rw [e1]
  clear e1
  dsimp only
  go_wp2_with fail
  refine (clean_any [97, 47, 46, 46, 47, 46, 46] w1 (by decide)).mono ?_
  rintro e w2 ⟨hE2, ⟨c, hc, -⟩ | ⟨-, rfl⟩⟩
  case inl => rw [al_clean2] at hc; cases hc
  have HE2 := Lib.hid (HE1.out.trans' hE2)
  clear HE1 hE2
  dsimp only
  go_wp2_with fail
  refine (check_any [97, 47, 99] w2 (by decide)).mono ?_
  rintro e w3 ⟨rfl, hE⟩
  rw [al_check1]
  have HE3 := Lib.hid (HE2.out.trans' hE)
  clear hE HE2
  dsimp only
  go_wp2_with fail
  refine (check_any [97, 47, 47, 99] w3 (by decide)).mono ?_
  rintro e w4 ⟨rfl, hE⟩
  rw [al_check2]
  have HE4 := Lib.hid (HE3.out.trans' hE)
  clear hE HE3
  dsimp only
  go_wp2_with fail
  refine (parent_any [97, 47, 98, 47, 99] w4 (by decide)).mono ?_
  rintro e w' ⟨rfl, rfl⟩
  rw [al_parent]
  rw [show strB [97, 47, 98] = ⟨#[97, 47, 98]⟩ from rfl]
  dsimp only
  go_wp2_with fail
  refine (base_any [97, 47, 98, 47, 99] w4 (by decide)).mono ?_
  rintro e w' ⟨rfl, rfl⟩
  rw [al_base]
  rw [show strB [99] = ⟨#[99]⟩ from rfl]
  dsimp only
  go_wp2_with fail
  refine (join_any [97] [98] w4 (by decide)).mono ?_
  rintro e w' ⟨rfl, rfl⟩
  rw [show strB (if [97] = ([] : List UInt8) then [98] else [97] ++ 47 :: [98]) = ⟨#[97, 47, 98]⟩ from rfl]
  dsimp only
  go_wp2_with fail
  refine (join_any [] [98] w4 (by decide)).mono ?_
  rintro e w' ⟨rfl, rfl⟩
  rw [show strB (if ([] : List UInt8) = [] then [98] else [] ++ 47 :: [98]) = ⟨#[98]⟩ from rfl]
  dsimp only
  go_wp2_with fail
  refine (less_any [97, 47, 98] [97, 46, 98] w4 (by decide) (by decide)).mono ?_
  rintro e w5 ⟨rfl, hE⟩
  rw [al_less]
  have HE5 := Lib.hid (HE4.out.trans' hE)
  clear hE HE4
  dsimp only
  go_wp2_with fail
  refine (within_any [97, 47, 98] [97] w5 (by decide) (by decide)).mono ?_
  rintro e w' ⟨rfl, rfl⟩
  rw [al_within1]
  dsimp only
  go_wp2_with fail
  refine (within_any [97, 98] [97] w5 (by decide) (by decide)).mono ?_
  rintro e w' ⟨rfl, rfl⟩
  rw [al_within2]
  dsimp only
  go_wp2_with fail
  refine (partsS_any [97, 47, 98] 9 w5 (by decide)).mono ?_
  rintro e w9 ⟨v, rfl, ho, hE⟩
  rw [al_parts] at ho
  obtain ⟨av, cv, rfl⟩ := own_form ho
  have HE9 := Lib.hid (HE5.out.trans' hE)
  clear ho hE HE5
  dsimp only
  go_wp2_with fail
  go_ret
  exact ⟨rfl, HE9.out⟩

end Go.Proofs.YtajilboimjcfjaaDoor
end

section
/- Plain laws of chapter 05: the order of paths. No walk. -/
namespace Go.Proofs.YtajilboimjcfjaaDoor
open Go.RowKit Go.My

theorem glue_parts (l : List UInt8) : glueL (partsL l) = l := by
  induction l with
  | nil => rfl
  | cons c l ih =>
    rw [partsL]
    by_cases hc : c = 47
    · rw [if_pos hc]
      cases hp : partsL l with
      | nil => exact absurd hp (partsL_ne l)
      | cons p ps =>
        rw [glueL_cons, ← hp, ih, hc]; rfl
    · rw [if_neg hc]
      cases hp : partsL l with
      | nil => exact absurd hp (partsL_ne l)
      | cons p ps =>
        rw [hp] at ih
        cases ps with
        | nil => show c :: p = c :: l; rw [← ih]; rfl
        | cons q qs =>
          show (c :: p) ++ 47 :: glueL (q :: qs) = c :: l
          rw [← ih]; rfl
theorem parts_inj {a b : List UInt8} (h : partsL a = partsL b) : a = b := by rw [← glue_parts a, ← glue_parts b, h]
theorem parts_append (a r : List UInt8) : partsL (a ++ 47 :: r) = partsL a ++ partsL r := by
  induction a with
  | nil => rfl
  | cons c l ih =>
    show partsL (c :: (l ++ 47 :: r)) = _
    rw [partsL, partsL, ih]
    by_cases hc : c = 47
    · rw [if_pos hc, if_pos hc]; rfl
    · rw [if_neg hc, if_neg hc]
      cases hp : partsL l with
      | nil => exact absurd hp (partsL_ne l)
      | cons p ps => rfl

theorem parts_free (l : List UInt8) : ∀ p ∈ partsL l, (47 : UInt8) ∉ p := by
  induction l with
  | nil => intro p hp; rw [partsL] at hp; rw [List.mem_singleton.1 hp]; simp
  | cons c l ih =>
    intro p hp
    rw [partsL] at hp
    split at hp
    · rcases List.mem_cons.1 hp with rfl | hp
      · simp
      · exact ih p hp
    · rename_i hc
      split at hp
      · rw [List.mem_singleton.1 hp]
        intro h
        exact hc (List.mem_singleton.1 h).symm
      · rename_i q ps hq
        rw [hq] at ih
        rcases List.mem_cons.1 hp with rfl | hp
        · intro h
          rcases List.mem_cons.1 h with h | h
          · exact hc h.symm
          · exact ih q (List.mem_cons_self ..) h
        · exact ih p (List.mem_cons_of_mem _ hp)
theorem parts_of_free (p : List UInt8) (h : (47 : UInt8) ∉ p) : partsL p = [p] := by
  induction p with
  | nil => rfl
  | cons c p ih =>
    rw [partsL, if_neg (fun hc => h (by rw [hc]; exact List.mem_cons_self ..)), ih (fun hp => h (List.mem_cons_of_mem _ hp))]
theorem parts_glue (Y : List (List UInt8)) (hY : Y ≠ []) (h : ∀ p ∈ Y, (47 : UInt8) ∉ p) : partsL (glueL Y) = Y := by
  induction Y with
  | nil => exact absurd rfl hY
  | cons p ps ih =>
    cases ps with
    | nil => exact parts_of_free p (h p (List.mem_cons_self ..))
    | cons q qs =>
      rw [glueL_cons, parts_append, parts_of_free p (h p (List.mem_cons_self ..)), ih (by simp) (fun x hx => h x (List.mem_cons_of_mem _ hx))]
      rfl

theorem bl_irrefl (l : List UInt8) : Op.bytesLess l l = false := by
  induction l with
  | nil => rfl
  | cons c l ih => unfold Op.bytesLess; rw [ih]; simp
theorem bl_tri (l k : List UInt8) : Op.bytesLess l k = true ∨ l = k ∨ Op.bytesLess k l = true := by
  induction l generalizing k with
  | nil => cases k with
    | nil => exact .inr (.inl rfl)
    | cons => exact .inl rfl
  | cons c l ih => cases k with
    | nil => exact .inr (.inr rfl)
    | cons d k =>
      unfold Op.bytesLess
      rcases Nat.lt_trichotomy c.toNat d.toNat with h | h | h
      · left; simp [UInt8.lt_iff_toNat_lt.2 h]
      · have hcd : c = d := UInt8.toNat_inj.1 h
        subst hcd
        rcases ih k with h1 | h1 | h1
        · left; simp [h1]
        · right; left; rw [h1]
        · right; right; simp [h1]
      · right; right; simp [UInt8.lt_iff_toNat_lt.2 h]
theorem bl_trans (l k m : List UInt8) (h1 : Op.bytesLess l k = true) (h2 : Op.bytesLess k m = true) : Op.bytesLess l m = true := by
  induction l generalizing k m with
  | nil =>
    cases m with
    | nil => cases k <;> cases h2
    | cons => rfl
  | cons c l ih =>
    cases k with
    | nil => cases h1
    | cons d k =>
      cases m with
      | nil => cases h2
      | cons f m =>
        unfold Op.bytesLess at h1 h2 ⊢
        simp only [Bool.or_eq_true, decide_eq_true_eq, Bool.and_eq_true, beq_iff_eq] at h1 h2 ⊢
        rcases h1 with h1 | ⟨rfl, h1⟩
        · rcases h2 with h2 | ⟨rfl, h2⟩
          · left; exact UInt8.lt_iff_toNat_lt.2 (Nat.lt_trans (UInt8.lt_iff_toNat_lt.1 h1) (UInt8.lt_iff_toNat_lt.1 h2))
          · left; exact h1
        · rcases h2 with h2 | ⟨rfl, h2⟩
          · left; exact h2
          · right; exact ⟨rfl, ih k m h1 h2⟩
theorem bl_asymm (l k : List UInt8) (h1 : Op.bytesLess l k = true) : Op.bytesLess k l = false := by
  cases h : Op.bytesLess k l with
  | false => rfl
  | true => have := bl_trans l k l h1 h; rw [bl_irrefl] at this; cases this
theorem cmpL_zero (l k : List UInt8) : cmpL l k = 0 ↔ l = k := by
  unfold cmpL
  constructor
  · intro h
    split at h
    · cases h
    · split at h
      · assumption
      · cases h
  · rintro rfl
    rw [bl_irrefl, if_neg (by decide), if_pos rfl]
theorem cmpL_neg (l k : List UInt8) : cmpL k l = - cmpL l k := by
  unfold cmpL
  by_cases he : l = k
  · subst he; rw [bl_irrefl, if_neg (by decide), if_pos rfl]; rfl
  · rw [if_neg he, if_neg (show ¬ k = l from fun h => he h.symm)]
    rcases bl_tri l k with h | h | h
    · rw [h, bl_asymm l k h]; rfl
    · exact absurd h he
    · rw [h, bl_asymm k l h]; rfl
theorem cmpL_lt (l k : List UInt8) : cmpL l k < 0 ↔ Op.bytesLess l k = true := by
  unfold cmpL
  constructor
  · intro h
    split at h
    · assumption
    · split at h
      · exact absurd h (by decide)
      · exact absurd h (by decide)
  · intro h; rw [if_pos h]; decide
theorem cmpLs_neg : ∀ ls ks, cmpLs ks ls = - cmpLs ls ks := by
  intro ls
  induction ls with
  | nil => intro ks; cases ks <;> rfl
  | cons x xs ih =>
    intro ks
    cases ks with
    | nil => rfl
    | cons y ys =>
      show (if cmpL y x = 0 then cmpLs ys xs else cmpL y x) = -(if cmpL x y = 0 then cmpLs xs ys else cmpL x y)
      have h := cmpL_neg x y
      by_cases h0 : cmpL x y = 0
      · rw [if_pos h0, if_pos (by omega)]; exact ih ys
      · rw [if_neg h0, if_neg (by omega)]; exact h
theorem cmpLs_zero : ∀ ls ks, cmpLs ls ks = 0 ↔ ls = ks := by
  intro ls
  induction ls with
  | nil =>
    intro ks
    cases ks with
    | nil => exact ⟨fun _ => rfl, fun _ => rfl⟩
    | cons => exact ⟨fun h => absurd h (by show ¬ ((-1 : Int) = 0); decide), fun h => by cases h⟩
  | cons x xs ih =>
    intro ks
    cases ks with
    | nil => exact ⟨fun h => absurd h (by show ¬ ((1 : Int) = 0); decide), fun h => by cases h⟩
    | cons y ys =>
      show (if cmpL x y = 0 then cmpLs xs ys else cmpL x y) = 0 ↔ _
      by_cases h0 : cmpL x y = 0
      · rw [if_pos h0, ih ys, (cmpL_zero x y).1 h0]
        exact ⟨fun h => by rw [h], fun h => (List.cons.inj h).2⟩
      · rw [if_neg h0]
        exact ⟨fun h => absurd h h0, fun h => absurd ((cmpL_zero x y).2 (List.cons.inj h).1) h0⟩
theorem cmpLs_trans : ∀ ls ks ms, cmpLs ls ks < 0 → cmpLs ks ms < 0 → cmpLs ls ms < 0 := by
  intro ls
  induction ls with
  | nil =>
    intro ks ms h1 h2
    cases ms with
    | nil => cases ks with
      | nil => exact h2
      | cons => exact absurd h2 (by show ¬ ((1 : Int) < 0); decide)
    | cons => show (-1 : Int) < 0; decide
  | cons x xs ih =>
    intro ks ms h1 h2
    cases ks with
    | nil => exact absurd h1 (by show ¬ ((1 : Int) < 0); decide)
    | cons y ys =>
      cases ms with
      | nil => exact absurd h2 (by show ¬ ((1 : Int) < 0); decide)
      | cons z zs =>
        have h1' : (if cmpL x y = 0 then cmpLs xs ys else cmpL x y) < 0 := h1
        have h2' : (if cmpL y z = 0 then cmpLs ys zs else cmpL y z) < 0 := h2
        show (if cmpL x z = 0 then cmpLs xs zs else cmpL x z) < 0
        by_cases hxy : cmpL x y = 0
        · have := (cmpL_zero x y).1 hxy
          subst this
          rw [if_pos hxy] at h1'
          by_cases hyz : cmpL x z = 0
          · rw [if_pos hyz] at h2' ⊢; exact ih ys zs h1' h2'
          · rw [if_neg hyz] at h2' ⊢; exact h2'
        · rw [if_neg hxy] at h1'
          by_cases hyz : cmpL y z = 0
          · have := (cmpL_zero y z).1 hyz
            subst this
            rw [if_neg hxy]; exact h1'
          · rw [if_neg hyz] at h2'
            have h3 := (cmpL_lt x z).2 (bl_trans x y z ((cmpL_lt x y).1 h1') ((cmpL_lt y z).1 h2'))
            rw [if_neg (by omega)]; exact h3
theorem cmpLs_pre : ∀ P Q, Q ≠ [] → cmpLs P (P ++ Q) < 0 := by
  intro P
  induction P with
  | nil => intro Q hQ; cases Q with
    | nil => exact absurd rfl hQ
    | cons => show (-1 : Int) < 0; decide
  | cons x P ih =>
    intro Q hQ
    show (if cmpL x x = 0 then cmpLs P (P ++ Q) else cmpL x x) < 0
    rw [if_pos ((cmpL_zero x x).2 rfl)]; exact ih Q hQ
theorem cmpLs_ext : ∀ P Q C, ¬ P <+: C → cmpLs (P ++ Q) C = cmpLs P C := by
  intro P
  induction P with
  | nil => intro Q C h; exact absurd (List.nil_prefix) h
  | cons x P ih =>
    intro Q C h
    cases C with
    | nil => rfl
    | cons y C =>
      show (if cmpL x y = 0 then cmpLs (P ++ Q) C else cmpL x y) = (if cmpL x y = 0 then cmpLs P C else cmpL x y)
      by_cases h0 : cmpL x y = 0
      · rw [if_pos h0, if_pos h0]
        refine ih Q C fun hp => h ?_
        rw [(cmpL_zero x y).1 h0]
        exact (List.cons_prefix_cons).2 ⟨rfl, hp⟩
      · rw [if_neg h0, if_neg h0]

theorem less_asymm (a b : List UInt8) (h : lessB a b = true) : lessB b a = false := by
  unfold lessB at h ⊢
  rw [decide_eq_true_eq] at h
  rw [decide_eq_false_iff_not, cmpLs_neg (partsL a) (partsL b)]; omega
theorem less_or (a b : List UInt8) : (lessB a b || lessB b a) = !decide (a = b) := by
  by_cases h : a = b
  · subst h
    have : lessB a a = false := by
      unfold lessB; rw [(cmpLs_zero (partsL a) (partsL a)).2 rfl]; rfl
    rw [this]; simp
  · have h0 : cmpLs (partsL a) (partsL b) ≠ 0 := fun hc => h (parts_inj ((cmpLs_zero _ _).1 hc))
    rw [decide_eq_false h]
    unfold lessB
    rw [cmpLs_neg (partsL a) (partsL b)]
    rcases Int.lt_or_gt_of_ne h0 with h1 | h1
    · rw [decide_eq_true h1]; rfl
    · rw [decide_eq_true (show -cmpLs (partsL a) (partsL b) < 0 by omega), Bool.or_true]; rfl
theorem less_trans (a b c : List UInt8) (h1 : lessB a b = true) (h2 : lessB b c = true) : lessB a c = true := by
  unfold lessB at *
  rw [decide_eq_true_eq] at *
  exact cmpLs_trans _ _ _ h1 h2
theorem within_inv {b a : List UInt8} (ha : a ≠ []) (h : withinB b a = true) : ∃ r, b = a ++ 47 :: r := by
  unfold withinB preB at h
  simp only [ha, decide_false, Bool.false_or, Bool.and_eq_true, decide_eq_true_eq] at h
  refine ⟨b.drop (a ++ [47]).length, ?_⟩
  have := List.take_append_drop (a ++ [47]).length b
  rw [h.2] at this
  simpa using this.symm
theorem within_of (a r : List UInt8) : withinB (a ++ 47 :: r) a = true := by
  unfold withinB preB
  have e : a ++ 47 :: r = (a ++ [47]) ++ r := by simp
  rw [e, List.take_left, List.length_append]
  simp
theorem within_less {a b : List UInt8} (ha : a ≠ []) (h : withinB b a = true) : lessB a b = true := by
  obtain ⟨r, rfl⟩ := within_inv ha h
  unfold lessB
  rw [parts_append, decide_eq_true_eq]
  exact cmpLs_pre _ _ (partsL_ne r)
theorem within_same {a b c : List UInt8} (ha : a ≠ []) (h : withinB b a = true) (hc : withinB c a = false) (hca : c ≠ a) : lessB a c = lessB b c := by
  obtain ⟨r, rfl⟩ := within_inv ha h
  unfold lessB
  rw [parts_append, cmpLs_ext]
  rintro ⟨X, hX⟩
  cases X with
  | nil => rw [List.append_nil] at hX; exact hca (parts_inj hX).symm
  | cons x xs =>
    have hcc : c = a ++ 47 :: glueL (x :: xs) := by
      apply parts_inj
      rw [parts_append, ← hX]
      rw [parts_glue (x :: xs) (by simp) (fun p hp => parts_free c p (by rw [← hX]; exact List.mem_append.2 (.inr hp)))]
    rw [hcc, within_of] at hc; cases hc

end Go.Proofs.YtajilboimjcfjaaDoor
end

section
/- Paths, plain: a path's parts, its parent and base; what Clean makes of a path with more behind it. -/
namespace Go.Proofs.YtajilboimjcfjaaDoor
open Go.RowKit Go.My

def joinL (l k : List UInt8) : List UInt8 := if l = [] then k else l ++ 47 :: k

theorem glue_append (X Y : List (List UInt8)) (hX : X ≠ []) (hY : Y ≠ []) : glueL (X ++ Y) = glueL X ++ 47 :: glueL Y := by
  induction X with
  | nil => exact absurd rfl hX
  | cons p X ih =>
    cases X with
    | nil =>
      cases Y with
      | nil => exact absurd rfl hY
      | cons q qs => rfl
    | cons q qs =>
      have h := ih (by simp)
      show glueL (p :: q :: (qs ++ Y)) = _
      rw [glueL_cons, glueL_cons]
      rw [show q :: (qs ++ Y) = (q :: qs) ++ Y from rfl, h, List.append_assoc]
      rfl

theorem getD_in (l : List UInt8) {k : Nat} (h : k < l.length) : l.getD k 0 ∈ l := by
  rw [List.getD_eq_getElem?_getD, List.getElem?_eq_getElem h]
  exact List.getElem_mem _
theorem getD_behind (x y : List UInt8) (j : Nat) : (x ++ y).getD (x.length + j) 0 = y.getD j 0 := by
  rw [List.getD_eq_getElem?_getD, List.getD_eq_getElem?_getD, List.getElem?_append_right (by omega), Nat.add_sub_cancel_left]
theorem lastN_free (l : List UInt8) (h : (47 : UInt8) ∉ l) : ∀ k, k ≤ l.length → lastN l k = -1 := by
  intro k
  induction k with
  | zero => intro _; rfl
  | succ k ih =>
    intro hk
    rw [lastN, if_neg ?_]
    · exact ih (by omega)
    · intro hc
      apply h
      rw [← hc]
      exact getD_in l (by omega)
theorem lastN_append (x y : List UInt8) (h : (47 : UInt8) ∉ y) : ∀ j, j ≤ y.length → lastN (x ++ 47 :: y) (x.length + 1 + j) = x.length := by
  intro j
  induction j with
  | zero =>
    intro _
    show lastN (x ++ 47 :: y) (x.length + 1) = _
    rw [lastN, if_pos ?_]
    exact getD_behind x (47 :: y) 0
  | succ j ih =>
    intro hj
    show lastN (x ++ 47 :: y) (x.length + 1 + j + 1) = _
    rw [lastN, if_neg ?_]
    · exact ih (by omega)
    · intro hc
      apply h
      rw [show x.length + 1 + j = x.length + (j + 1) by omega, getD_behind, List.getD_cons_succ] at hc
      rw [← hc]
      exact getD_in y (by omega)
theorem lastI_append (x y : List UInt8) (h : (47 : UInt8) ∉ y) : lastI (x ++ 47 :: y) = x.length := by
  unfold lastI
  rw [show (x ++ 47 :: y).length = x.length + 1 + y.length by simp; omega]
  exact lastN_append x y h _ (Nat.le_refl _)
theorem parent_append (x y : List UInt8) (h : (47 : UInt8) ∉ y) : parentL (x ++ 47 :: y) = x := by
  unfold parentL
  rw [lastI_append x y h]
  simp
theorem base_append (x y : List UInt8) (h : (47 : UInt8) ∉ y) : baseL (x ++ 47 :: y) = y := by
  unfold baseL
  rw [lastI_append x y h, show ((x.length : Int) + 1).toNat = x.length + 1 by omega]
  simp
theorem parent_free (y : List UInt8) (h : (47 : UInt8) ∉ y) : parentL y = [] := by
  unfold parentL lastI
  rw [lastN_free y h _ (Nat.le_refl _)]
  rfl
theorem base_free (y : List UInt8) (h : (47 : UInt8) ∉ y) : baseL y = y := by
  unfold baseL lastI
  rw [lastN_free y h _ (Nat.le_refl _)]
  rfl
/-- a path's parent and base are told by its parts -/
theorem pb_parts {l : List UInt8} {X : List (List UInt8)} {s : List UInt8} (h : partsL l = X ++ [s]) : parentL l = glueL X ∧ baseL l = s := by
  have hf : (47 : UInt8) ∉ s := parts_free l s (by rw [h]; simp)
  have e := glue_parts l
  rw [h] at e
  by_cases hX : X = []
  · subst hX
    have e' : s = l := e
    subst e'
    exact ⟨parent_free _ hf, base_free _ hf⟩
  · rw [glue_append X [s] hX (by simp)] at e
    have e' : glueL X ++ 47 :: s = l := e
    subst e'
    exact ⟨parent_append _ _ hf, base_append _ _ hf⟩
theorem parts_split (l : List UInt8) : ∃ X s, partsL l = X ++ [s] :=
  ⟨(partsL l).dropLast, (partsL l).getLast (partsL_ne l), (List.dropLast_concat_getLast _).symm⟩
theorem base_behind (x b : List UInt8) : baseL (x ++ 47 :: b) = baseL b := by
  obtain ⟨X, s, h⟩ := parts_split b
  have h2 : partsL (x ++ 47 :: b) = (partsL x ++ X) ++ [s] := by rw [parts_append, h, List.append_assoc]
  rw [(pb_parts h).2, (pb_parts h2).2]
theorem join_pb (l : List UInt8) (hl : ∀ p ∈ partsL l, p ≠ []) : joinL (parentL l) (baseL l) = l := by
  obtain ⟨X, s, h⟩ := parts_split l
  rw [(pb_parts h).1, (pb_parts h).2]
  have e := glue_parts l
  rw [h] at e hl
  unfold joinL
  cases X with
  | nil => exact e
  | cons p X =>
    rw [glue_append _ [s] (by simp) (by simp)] at e
    rw [if_neg ?_]
    · exact e
    · intro h0
      have hp := hl p (by simp)
      cases X with
      | nil => exact hp h0
      | cons q qs => rw [glueL_cons] at h0; simp at h0

theorem partB_ne {s : List UInt8} (h : partB s = true) : s ≠ [] ∧ s ≠ [46] ∧ s ≠ [46, 46] ∧ s.length ≤ 40 := by
  unfold partB at h
  simp only [Bool.and_eq_true, Bool.not_eq_true', decide_eq_false_iff_not, decide_eq_true_eq] at h
  exact ⟨h.1.1.1.1, h.1.1.1.2, h.1.1.2, h.1.2⟩
theorem step_part (o : List (List UInt8)) {s : List UInt8} (h : partB s = true) : stepL o s = some (o ++ [s]) := by
  obtain ⟨h1, h2, h3, _⟩ := partB_ne h
  unfold stepL
  rw [if_neg (by rintro (h | h) <;> contradiction), if_neg (by rintro ⟨h, _⟩; contradiction), if_pos h]
theorem step_skip (o : List (List UInt8)) {s : List UInt8} (h : s = [] ∨ s = [46]) : stepL o s = some o := by
  unfold stepL; rw [if_pos h]
theorem step_up (o : List (List UInt8)) (s : List UInt8) : stepL (o ++ [s]) [46, 46] = some o := by
  unfold stepL
  rw [if_neg (by decide), if_pos ⟨rfl, by simp⟩]
  simp
theorem fold_append (A B : List (List UInt8)) : ∀ o, foldS o (A ++ B) = (foldS o A).bind fun o' => foldS o' B := by
  induction A with
  | nil => intro o; rfl
  | cons a A ih =>
    intro o
    show foldS o (a :: (A ++ B)) = _
    rw [foldS_cons, foldS_cons]
    cases stepL o a with
    | none => rfl
    | some o' => exact ih o'
theorem fold_parts (Y : List (List UInt8)) (h : ∀ p ∈ Y, partB p = true) : ∀ o, foldS o Y = some (o ++ Y) := by
  induction Y with
  | nil => intro o; show some o = _; rw [List.append_nil]
  | cons y Y ih =>
    intro o
    rw [foldS_cons, step_part o (h y (List.mem_cons_self ..))]
    show foldS (o ++ [y]) Y = _
    rw [ih (fun p hp => h p (List.mem_cons_of_mem _ hp)), List.append_assoc]; rfl

theorem check_iff (l : List UInt8) : checkE l = 0 ↔ l.length ≤ 120 ∧ ∀ p ∈ partsL l, partB p = true := by
  unfold checkE
  by_cases h : 120 < l.length
  · rw [if_pos h]
    exact ⟨fun h => (by cases h), fun h' => absurd h'.1 (by omega)⟩
  · rw [if_neg h]
    by_cases h2 : (partsL l).all partB = true
    · rw [if_pos h2]
      exact ⟨fun _ => ⟨by omega, fun p hp => List.all_eq_true.1 h2 p hp⟩, fun _ => rfl⟩
    · rw [if_neg h2]
      exact ⟨fun h => (by cases h), fun h' => absurd (List.all_eq_true.2 h'.2) h2⟩
theorem check_ne {l : List UInt8} (h : checkE l = 0) : l ≠ [] := by
  rintro rfl
  have := ((check_iff []).1 h).2 [] (by simp [partsL])
  cases this
theorem clean_self {l : List UInt8} (h : checkE l = 0) : cleanL l = some l := by
  unfold cleanL
  rw [fold_parts _ ((check_iff l).1 h).2]
  show (if checkE (glueL (partsL l)) = 0 then some (glueL (partsL l)) else none) = _
  rw [glue_parts, if_pos h]
theorem clean_is {l c : List UInt8} (h : cleanL l = some c) : checkE c = 0 := by
  unfold cleanL at h
  cases hf : foldS [] (partsL l) with
  | none => rw [hf] at h; cases h
  | some o =>
    rw [hf] at h
    simp only [Option.bind_some] at h
    split at h
    · rename_i h0; cases h; exact h0
    · cases h
theorem clean_fold {l : List UInt8} {o : List (List UInt8)} (hf : foldS [] (partsL l) = some o) (h : checkE (glueL o) = 0) : cleanL l = some (glueL o) := by
  unfold cleanL
  rw [hf]
  simp only [Option.bind_some]
  rw [if_pos h]
theorem check_part {s : List UInt8} (h : partB s = true) (hf : (47 : UInt8) ∉ s) : checkE s = 0 := by
  rw [check_iff, parts_of_free s hf]
  exact ⟨by have := (partB_ne h).2.2.2; omega, fun p hp => by rw [List.mem_singleton.1 hp]; exact h⟩

theorem nil_free : ∀ p ∈ partsL [46, 46], p = [46, 46] := by decide
theorem up_fold {p : List UInt8} (h : checkE p = 0) {X : List (List UInt8)} {s : List UInt8} (hp : partsL p = X ++ [s]) : foldS [] (partsL (p ++ [47, 46, 46])) = some X := by
  rw [show p ++ [47, 46, 46] = p ++ 47 :: [46, 46] from rfl, parts_append, fold_append, fold_parts _ ((check_iff p).1 h).2]
  show foldS (partsL p) [[46, 46]] = _
  rw [hp, foldS_cons, step_up]; rfl
theorem take_len (l : List UInt8) : (parentL l).length ≤ l.length := by unfold parentL; rw [List.length_take]; omega
theorem parent_parts {l : List UInt8} {X : List (List UInt8)} {s : List UInt8} (h : partsL l = X ++ [s]) (hX : X ≠ []) : partsL (parentL l) = X := by
  rw [(pb_parts h).1]
  exact parts_glue X hX (fun p hp => parts_free l p (by rw [h]; exact List.mem_append_left _ hp))
theorem up_some {p : List UInt8} (h : checkE p = 0) (hn : parentL p ≠ []) : cleanL (p ++ [47, 46, 46]) = some (parentL p) := by
  obtain ⟨X, s, hp⟩ := parts_split p
  have hf := up_fold h hp
  have hX : X ≠ [] := by rintro rfl; apply hn; rw [(pb_parts hp).1]; rfl
  have hc : checkE (glueL X) = 0 := by
    rw [← (pb_parts hp).1, check_iff, parent_parts hp hX]
    have := (check_iff p).1 h
    exact ⟨by have := take_len p; omega, fun x hx => this.2 x (by rw [hp]; exact List.mem_append_left _ hx)⟩
  rw [clean_fold hf hc, (pb_parts hp).1]
theorem glue_ne {X : List (List UInt8)} (hX : X ≠ []) (h : ∀ p ∈ X, p ≠ []) : glueL X ≠ [] := by
  cases X with
  | nil => exact absurd rfl hX
  | cons p X =>
    cases X with
    | nil => exact h p (List.mem_cons_self ..)
    | cons q qs => rw [glueL_cons]; simp
theorem up_none {p : List UInt8} (h : checkE p = 0) (hn : parentL p = []) : cleanL (p ++ [47, 46, 46]) = none := by
  obtain ⟨X, s, hp⟩ := parts_split p
  have hf := up_fold h hp
  have hX : X = [] := by
    by_cases hX : X = []
    · exact hX
    · exfalso
      refine glue_ne hX (fun x hx => ?_) ((pb_parts hp).1.symm.trans hn)
      exact (partB_ne (((check_iff p).1 h).2 x (by rw [hp]; exact List.mem_append_left _ hx))).1
  subst hX
  unfold cleanL
  rw [hf]
  rfl
theorem same_clean {p : List UInt8} (h : checkE p = 0) : cleanL (p ++ [47, 120, 47, 46, 46]) = some p := by
  have hf : foldS [] (partsL (p ++ [47, 120, 47, 46, 46])) = some (partsL p) := by
    rw [show p ++ [47, 120, 47, 46, 46] = p ++ 47 :: [120, 47, 46, 46] from rfl, parts_append, fold_append, fold_parts _ ((check_iff p).1 h).2]
    show foldS (partsL p) [[120], [46, 46]] = _
    rw [foldS_cons, step_part _ (by decide)]
    show foldS (partsL p ++ [[120]]) [[46, 46]] = _
    rw [foldS_cons, step_up]; rfl
  rw [clean_fold hf (by rw [glue_parts]; exact h), glue_parts]
theorem joins {p a b : List UInt8} (hp : p ≠ []) (ha : a ≠ []) : joinL (joinL p a) b = p ++ 47 :: (a ++ 47 :: b) ∧ joinL p (joinL a b) = p ++ 47 :: (a ++ 47 :: b) := by
  unfold joinL
  rw [if_neg ha, if_neg hp, if_neg hp, if_neg (by simp)]
  exact ⟨by simp, rfl⟩
theorem check_join {x y : List UInt8} (hx : checkE x = 0) (hy : checkE y = 0) (h : x.length + y.length + 1 ≤ 120) : checkE (x ++ 47 :: y) = 0 := by
  rw [check_iff] at *
  refine ⟨by simp; omega, fun p hp => ?_⟩
  rw [parts_append] at hp
  rcases List.mem_append.1 hp with hp | hp
  · exact hx.2 p hp
  · exact hy.2 p hp

/-- parts with . and empty ones ahead, and x/.. behind each -/
def looseF (s : List UInt8) : List UInt8 := [47, 46, 47] ++ s ++ [47, 120, 47, 46, 46, 47]
def looseL (L : List (List UInt8)) : List UInt8 := (L.map looseF).flatten
theorem looseL_cons (s : List UInt8) (L : List (List UInt8)) : looseL (s :: L) = looseF s ++ looseL L := rfl
theorem looseL_snoc (L : List (List UInt8)) (s : List UInt8) : looseL (L ++ [s]) = looseL L ++ looseF s := by
  unfold looseL; simp
theorem loose_parts (s r : List UInt8) (hs : (47 : UInt8) ∉ s) : partsL (looseF s ++ r) = [] :: [46] :: s :: [120] :: [46, 46] :: partsL r := by
  have e : looseF s ++ r = [] ++ 47 :: ([46] ++ 47 :: (s ++ 47 :: ([120] ++ 47 :: ([46, 46] ++ 47 :: r)))) := by
    unfold looseF; simp
  rw [e, parts_append, parts_append, parts_append, parts_append, parts_append, parts_of_free s hs]
  rfl
theorem fold_loose (L : List (List UInt8)) (h : ∀ p ∈ L, partB p = true ∧ (47 : UInt8) ∉ p) : ∀ o, foldS o (partsL (looseL L)) = some (o ++ L) := by
  induction L with
  | nil =>
    intro o
    show foldS o [[]] = _
    rw [foldS_cons, step_skip o (.inl rfl), List.append_nil]; rfl
  | cons s L ih =>
    intro o
    obtain ⟨h1, h2⟩ := h s (List.mem_cons_self ..)
    rw [looseL_cons, loose_parts _ _ h2, foldS_cons, step_skip o (.inl rfl), Option.bind_some, foldS_cons, step_skip o (.inr rfl), Option.bind_some,
      foldS_cons, step_part o h1, Option.bind_some, foldS_cons, step_part _ (by decide), Option.bind_some, foldS_cons, step_up, Option.bind_some,
      ih (fun p hp => h p (List.mem_cons_of_mem _ hp)), List.append_assoc]
    rfl
theorem loose_clean {c : List UInt8} (h : checkE c = 0) : cleanL (looseL (partsL c)) = some c := by
  have hf := fold_loose (partsL c) (fun p hp => ⟨((check_iff c).1 h).2 p hp, parts_free c p hp⟩) []
  have := clean_fold hf (by rw [List.nil_append, glue_parts]; exact h)
  rw [this, List.nil_append, glue_parts]
theorem loose_len (L : List (List UInt8)) (h : ∀ p ∈ L, p.length ≤ 40) : (looseL L).length ≤ L.length * 49 := by
  induction L with
  | nil => exact Nat.le_refl _
  | cons s L ih =>
    have h1 := h s (List.mem_cons_self ..)
    have h2 := ih (fun p hp => h p (List.mem_cons_of_mem _ hp))
    rw [looseL_cons, List.length_append, List.length_cons]
    have e : (looseF s).length = s.length + 9 := by unfold looseF; simp
    omega

theorem takeP_snoc (ls : List (List UInt8)) (k : Nat) (h : k < ls.length) : ls.take (k + 1) = ls.take k ++ [ls.getD k []] := by
  rw [List.take_add_one, List.getElem?_eq_getElem h]
  simp [List.getD_eq_getElem?_getD, List.getElem?_eq_getElem h]
/-- the directory of a path's first k parts -/
def atL (p : List UInt8) (k : Nat) : List UInt8 := glueL ((partsL p).take k)
theorem atL_zero (p : List UInt8) : atL p 0 = [] := rfl
theorem atL_all (p : List UInt8) : atL p (partsL p).length = p := by unfold atL; rw [List.take_length, glue_parts]
theorem atL_parts (p : List UInt8) {k : Nat} (h0 : 0 < k) : partsL (atL p k) = (partsL p).take k :=
  parts_glue _ (by have := partsL_ne p; intro h; rw [List.take_eq_nil_iff] at h; rcases h with h | h <;> first | omega | contradiction) (fun x hx => parts_free p x (List.mem_of_mem_take hx))
theorem atL_cut (p : List UInt8) {k : Nat} (h0 : 0 < k) (h : k < (partsL p).length) : p = atL p k ++ 47 :: glueL ((partsL p).drop k) := by
  have hn : (partsL p).take k ≠ [] := by
    have := partsL_ne p; intro h; rw [List.take_eq_nil_iff] at h; rcases h with h | h <;> first | omega | contradiction
  have hd : (partsL p).drop k ≠ [] := by intro hx; rw [List.drop_eq_nil_iff] at hx; omega
  have := glue_append _ _ hn hd
  rw [List.take_append_drop, glue_parts] at this
  exact this
theorem atL_ne {p : List UInt8} (hp : checkE p = 0) {k : Nat} (h0 : 0 < k) : atL p k ≠ [] := by
  apply glue_ne
  · have := partsL_ne p; intro h; rw [List.take_eq_nil_iff] at h; rcases h with h | h <;> first | omega | contradiction
  · exact fun x hx => (partB_ne (((check_iff p).1 hp).2 x (List.mem_of_mem_take hx))).1
theorem atL_within (p : List UInt8) {k : Nat} (h : k < (partsL p).length) : withinB p (atL p k) = true := by
  by_cases h0 : k = 0
  · subst h0; rw [atL_zero]; unfold withinB; simp
  · have e := atL_cut p (by omega) h
    have := within_of (atL p k) (glueL ((partsL p).drop k))
    rw [← e] at this
    exact this
theorem atL_len (p : List UInt8) {k : Nat} (h : k ≤ (partsL p).length) : (atL p k).length ≤ p.length := by
  by_cases h0 : k = 0
  · subst h0; rw [atL_zero]; simp
  · by_cases h1 : k < (partsL p).length
    · have e := congrArg List.length (atL_cut p (by omega) h1)
      rw [List.length_append] at e
      omega
    · rw [show k = (partsL p).length by omega, atL_all]; exact Nat.le_refl _
theorem atL_check {p : List UInt8} (hp : checkE p = 0) {k : Nat} (h0 : 0 < k) (h : k ≤ (partsL p).length) : checkE (atL p k) = 0 := by
  have h2 := (check_iff p).1 hp
  rw [check_iff, atL_parts p h0]
  exact ⟨by have := atL_len p h; omega, fun x hx => h2.2 x (List.mem_of_mem_take hx)⟩
theorem atL_less {p : List UInt8} (hp : checkE p = 0) {k : Nat} (h0 : 0 < k) (h : k < (partsL p).length) : lessB (atL p k) p = true :=
  within_less (atL_ne hp h0) (atL_within p h)
theorem atL_succ {p : List UInt8} (hp : checkE p = 0) {k : Nat} (h : k < (partsL p).length) : joinL (atL p k) ((partsL p).getD k []) = atL p (k + 1) := by
  unfold joinL
  by_cases h0 : k = 0
  · subst h0
    rw [if_pos (atL_zero p)]
    cases hq : partsL p with
    | nil => exact absurd hq (partsL_ne p)
    | cons q qs => unfold atL; rw [hq]; rfl
  · rw [if_neg (atL_ne hp (by omega))]
    unfold atL
    rw [takeP_snoc _ _ h, glue_append _ _ ?_ (by simp)]
    · rfl
    · have := partsL_ne p; intro h; rw [List.take_eq_nil_iff] at h; rcases h with h | h <;> first | omega | contradiction
theorem part_check {p : List UInt8} (hp : checkE p = 0) {k : Nat} (h : k < (partsL p).length) : checkE ((partsL p).getD k []) = 0 :=
  check_part (((check_iff p).1 hp).2 _ (parts_get p k h).1) (parts_free p _ (parts_get p k h).1)
theorem parts_last (p : List UInt8) : partsL p = (partsL p).take ((partsL p).length - 1) ++ [(partsL p).getD ((partsL p).length - 1) []] := by
  have h : 0 < (partsL p).length := List.length_pos_iff.2 (partsL_ne p)
  have := takeP_snoc (partsL p) ((partsL p).length - 1) (by omega)
  rw [show (partsL p).length - 1 + 1 = (partsL p).length by omega, List.take_length] at this
  exact this
theorem base_last (p : List UInt8) : baseL p = (partsL p).getD ((partsL p).length - 1) [] := (pb_parts (parts_last p)).2
theorem parent_last (p : List UInt8) : parentL p = atL p ((partsL p).length - 1) := (pb_parts (parts_last p)).1
/-- is dir a beginning of p of at most k parts? -/
def inK (p dir : List UInt8) : Nat → Bool
  | 0 => decide (dir = [])
  | k + 1 => inK p dir k || decide (atL p (k + 1) = dir)
theorem inK_iff (p dir : List UInt8) (k : Nat) : inK p dir k = true ↔ dir = [] ∨ ∃ j, 0 < j ∧ j ≤ k ∧ atL p j = dir := by
  induction k with
  | zero =>
    rw [inK, decide_eq_true_eq]
    exact ⟨.inl, fun h => h.elim (fun h => h) (fun ⟨j, h1, h2, _⟩ => by omega)⟩
  | succ k ih =>
    rw [inK, Bool.or_eq_true, ih, decide_eq_true_eq]
    constructor
    · rintro ((h | ⟨j, h1, h2, h3⟩) | h)
      · exact .inl h
      · exact .inr ⟨j, h1, by omega, h3⟩
      · exact .inr ⟨k + 1, by omega, Nat.le_refl _, h⟩
    · rintro (h | ⟨j, h1, h2, h3⟩)
      · exact .inl (.inl h)
      · by_cases hj : j = k + 1
        · subst hj; exact .inr h3
        · exact .inl (.inr ⟨j, h1, by omega, h3⟩)
theorem inK_last (p dir : List UInt8) : withinB p dir = inK p dir ((partsL p).length - 1) := by
  have hpos : 0 < (partsL p).length := List.length_pos_iff.2 (partsL_ne p)
  rw [Bool.eq_iff_iff, inK_iff]
  by_cases hd : dir = []
  · subst hd
    exact ⟨fun _ => .inl rfl, fun _ => by unfold withinB; simp⟩
  constructor
  · intro h
    obtain ⟨r, hr⟩ := within_inv hd h
    refine .inr ⟨(partsL dir).length, List.length_pos_iff.2 (partsL_ne dir), ?_, ?_⟩
    · rw [hr, parts_append, List.length_append]
      have := List.length_pos_iff.2 (partsL_ne r)
      omega
    · unfold atL
      rw [hr, parts_append, List.take_left, glue_parts]
  · rintro (h | ⟨j, h1, h2, h3⟩)
    · exact absurd h hd
    · rw [← h3]; exact atL_within p (by omega)

end Go.Proofs.YtajilboimjcfjaaDoor
end

section
/- Opening a law's arguments: from the form's reading to the walks' own words. -/
namespace Go.My
open Go.ChangeShapes Go.WideShapes Go.ChangeAt Go.RowKit
open Go.ChangeMaps (open_string shut_string)

variable {H : Type} {enc : TypeId × Value → H} {P : Program} {W : World} {base : Nat} {spare : Nat → Bool} {held : Bool}

theorem u8_of_wf {n : Int} (h : (Lit.int .u8 n).wf = true) : ∃ c : UInt8, n = (c.toNat : Int) := by
  have hb := bounds_u8 h
  refine ⟨UInt8.ofNat n.toNat, ?_⟩
  rw [UInt8.toNat_ofNat']
  omega
theorem u64_of_wf {n : Int} (h : (Lit.int .u64 n).wf = true) : ∃ c : BitVec 64, n = w64 c := by
  have hb := bounds_u64 h
  refine ⟨BitVec.ofNat 64 n.toNat, ?_⟩
  rw [w64_def, BitVec.toNat_ofNat]
  omega
theorem u32_of_wf {n : Int} (h : (Lit.int .u32 n).wf = true) : ∃ c : BitVec 32, n = w32 c := by
  have hb := bounds_u32 h
  refine ⟨BitVec.ofNat 32 n.toNat, ?_⟩
  rw [w32_def, BitVec.toNat_ofNat]
  omega
theorem i64_of_wf {n : Int} (h : (Lit.int .i64 n).wf = true) : -9223372036854775808 ≤ n ∧ n ≤ 9223372036854775807 := by
  have := bounds_i64 h; omega

theorem op_u8 {t : TypeId} {v : Value} {d : DataW H} {p : List MemPlace} (ht : P.underlying t = some (.int .u8)) (hv : Value.okWide P W .any base t v)
    (h : DataW.Trod enc P W 0 (fun _ => true) true t v d p) : ∃ c : UInt8, v = .int .u8 (c.toNat : Int) := by
  obtain ⟨a, rfl, rfl, rfl, w⟩ := open_int ht hv h
  obtain ⟨c, rfl⟩ := u8_of_wf w
  exact ⟨c, rfl⟩
theorem op_u64 {t : TypeId} {v : Value} {d : DataW H} {p : List MemPlace} (ht : P.underlying t = some (.int .u64)) (hv : Value.okWide P W .any base t v)
    (h : DataW.Trod enc P W 0 (fun _ => true) true t v d p) : ∃ c : BitVec 64, v = .int .u64 (w64 c) := by
  obtain ⟨a, rfl, rfl, rfl, w⟩ := open_int ht hv h
  obtain ⟨c, rfl⟩ := u64_of_wf w
  exact ⟨c, rfl⟩
theorem op_u32 {t : TypeId} {v : Value} {d : DataW H} {p : List MemPlace} (ht : P.underlying t = some (.int .u32)) (hv : Value.okWide P W .any base t v)
    (h : DataW.Trod enc P W 0 (fun _ => true) true t v d p) : ∃ c : BitVec 32, v = .int .u32 (w32 c) := by
  obtain ⟨a, rfl, rfl, rfl, w⟩ := open_int ht hv h
  obtain ⟨c, rfl⟩ := u32_of_wf w
  exact ⟨c, rfl⟩
theorem op_i64 {t : TypeId} {v : Value} {d : DataW H} {p : List MemPlace} (ht : P.underlying t = some (.int .i64)) (hv : Value.okWide P W .any base t v)
    (h : DataW.Trod enc P W 0 (fun _ => true) true t v d p) : ∃ n : Int, v = .int .i64 n ∧ -9223372036854775808 ≤ n ∧ n ≤ 9223372036854775807 := by
  obtain ⟨a, rfl, rfl, rfl, w⟩ := open_int ht hv h
  exact ⟨a, rfl, i64_of_wf w⟩
theorem op_string {t : TypeId} {v : Value} {d : DataW H} {p : List MemPlace} (ht : P.underlying t = some .string) (hv : Value.okWide P W .any base t v)
    (h : DataW.Trod enc P W 0 (fun _ => true) true t v d p) : ∃ s : ByteArray, v = .string s ∧ s.size ≤ 9223372036854775807 := by
  obtain ⟨s, rfl, rfl, rfl, hs⟩ := open_string ht hv h
  exact ⟨s, rfl, by unfold maxLen at hs; exact hs⟩
theorem op_bool {t : TypeId} {v : Value} {d : DataW H} {p : List MemPlace} (ht : P.underlying t = some .bool) (hv : Value.okWide P W .any base t v)
    (h : DataW.Trod enc P W 0 (fun _ => true) true t v d p) : ∃ b : Bool, v = .bool b := by
  obtain ⟨b, rfl, rfl, rfl⟩ := open_bool ht hv h
  exact ⟨b, rfl⟩
theorem op_bytes {t e : TypeId} {v : Value} {d : DataW H} {p : List MemPlace} (ht : P.underlying t = some (.slice e)) (he : P.underlying e = some (.int .u8)) (hc : P.cellsOf e = 1)
    (hv : Value.okWide P W .any base t v) (h : DataW.Trod enc P W 0 (fun _ => true) true t v d p) : ∃ l, IsBytes W l v := by
  obtain ⟨a2, len2, cap2, rfl⟩ := okWide_slice ht hv
  obtain ⟨fuel, hf⟩ := h
  rcases open_ints ht he hc hf with ⟨hcs, _⟩ | ⟨x, l, c, zs, hcs, _, hl, hm, hz, _, hcell, hwz⟩
  · simp [Value.cells] at hcs
    obtain ⟨rfl, rfl, rfl⟩ := hcs
    exact ⟨[], none, 0, rfl, by simp, by decide, fun i hi => by simp at hi⟩
  · simp [Value.cells] at hcs
    obtain ⟨rfl, rfl, rfl⟩ := hcs
    simp only [if_true] at hz
    have hle : ((zs.take len2).map fun n => UInt8.ofNat n.toNat).length = len2 := by simp; omega
    refine ⟨(zs.take len2).map fun n => UInt8.ofNat n.toNat, some x, cap2, by rw [hle], by omega, by unfold maxLen at hm; omega, ?_⟩
    rw [hle]
    intro i hi
    obtain ⟨b, off, spot⟩ := x
    have hci := hcell i (by omega)
    have hspot : spot = none := by
      have h0 := hcell 0 (by omega)
      simpa [Addr.add] using World.cell?_spot h0
    subst hspot
    refine ⟨b, off, rfl, ?_⟩
    have ha : (Addr.add ⟨b, off, none⟩ i) = ⟨b, off + i, none⟩ := by cases i <;> simp [Addr.add]
    rw [ha] at hci
    rw [hci]
    obtain ⟨c, hcc⟩ := u8_of_wf (hwz (zs.getD i 0) (by
      rw [List.getD_eq_getElem?_getD, List.getElem?_eq_getElem (by omega)]; exact List.getElem_mem _))
    have hget : ((zs.take len2).map fun n => UInt8.ofNat n.toNat).getD i 0 = c := by
      have h1 : zs[i]? = some (zs.getD i 0) := by rw [List.getD_eq_getElem?_getD, List.getElem?_eq_getElem (by omega)]; rfl
      rw [List.getD_eq_getElem?_getD, List.getElem?_map, List.getElem?_take, if_pos hi, h1, hcc]
      simp
    rw [byt_getD, hget, hcc]
theorem op_ints {t e : TypeId} {v : Value} {d : DataW H} {p : List MemPlace} (ht : P.underlying t = some (.slice e)) (he : P.underlying e = some (.int .i64)) (hc : P.cellsOf e = 1)
    (hv : Value.okWide P W .any base t v) (h : DataW.Trod enc P W 0 (fun _ => true) true t v d p) :
    ∃ l : List Int, IsRow W (int64 l) l.length v ∧ l.length ≤ 9223372036854775807 ∧ ∀ n ∈ l, -9223372036854775808 ≤ n ∧ n ≤ 9223372036854775807 := by
  obtain ⟨a2, len2, cap2, rfl⟩ := okWide_slice ht hv
  obtain ⟨fuel, hf⟩ := h
  rcases open_ints ht he hc hf with ⟨hcs, _⟩ | ⟨x, l, c, zs, hcs, _, hl, hm, hz, _, hcell, hwz⟩
  · simp [Value.cells] at hcs
    obtain ⟨rfl, rfl, rfl⟩ := hcs
    exact ⟨[], IsRow.nil W _, by simp, by simp⟩
  · simp [Value.cells] at hcs
    obtain ⟨rfl, rfl, rfl⟩ := hcs
    simp only [if_true] at hz
    have hle : (zs.take len2).length = len2 := by simp; omega
    unfold maxLen at hm
    refine ⟨zs.take len2, ?_, by omega, fun n hn => i64_of_wf (hwz n (List.mem_of_mem_take hn))⟩
    rw [hle]
    refine ⟨some x, cap2, rfl, hl, hm, ?_⟩
    intro i hi
    obtain ⟨b, off, spot⟩ := x
    have hci := hcell i (by omega)
    have hspot : spot = none := by
      have h0 := hcell 0 (by omega)
      simpa [Addr.add] using World.cell?_spot h0
    subst hspot
    refine ⟨b, off, rfl, ?_⟩
    have ha : (Addr.add ⟨b, off, none⟩ i) = ⟨b, off + i, none⟩ := by cases i <;> simp [Addr.add]
    rw [ha] at hci
    rw [hci, int64_def]
    simp [List.getD_eq_getElem?_getD, List.getElem?_take, hi]
end Go.My
end

section
/- Opening a law's string argument: a list of bytes. -/
namespace Go.Proofs.YtajilboimjcfjaaDoor
open Go.ChangeShapes Go.WideShapes Go.ChangeAt Go.RowKit Go.My

theorem op_str {H : Type} {enc : TypeId × Value → H} {P : Program} {W : World} {base : Nat} {t : TypeId} {v : Value} {d : DataW H} {p : List MemPlace} (ht : P.underlying t = some .string) (hv : Value.okWide P W .any base t v)
    (h : DataW.Trod enc P W 0 (fun _ => true) true t v d p) : ∃ l : List UInt8, v = .string (strB l) ∧ l.length ≤ 9223372036854775807 := by
  obtain ⟨s, rfl, hs⟩ := op_string ht hv h
  refine ⟨s.data.toList, ?_, ?_⟩
  · rw [← strB_of]
  · have e : s.data.toList.length = s.size := rfl
    rw [e]
    exact hs

end Go.Proofs.YtajilboimjcfjaaDoor
end
