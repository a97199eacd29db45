/- The contracts of chunk.All and Split. -/
import Derived.Test.YtceiahjhfbghpaaChunkD
namespace Go.Proofs.Ytceiahjhfbghpaa
open Go.RowKit Go.My Go.Shelf

attribute [local go_sem] Oper.semAt_some

theorem sl_info : (Try.prog.info? 25).map (fun i => (i.zero, i.size, i.bytes)) = some (some (.slice none 0 0), 1, 24) := by kernel_rfl

set_option maxRecDepth 100000 in
set_option maxHeartbeats 2000000 in
theorem all_any (cb : Nat) (a : Option Addr) (m cap : Nat) (w : World) :
    Calls Try.prog 20 #[.pointer (some ⟨cb, 0, none⟩), .slice a m cap] w fun e w' => ∃ bb cc, e = .returned (.func (.func 26) #[] #[.pointer (some ⟨bb, 0, none⟩), .pointer (some ⟨cc, 0, none⟩)]) ∧
      Blk w' bb #[.slice a m cap] 25 ∧ Blk w' cc #[.pointer (some ⟨cb, 0, none⟩)] 27 ∧ Ext No w w' ∧ w.heap.size ≤ bb ∧ w.heap.size ≤ cc := by
  have hx : Ext No w ((w.alloc (.cells #[.pointer (some ⟨cb, 0, none⟩)] 27)).alloc (.cells #[.slice a m cap] 25)) := ((Ext.refl No w).alloc _).alloc _
  have hb1 := (Blk.new w #[.pointer (some ⟨cb, 0, none⟩)] 27).alloc (.cells #[.slice a m cap] 25)
  have hb2 := Blk.new (w.alloc (.cells #[.pointer (some ⟨cb, 0, none⟩)] 27)) #[.slice a m cap] 25
  rw [World.size_alloc] at hb2
  go_enter Try.func20, Try.ntmps20
  have HX := Lib.hid hx; have HB1 := Lib.hid hb1; have HB2 := Lib.hid hb2; clear hx hb1 hb2
  go_wp2_with fail
  go_ret
  exact ⟨_, _, rfl, HB2.out, HB1.out, HX.out, by omega, by omega⟩



/-- what Split has gathered -/
structure Gath (w W : World) (ob base : Nat) (wb lb : Nat) (ls : List (List UInt8)) : Prop where
  out : ∃ a c, Blk W ob #[.slice a ls.length c] 33 ∧ OwnBs W 5 25 base ls (.slice a ls.length c)
  ext : Ext (fun k => k = wb ∨ k = lb) w W

theorem Gath.turn {w W W' : World} {ob base wb lb : Nat} {ls : List (List UInt8)} {S : Nat → Prop} (h : Gath w W ob base wb lb ls) {D : Nat} (hD : w.heap.size ≤ D) (x : Ext (fun j => S j ∨ (j = D ∧ NC W j)) W W')
    (h1 : ∀ k, base ≤ k → ¬ S k) (h2 : ¬ S ob) (h3 : ∀ k, k < w.heap.size → S k → k = wb ∨ k = lb) : Gath w W' ob base wb lb ls := by
  obtain ⟨⟨a, c, hb, ho⟩, he⟩ := h
  exact ⟨⟨a, c, hb.extN x h2, ho.extN x h1⟩, he.trans x (fun _ _ h => h) (fun k hk h => h.elim (h3 k hk) (fun h => absurd hk (by omega)))⟩

theorem cuts_len (p : Prm) (hp : p.Ok) (d : Nat) : ∀ l : List UInt8, (cuts p d l).length ≤ l.length := by
  induction d with
  | zero => intro l; simp [cuts]
  | succ d ih =>
    intro l
    rw [cuts]
    split
    · simp
    · rename_i h
      have := firstLen_pos p l hp (List.length_pos_iff.2 h)
      have h2 := ih (l.drop (firstLen p l))
      have h3 := firstLen_le p l
      rw [List.length_drop] at h2
      rw [List.length_cons]; omega
theorem chunks_len (p : Prm) (hp : p.Ok) (l : List UInt8) : (chunks p l).length ≤ l.length := cuts_len p hp _ l

set_option maxRecDepth 100000 in
set_option maxHeartbeats 4000000 in
theorem split_any (cb wb lb tb : Nat) (p : Prm) (hp : p.Ok) (st : WS) (l : List UInt8) (a : Option Addr) (m cap : Nat) (w : World) (hc : Chk w cb wb lb tb p st) (hv : IsBytes w l (.slice a m cap)) (hl : l.length ≤ 1099511627776)
    (hvb : ∀ k, (Value.slice a m cap).ownBlock = some k → 0 < l.length → k ≠ wb ∧ k ≠ lb) :
    Calls Try.prog 11 #[.pointer (some ⟨cb, 0, none⟩), .slice a m cap] w fun e w' => ∃ x st', e = .returned x ∧ OwnBs w' 5 25 w.heap.size (chunks p l) x ∧ Chk w' cb wb lb tb p st' ∧ Ext (fun k => k = wb ∨ k = lb) w w' := by
  have HC := Lib.hid hc; have HV := Lib.hid hv; have HP := Lib.hid hp; have HL := Lib.hid hl; have HVB := Lib.hid hvb
  clear hc hv hp hl hvb
  refine (callsIn_wide (n := 0)).1 ?_
  refine callsIn_of_wp_marks Try.func11 rfl trivial ?_ rfl
  simp only [Try.ntmps11, List.size_toArray, List.length_cons, List.length_nil, Nat.reduceAdd, Nat.reduceSub, Array.replicate_succ, Array.replicate_zero, List.push_toArray, List.append_toArray, List.nil_append, List.cons_append]
  gi_wp2_with fail
  refine ⟨trivial, rfl, (callsIn_wide.2 (all_any cb a m cap _)).mono ?_⟩
  rintro e w1 ⟨bb, cc, rfl, hbb, hcc, hx1, h1, h2⟩
  rw [World.size_alloc] at h1 h2
  have hx0 : Ext No w (w.alloc (.cells #[.slice none 0 0] 33)) := (Ext.refl No w).alloc _
  have hx2 := hx0.trans' hx1
  have hob := (Blk.new w #[.slice none 0 0] 33).ext hx1 (fun x => x)
  have hall : AllIn w1 bb cc cb wb lb tb p l (.slice a m cap) := ⟨hbb, hcc, ⟨st, HC.out.ext hx2 (fun x => x) (fun x => x) (fun x => x) (fun x => x)⟩, HV.out.ext0 hx2, HVB.out⟩
  have hg0 : Gath w w1 w.heap.size (w1.heap.size + 2) wb lb [] := ⟨⟨none, 0, hob, OwnBs.nil _ _ _ _⟩, hx2.mono (fun _ _ h => h.elim)⟩
  have l1 := hbb.lt; have l2 := hcc.lt; have l3 := HC.out.head.lt; have l4 := HC.out.win.head.lt; have l5 := HC.out.win.row.lt
  have l6 : tb < w.heap.size := Blk.lt HC.out.tab
  have l7 := hob.lt
  have lv : ∀ k, (Value.slice a m cap).ownBlock = some k → 0 < l.length → k < w.heap.size := fun k hk h0 => IsRow.lt HV.out h0 hk
  have HG0 := Lib.hid hg0; have HALL := Lib.hid hall
  have HLT := Lib.hid (And.intro h1 (And.intro h2 (And.intro l1 (And.intro l2 (And.intro l3 (And.intro l4 (And.intro l5 (And.intro l6 (And.intro l7 lv)))))))))
  clear hx1 h1 h2 hx0 hx2 hob hall hg0 l1 l2 l3 l4 l5 l6 l7 lv hbb hcc HC HV HVB
  dsimp only
  gi_wp2_with fail
  refine wpIn_range (gf := 26) (lb := #[.pointer (some ⟨bb, 0, none⟩), .pointer (some ⟨cc, 0, none⟩)]) rfl (enters_of Try.func26 (by kernel_rfl) rfl)
    (fun k => k = w.heap.size ∨ w1.heap.size + 2 ≤ k) (fun k => k = wb ∨ k = lb) (N := (chunks p l).length)
    (all_seq bb cc cb wb lb tb p HP.out l (.slice a m cap) w1 HALL.out HL.out _ ?hT ?hTv) ?hFin ?hps ?hA ?hU0 ?hU1 ?hS0 ?hS1
    (fun k W => Gath w W w.heap.size (w1.heap.size + 2) wb lb ((chunks p l).take k)) (fun _ _ _ => False) ?hI (fun _ _ _ _ h _ => h) HG0.out
    (fun args => { tmps := #[.pointer (some ⟨cb, 0, none⟩), .slice a m cap, undef, undef, .slice none 0 0, .pointer (some ⟨w.heap.size, 0, none⟩), undef, args.getD 1 undef, .pointer (some ⟨cb, 0, none⟩), .slice a m cap, .func (.func 26) #[] #[.pointer (some ⟨bb, 0, none⟩), .pointer (some ⟨cc, 0, none⟩)], args.getD 0 undef, args.getD 1 undef, undef, undef, undef, undef, undef], defers := [] })
    ?assign ?body ?done (fun _ _ _ _ h => h.elim)
  case hT =>
    obtain ⟨h1, h2, l1, l2, l3, l4, l5, l6, l7, lv⟩ := HLT.out
    intro k hk; omega
  case hTv =>
    obtain ⟨h1, h2, l1, l2, l3, l4, l5, l6, l7, lv⟩ := HLT.out
    intro k hk h0 ht
    have := lv k hk h0; omega
  case hFin =>
    obtain ⟨h1, h2, l1, l2, l3, l4, l5, l6, l7, lv⟩ := HLT.out
    intro A B h hx
    exact h.ext hx (fun k hk => by have := hk.elim False.elim And.left; omega) (fun k hk h0 ht => by have := ht.elim False.elim And.left; have := lv k hk h0; omega)
  case hps => rintro k args W ⟨x, rfl, -⟩; rfl
  case hA => rintro k args W r o ⟨x, rfl, hx⟩ hl; exact ⟨x, rfl, own_putObj hx hl o⟩
  case hU0 => have := HLT.out; omega
  case hU1 => have := HLT.out; omega
  case hS0 => obtain ⟨h1, h2, l1, l2, l3, l4, l5, l6, l7, lv⟩ := HLT.out; omega
  case hS1 => obtain ⟨h1, h2, l1, l2, l3, l4, l5, l6, l7, lv⟩ := HLT.out; omega
  case hI =>
    obtain ⟨h1, h2, l1, l2, l3, l4, l5, l6, l7, lv⟩ := HLT.out
    intro k A B h hx
    exact h.turn (by omega) hx (fun k hk => by omega) (by omega) (fun k hk h => by omega)
  case assign =>
    rintro y k args W K ⟨x, rfl, -⟩ hK
    gi_wp2_with fail
    exact hK
  case body =>
    rintro y k args W hkN hg ⟨x, rfl, hx⟩ hsz
    have hkl := chunks_len p HP.out l
    have hll := HL.out
    have htk : ((chunks p l).take k).length = k := by rw [List.length_take]; omega
    obtain ⟨⟨a5, c5, hb5, ⟨xs, ho5, he5⟩⟩, hx5⟩ := hg
    rw [htk] at hb5 ho5 he5
    generalize hcl : (chunks p l).getD k [] = cl at hx
    obtain ⟨ax, cx, hxf⟩ := own_form hx
    generalize hnx : cl.length = nx at hxf
    subst hxf
    have HCL := Lib.hid hcl; have HKN := Lib.hid hkN; have HTK := Lib.hid htk; clear hcl hnx htk
    have hc5 := hb5.cell 0
    have hf5 := hb5.free 0
    simp only [List.getElem?_toArray, List.getElem?_cons_zero] at hc5
    have HB5 := Lib.hid hb5; have HO5 := Lib.hid ho5; have HE5 := Lib.hid he5; have HX5 := Lib.hid hx5; have HX := Lib.hid hx
    have HN := Lib.hid (show k + 1 ≤ 9223372036854775807 ∧ (k + 1) * 24 ≤ 140737488355328 by omega)
    have HZ := Lib.hid hsz
    have HB5a := Lib.hid (HB5.out.alloc (.cells #[.slice ax nx cx] 25))
    have HO5a := Lib.hid (HO5.out.alloc (.cells #[.slice ax nx cx] 25))
    have HNE := Lib.hid (own_ne_type HO5a.out HB5a.out (by decide))
    clear hb5 ho5 he5 hx5 hx hsz hkN
    gi_wp2_with (gi_at_builtin; refine wpListIn_app1 _ _ rfl _ _ 33 rfl (w1.heap.size + 2) 25 _ _ sl_info Try.underlying33 rfl _ _ _ rfl HO5a.out _ rfl (cell_new _ _ _ rfl) rfl HN.out.1 HN.out.2 (le_alloc HZ.out _) ?_; intro v' w2 hown hgrow hat; obtain ⟨a6, c6, rfl⟩ := own_form hown; have hb6 := HB5a.out.grown hgrow HNE.out; have hc6 := hb6.cell 0; have hf6 := hb6.free 0; simp only [List.getElem?_toArray, List.getElem?_cons_zero] at hc6)
    obtain ⟨h1, h2, l1, l2, l3, l4, l5, l6, l7, lv⟩ := HLT.out
    have hrow : ∀ j, (Value.slice a5 k c5).ownBlock = some j → w1.heap.size + 2 ≤ j := fun j hj => (World.ownsRow.lt HO5a.out j hj).1
    have htk : ((chunks p l).take k).length = k := HTK.out
    have hcl : (chunks p l).take (k + 1) = (chunks p l).take k ++ [cl] := by
      have hkN := HKN.out
      rw [List.take_add_one, List.getElem?_eq_getElem hkN, ← HCL.out]
      simp [List.getD_eq_getElem?_getD, List.getElem?_eq_getElem hkN]
    refine ⟨(((Ext.refl _ W).alloc _).grown hgrow (fun j hj _ => .inr (hrow j hj))).setCell _ _ (fun _ => .inl rfl), ?_, ?_⟩
    · have hap := OwnBs.app (u8 := 5) (sb := 25) (ls := (chunks p l).take k) (v := .slice a5 k c5) (v' := .slice a6 (k + 1) c6) (by decide) (by rw [htk]; exact HO5a.out) (fun i hi => World.ownsRow.alloc (HE5.out i (by omega)) _) (World.ownsRow.alloc HX.out _) (by rw [htk]; exact hown) hgrow
      rw [← hcl] at hap
      have hlen : ((chunks p l).take (k + 1)).length = k + 1 := by rw [List.length_take]; have := HKN.out; omega
      rw [hlen]
      refine ⟨a6, c6, hb6.set 0 _, ?_⟩
      exact hap.ext ((Ext.refl (fun j => j = w.heap.size) w2).setCell _ _ (fun _ => rfl)) (fun j hj => by omega)
    · exact (((HX5.out.alloc _).grown hgrow (fun j hj hj' => by have := hrow j hj; omega)).setCell _ _ (fun h => absurd h (Nat.lt_irrefl _)))
  case done =>
    intro W hg hfin hK
    obtain ⟨⟨a5, c5, hb5, ho5⟩, hx5⟩ := hg
    rw [List.take_length] at hb5 ho5
    have hc5 := hb5.cell 0
    simp only [List.getElem?_toArray, List.getElem?_cons_zero] at hc5
    have HO5 := Lib.hid ho5; have HX5 := Lib.hid hx5; have HF := Lib.hid hfin
    clear ho5 hx5 hb5 hfin
    gi_wp2_with fail
    refine ⟨by simp, .inl ⟨_, _, rfl, run_takeDeferred hK, ?_⟩⟩
    obtain ⟨h1, h2, l1, l2, l3, l4, l5, l6, l7, lv⟩ := HLT.out
    obtain ⟨st', hst⟩ := HF.out.chk
    have hxp : Ext (fun j => j = w1.heap.size) W (W.putObj w1.heap.size (.deferred none)) := (Ext.refl _ W).putObj _ _ (fun _ => rfl)
    exact ⟨_, results_tmp rfl _ _ _, _, st', rfl, (HO5.out.ext hxp (fun j hj => by omega)).le (by omega), hst.ext hxp (by omega) (by omega) (by omega) (by omega), HX5.out.trans hxp (fun _ _ h => h) (fun j hj h => by omega)⟩

end Go.Proofs.Ytceiahjhfbghpaa
