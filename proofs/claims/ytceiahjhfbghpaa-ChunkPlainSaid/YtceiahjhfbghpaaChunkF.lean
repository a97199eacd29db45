/- The contract of all (the statements' own function). -/
import Derived.Test.YtceiahjhfbghpaaChunkE
namespace Go.Proofs.Ytceiahjhfbghpaa
open Go.RowKit Go.My Go.Shelf

attribute [local go_sem] Oper.semAt_some

theorem cuts_flat (p : Prm) (hp : p.Ok) (d : Nat) : ∀ l : List UInt8, l.length ≤ d → (cuts p d l).flatten = l := by
  induction d with
  | zero => intro l h; have : l = [] := List.length_eq_zero_iff.1 (by omega); subst this; rfl
  | succ d ih =>
    intro l h
    rw [cuts]
    split
    · simp_all
    · rename_i hl
      have := firstLen_pos p l hp (List.length_pos_iff.2 hl)
      rw [List.flatten_cons, ih _ (by rw [List.length_drop]; omega), List.take_append_drop]
theorem chunks_flat (p : Prm) (hp : p.Ok) (l : List UInt8) : (chunks p l).flatten = l := cuts_flat p hp _ l (Nat.le_refl _)
theorem offs_succ (p : Prm) (l : List UInt8) (k : Nat) (hk : k < (chunks p l).length) : offs p l (k + 1) = offs p l k + ((chunks p l).getD k []).length := by
  unfold offs
  rw [List.take_add_one, List.flatten_append, List.length_append]
  simp [List.getD_eq_getElem?_getD, List.getElem?_eq_getElem hk]
theorem offs_le (p : Prm) (hp : p.Ok) (l : List UInt8) (k : Nat) : offs p l k ≤ l.length := by
  have h := congrArg List.length (chunks_flat p hp l)
  unfold offs
  conv at h => lhs; rw [← List.take_append_drop k (chunks p l), List.flatten_append, List.length_append]
  omega

/-- what all has gathered -/
structure GathA (w W : World) (bm b6 b7 b8 b9 D0 D wb lb : Nat) (most : Int) (p : Prm) (l : List UInt8) (k : Nat) : Prop where
  out : ∃ a c, Blk W b8 #[.slice a k c] 33 ∧ OwnBs W 5 25 w.heap.size ((chunks p l).take k) (.slice a k c) ∧ ∀ j, (Value.slice a k c).ownBlock = some j → j < D0 ∨ D + 2 ≤ j
  last : Blk W b9 #[.int .i64 (offs p l k : Nat)] 3
  mst : Blk W bm #[.int .i64 most] 3
  r6 : Blk W b6 #[.slice none 0 0] 33
  r7 : Blk W b7 #[.bool false] 4
  lt : (k : Int) < most
  ext : Ext (fun k => k = wb ∨ k = lb) w W
/-- and where it ends early -/
structure GathX (w W : World) (b6 b7 wb lb : Nat) (most : Int) (p : Prm) (l : List UInt8) (k : Nat) : Prop where
  out : ∃ x, Blk W b6 #[x] 33 ∧ OwnBs W 5 25 w.heap.size ((chunks p l).take k) x
  r7 : Blk W b7 #[.bool true] 4
  eq : (k : Int) = most
  ext : Ext (fun k => k = wb ∨ k = lb) w W
theorem GathA.turn {w W W' : World} {bm b6 b7 b8 b9 D0 D wb lb : Nat} {most : Int} {p : Prm} {l : List UInt8} {k : Nat} {D' : Nat} (h : GathA w W bm b6 b7 b8 b9 D0 D wb lb most p l k) (hD : w.heap.size ≤ D')
    (x : Ext (fun j => (j = wb ∨ j = lb) ∨ (j = D' ∧ NC W j)) W W') (hb : w.heap.size ≤ bm ∧ w.heap.size ≤ b6 ∧ w.heap.size ≤ b7 ∧ w.heap.size ≤ b8 ∧ w.heap.size ≤ b9 ∧ wb < w.heap.size ∧ lb < w.heap.size) : GathA w W' bm b6 b7 b8 b9 D0 D wb lb most p l k := by
  obtain ⟨⟨a, c, h8, ho, hj⟩, h9, hm, h6, h7, hlt, he⟩ := h
  exact ⟨⟨a, c, h8.extN x (by omega), ho.extN x (fun k hk => by omega), hj⟩, h9.extN x (by omega), hm.extN x (by omega), h6.extN x (by omega), h7.extN x (by omega), hlt,
    he.trans x (fun _ _ h => h) (fun k hk h => h.elim id (fun h => absurd hk (by omega)))⟩
theorem GathX.turn {w W W' : World} {b6 b7 wb lb : Nat} {most : Int} {p : Prm} {l : List UInt8} {k : Nat} {D' : Nat} (h : GathX w W b6 b7 wb lb most p l k) (hD : w.heap.size ≤ D')
    (x : Ext (fun j => (j = wb ∨ j = lb) ∨ (j = D' ∧ NC W j)) W W') (hb : w.heap.size ≤ b6 ∧ w.heap.size ≤ b7 ∧ wb < w.heap.size ∧ lb < w.heap.size) : GathX w W' b6 b7 wb lb most p l k := by
  obtain ⟨⟨y, h6, ho⟩, h7, hlt, he⟩ := h
  exact ⟨⟨y, h6.extN x (by omega), ho.extN x (fun k hk => by omega)⟩, h7.extN x (by omega), hlt,
    he.trans x (fun _ _ h => h) (fun k hk h => h.elim id (fun h => absurd hk (by omega)))⟩

set_option maxRecDepth 100000 in
set_option maxHeartbeats 4000000 in
theorem alls_any (cb wb lb tb : Nat) (p : Prm) (hp : p.Ok) (st : WS) (l : List UInt8) (a : Option Addr) (m cap : Nat) (most : Int) (w : World) (hc : Chk w cb wb lb tb p st) (hv : IsBytes w l (.slice a m cap)) (hl : l.length ≤ 1099511627776)
    (hvb : ∀ k, (Value.slice a m cap).ownBlock = some k → 0 < l.length → k ≠ wb ∧ k ≠ lb) :
    Calls Try.prog 13 #[.pointer (some ⟨cb, 0, none⟩), .slice a m cap, .int .i64 most] w fun e w' => ∃ x st', e = .returned (.tuple #[x, .bool true]) ∧ OwnBs w' 5 25 w.heap.size ((chunks p l).take most.toNat) x ∧ Chk w' cb wb lb tb p st' ∧ Ext (fun k => k = wb ∨ k = lb) w w' := by
  have HC := Lib.hid hc; have HV := Lib.hid hv; have HP := Lib.hid hp; have HL := Lib.hid hl; have HVB := Lib.hid hvb
  clear hc hv hp hl hvb
  refine (callsIn_wide (n := 0)).1 ?_
  refine callsIn_of_wp_marks Try.func13 rfl trivial ?_ rfl
  simp only [Try.ntmps13, List.size_toArray, List.length_cons, List.length_nil, Nat.reduceAdd, Nat.reduceSub, Array.replicate_succ, Array.replicate_zero, List.push_toArray, List.append_toArray, List.nil_append, List.cons_append]
  by_cases hm : most ≤ 0
  · obtain ⟨w0, hw0⟩ : ∃ w0, lay w [(#[.int .i64 most], 3), (#[.slice (some ⟨w.heap.size + 3, 0, none⟩) 0 0], 33), (#[.bool true], 4), (#[], 25), (#[.slice (some ⟨w.heap.size + 3, 0, none⟩) 0 0], 33)] = w0 := ⟨_, rfl⟩
    have hx : Ext No w w0 := by rw [← hw0]; exact lay_ext _ (Ext.refl _ _)
    have hb1 := lay_at hw0 1 _ _ rfl
    have hb2 := lay_at hw0 2 _ _ rfl
    have hb3 := lay_at hw0 3 _ _ rfl
    have hc1 := hb1.cell 0
    have hc2 := hb2.cell 0
    simp only [List.getElem?_toArray, List.getElem?_cons_zero] at hc1 hc2
    simp only [lay] at hw0; have HW0 := Lib.hid hw0; clear hw0
    have HX := Lib.hid hx; have HB3 := Lib.hid hb3; clear hx hb3 hb1 hb2
    gi_wp2_with fail
    rw [HW0.out]; clear HW0
    have hown : OwnBs w0 5 25 w.heap.size [] (.slice (some ⟨w.heap.size + 3, 0, none⟩) 0 0) :=
      ⟨[], ⟨rfl, .inr ⟨_, 0, #[], rfl, by omega, HB3.out, by simp, by decide, by simp, by simp⟩⟩, fun i hi => by simp at hi⟩
    refine ⟨.tuple #[.slice (some ⟨w.heap.size + 3, 0, none⟩) 0 0, .bool true], by simp [results, Try.func13, Try.f13, go_sem, hc1, hc2], _, st, rfl, ?_, HC.out.ext HX.out (fun x => x) (fun x => x) (fun x => x) (fun x => x), HX.out.mono (fun _ _ h => h.elim)⟩
    rw [show most.toNat = 0 by omega, List.take_zero]; exact hown
  · have hm' : decide (most ≤ 0) = false := by simp; omega
    obtain ⟨w0, hw0⟩ : ∃ w0, lay w [(#[.int .i64 most], 3), (#[.slice none 0 0], 33), (#[.bool false], 4), (#[], 25), (#[.slice (some ⟨w.heap.size + 3, 0, none⟩) 0 0], 33), (#[.int .i64 0], 3)] = w0 := ⟨_, rfl⟩
    have hx : Ext No w w0 := by rw [← hw0]; exact lay_ext _ (Ext.refl _ _)
    have hsz : w0.heap.size = w.heap.size + 6 := by rw [← hw0]; exact lay_size _ w
    have hb0 := lay_at hw0 0 _ _ rfl
    have hb1 := lay_at hw0 1 _ _ rfl
    have hb2 := lay_at hw0 2 _ _ rfl
    have hb3 := lay_at hw0 3 _ _ rfl
    have hb4 := lay_at hw0 4 _ _ rfl
    have hb5 := lay_at hw0 5 _ _ rfl
    simp only [lay] at hw0; have HW0 := Lib.hid hw0; clear hw0
    have HX := Lib.hid hx; have HSZ := Lib.hid hsz; have HB := Lib.hid (And.intro hb0 (And.intro hb1 (And.intro hb2 (And.intro hb3 (And.intro hb4 hb5))))); clear hx hb3 hb1 hb2 hb4 hb5 hsz hb0
    gi_wp2_with fail
    rw [HW0.out]; clear HW0
    refine ⟨trivial, rfl, (callsIn_wide.2 (all_any cb a m cap _)).mono ?_⟩
    rintro e w1 ⟨bb, cc, rfl, hbb, hcc, hx1, h1, h2⟩
    have hx2 := HX.out.trans' hx1
    have hall : AllIn w1 bb cc cb wb lb tb p l (.slice a m cap) := ⟨hbb, hcc, ⟨st, HC.out.ext hx2 (fun x => x) (fun x => x) (fun x => x) (fun x => x)⟩, HV.out.ext0 hx2, HVB.out⟩
    have hn : OwnBs w0 5 25 w.heap.size [] (.slice (some ⟨w.heap.size + 3, 0, none⟩) 0 0) :=
      ⟨[], ⟨rfl, .inr ⟨_, 0, #[], rfl, by omega, HB.out.2.2.2.1, by simp, by decide, by simp, by simp⟩⟩, fun i hi => by simp at hi⟩
    have hg0 : GathA w w1 (w.heap.size + 0) (w.heap.size + 1) (w.heap.size + 2) (w.heap.size + 4) (w.heap.size + 5) w0.heap.size w1.heap.size wb lb most p l 0 := by
      obtain ⟨hb0, hb1, hb2, hb3, hb4, hb5⟩ := HB.out
      refine ⟨⟨_, _, hb4.ext hx1 (fun x => x), ?_, ?_⟩, hb5.ext hx1 (fun x => x), hb0.ext hx1 (fun x => x), hb1.ext hx1 (fun x => x), hb2.ext hx1 (fun x => x), by omega, hx2.mono (fun _ _ h => h.elim)⟩
      · rw [List.take_zero]; exact hn.ext hx1 (fun _ _ x => x)
      · intro j hj
        have : w.heap.size + 3 = j := Option.some.inj hj
        have := HSZ.out; omega
    have l1 := hbb.lt; have l2 := hcc.lt; have l3 := HC.out.head.lt; have l4 := HC.out.win.head.lt; have l5 := HC.out.win.row.lt
    have l6 : tb < w.heap.size := Blk.lt HC.out.tab
    have l7 := HSZ.out
    have l8 := hx1.size
    have lv : ∀ k, (Value.slice a m cap).ownBlock = some k → 0 < l.length → k < w.heap.size := fun k hk h0 => IsRow.lt HV.out h0 hk
    dsimp only
    generalize h9 : w.heap.size + 1 + 1 + 1 + 1 + 1 = b9
    generalize h8 : w.heap.size + 1 + 1 + 1 + 1 = b8
    generalize h3 : w.heap.size + 1 + 1 + 1 = b3
    generalize h7 : w.heap.size + 1 + 1 = b7
    generalize h6 : w.heap.size + 1 = b6
    have hg1 : GathA w w1 w.heap.size b6 b7 b8 b9 w0.heap.size w1.heap.size wb lb most p l 0 := by subst h6 h7 h8 h9; exact hg0
    have HG0 := Lib.hid hg1; have HALL := Lib.hid hall
    have HLT := Lib.hid (And.intro (show b6 = w.heap.size + 1 ∧ b7 = w.heap.size + 2 ∧ b8 = w.heap.size + 4 ∧ b9 = w.heap.size + 5 by omega) (And.intro h1 (And.intro h2 (And.intro l1 (And.intro l2 (And.intro l3 (And.intro l4 (And.intro l5 (And.intro l6 (And.intro l7 (And.intro l8 lv)))))))))))
    clear hg0 hg1 hn hall hx1 hx2 hbb hcc h1 h2 l1 l2 l3 l4 l5 l6 l7 l8 lv h9 h8 h3 h7 h6 HX HB HSZ HV HC HVB
    gi_wp2_with fail
    refine wpIn_range (gf := 26) (lb := #[.pointer (some ⟨bb, 0, none⟩), .pointer (some ⟨cc, 0, none⟩)]) rfl (enters_of Try.func26 (by kernel_rfl) rfl)
      (fun k => (w.heap.size ≤ k ∧ k < w0.heap.size) ∨ w1.heap.size + 2 ≤ k) (fun k => k = wb ∨ k = lb) (N := (chunks p l).length)
      (all_seq bb cc cb wb lb tb p HP.out l (.slice a m cap) w1 HALL.out HL.out _ ?hT ?hTv) ?hFin ?hps ?hA ?hU0 ?hU1 ?hS0 ?hS1
      (fun k W => GathA w W w.heap.size b6 b7 b8 b9 w0.heap.size w1.heap.size wb lb most p l k) (fun c k W => c = .ret ∧ GathX w W b6 b7 wb lb most p l k) ?hI ?hIx HG0.out
      (fun args => { tmps := #[.pointer (some ⟨cb, 0, none⟩), .slice a m cap, .int .i64 most, undef, undef, .pointer (some ⟨w.heap.size, 0, none⟩), .pointer (some ⟨b6, 0, none⟩), .pointer (some ⟨b7, 0, none⟩), .pointer (some ⟨b8, 0, none⟩), .pointer (some ⟨b9, 0, none⟩),
        args.getD 0 undef, args.getD 1 undef, .slice (some ⟨b3, 0, none⟩) 0 0, .int .i64 most, .bool false, undef, .pointer (some ⟨cb, 0, none⟩), .slice a m cap, .func (.func 26) #[] #[.pointer (some ⟨bb, 0, none⟩), .pointer (some ⟨cc, 0, none⟩)], args.getD 0 undef, args.getD 1 undef, undef, undef, undef, undef, undef, undef, undef, undef, undef, undef, undef, undef, undef, undef, undef, undef, undef], defers := [] })
      ?assign ?body ?done ?stop
    case hT =>
      obtain ⟨h0, h1, h2, l1, l2, l3, l4, l5, l6, l7, l8, lv⟩ := HLT.out
      intro k hk; omega
    case hTv =>
      obtain ⟨h0, h1, h2, l1, l2, l3, l4, l5, l6, l7, l8, lv⟩ := HLT.out
      intro k hk h0 ht
      have := lv k hk h0; omega
    case hFin =>
      obtain ⟨h0, h1, h2, l1, l2, l3, l4, l5, l6, l7, l8, lv⟩ := HLT.out
      intro A B h hx
      exact h.ext hx (fun k hk => by have := hk.elim False.elim And.left; omega) (fun k hk h0 ht => by have := ht.elim False.elim And.left; have := lv k hk h0; omega)
    case hps => rintro k args W ⟨x, rfl, -⟩; rfl
    case hA => rintro k args W r o ⟨x, rfl, hx⟩ hl; exact ⟨x, rfl, own_putObj hx hl o⟩
    case hU0 => obtain ⟨h0, h1, h2, l1, l2, l3, l4, l5, l6, l7, l8, lv⟩ := HLT.out; omega
    case hU1 => obtain ⟨h0, h1, h2, l1, l2, l3, l4, l5, l6, l7, l8, lv⟩ := HLT.out; omega
    case hS0 => obtain ⟨h0, h1, h2, l1, l2, l3, l4, l5, l6, l7, l8, lv⟩ := HLT.out; omega
    case hS1 => obtain ⟨h0, h1, h2, l1, l2, l3, l4, l5, l6, l7, l8, lv⟩ := HLT.out; omega
    case hI =>
      obtain ⟨h0, h1, h2, l1, l2, l3, l4, l5, l6, l7, l8, lv⟩ := HLT.out
      intro k A B h hx
      exact h.turn (by omega) hx (by omega)
    case hIx =>
      obtain ⟨h0, h1, h2, l1, l2, l3, l4, l5, l6, l7, l8, lv⟩ := HLT.out
      rintro c k A B ⟨rfl, h⟩ hx
      exact ⟨rfl, h.turn (by omega) hx (by omega)⟩
    case assign =>
      rintro y k args W K ⟨x, rfl, -⟩ hK
      gi_wp2_with fail
      exact hK
    case body =>
      rintro y k args W hkN hg ⟨x, rfl, hx⟩ hsz
      obtain ⟨h0, h1, h2, l1, l2, l3, l4, l5, l6, l7, l8, lv⟩ := HLT.out
      have hkl := chunks_len p HP.out l
      have hll := HL.out
      have hoL := offs_le p HP.out l (k + 1)
      have hos := offs_succ p l k hkN
      have htk : ((chunks p l).take k).length = k := by rw [List.length_take]; omega
      obtain ⟨⟨a5, c5, hb8, ⟨xs, ho5, he5⟩, hj⟩, hb9, hbm, hb6, hb7, hlt, hext⟩ := hg
      rw [htk] at ho5 he5
      generalize hcl : (chunks p l).getD k [] = cl at hx hos
      generalize hof : offs p l k = o at hos hb9 ⊢
      obtain ⟨ax, cx, hxf⟩ := own_form hx
      have hb : o + cl.length ≤ 1099511627776 := by omega
      generalize hnx : cl.length = nx at hxf hos hb
      subst hxf
      have HB := Lib.hid (And.intro hb6 (And.intro hb7 (And.intro hb8 (And.intro hb9 hbm)))); have HO5 := Lib.hid ho5; have HE5 := Lib.hid he5; have HX5 := Lib.hid hext; have HX := Lib.hid hx; have HJ := Lib.hid hj
      have HN := Lib.hid (show k + 1 ≤ 9223372036854775807 ∧ (k + 1) * 24 ≤ 140737488355328 by omega)
      have HZ := Lib.hid hsz; have HCL := Lib.hid hcl; have HKN := Lib.hid hkN; have HTK := Lib.hid htk; have HOF := Lib.hid hof; have HOS := Lib.hid hos; have HLT5 := Lib.hid hlt
      have hc9 := hb9.cell 0; have hf9 := hb9.free 0; have hc8 := hb8.cell 0; have hf8 := hb8.free 0; have hcm := hbm.cell 0
      have hc6 := hb6.cell 0; have hf6 := hb6.free 0; have hc7 := hb7.cell 0; have hf7 := hb7.free 0
      simp only [List.getElem?_toArray, List.getElem?_cons_zero] at hc9 hc8 hcm hc6 hc7
      have hn1 : b9 ≠ b8 := by omega
      have hn2 : b8 ≠ b9 := by omega
      have hn3 : b9 ≠ w.heap.size := by omega
      have hn4 : b6 ≠ b7 := by omega
      have hn5 : b8 ≠ w.heap.size := by omega
      have hn6 : b8 ≠ b6 := by omega
      have hn7 : b8 ≠ b7 := by omega
      have hb9a := hb9.set 0 (.int .i64 ((o : Int) + nx))
      have hb8a := (hb8.set_other ⟨b9, 0, none⟩ (.int .i64 ((o : Int) + nx)) (fun h => hn2 h)).alloc (.cells #[.slice ax nx cx] 25)
      have hbma := (hbm.set_other ⟨b9, 0, none⟩ (.int .i64 ((o : Int) + nx)) (fun h => hn3 h.symm)).alloc (.cells #[.slice ax nx cx] 25)
      have hb6a := (hb6.set_other ⟨b9, 0, none⟩ (.int .i64 ((o : Int) + nx)) (fun h => by simp only at h; omega)).alloc (.cells #[.slice ax nx cx] 25)
      have hb7a := (hb7.set_other ⟨b9, 0, none⟩ (.int .i64 ((o : Int) + nx)) (fun h => by simp only at h; omega)).alloc (.cells #[.slice ax nx cx] 25)
      have hx9 : Ext (fun j => j = b9) W (W.setCell ⟨b9, 0, none⟩ (.int .i64 ((o : Int) + nx))) := (Ext.refl _ W).setCell _ _ (fun _ => rfl)
      have hne9 := own_ne_type ho5 hb9 (by decide)
      have ho5a := (own_ext ho5 hx9 (fun j hj h => hne9 (by rw [hj, h]))).alloc (.cells #[.slice ax nx cx] 25)
      have he5a : ∀ i, i < k → OwnB ((W.setCell ⟨b9, 0, none⟩ (.int .i64 ((o : Int) + nx))).alloc (.cells #[.slice ax nx cx] 25)) 5 w.heap.size (((chunks p l).take k).getD i []) (xs.getD i undef) := fun i hi =>
        World.ownsRow.alloc (own_ext (he5 i (by omega)) hx9 (fun j hj h => own_ne_type (he5 i (by omega)) hb9 (by decide) (by rw [hj, h]))) _
      have hxa : OwnB ((W.setCell ⟨b9, 0, none⟩ (.int .i64 ((o : Int) + nx))).alloc (.cells #[.slice ax nx cx] 25)) 5 w.heap.size cl (.slice ax nx cx) :=
        World.ownsRow.alloc (own_ext (own_le hx (by omega)) hx9 (fun j hj h => own_ne_type hx hb9 (by decide) (by rw [hj, h]))) _
      have hsza : W.heap.size = (W.setCell ⟨b9, 0, none⟩ (.int .i64 ((o : Int) + nx))).heap.size := by simp
      have hza : w.heap.size ≤ ((W.setCell ⟨b9, 0, none⟩ (.int .i64 ((o : Int) + nx))).alloc (.cells #[.slice ax nx cx] 25)).heap.size := by rw [World.size_alloc, ← hsza]; omega
      have HB8 := Lib.hid hb8a; have HBM := Lib.hid hbma; have HB6 := Lib.hid hb6a; have HB7 := Lib.hid hb7a; have HB9 := Lib.hid (hb9a.alloc (.cells #[.slice ax nx cx] 25))
      have HN8 := Lib.hid (own_ne_type ho5a hb8a (by decide)); have HNM := Lib.hid (own_ne_type ho5a hbma (by decide)); have HN6 := Lib.hid (own_ne_type ho5a hb6a (by decide)); have HN7 := Lib.hid (own_ne_type ho5a hb7a (by decide)); have HN9 := Lib.hid (own_ne_type ho5a HB9.out (by decide))
      have HO5a := Lib.hid ho5a; have HE5a := Lib.hid he5a; have HXa := Lib.hid hxa; have HZa := Lib.hid hza; have HSA := Lib.hid hsza
      clear hb8 hb9 hbm hb6 hb7 ho5 he5 hext hx hj hsz hcl hkN htk hof hos hkl hll hoL hlt hnx h0 h1 h2 l1 l2 l3 l4 l5 l6 l7 l8 lv hb8a hbma hb6a hb7a hb9a hx9 hne9 ho5a he5a hxa hza hsza
      clear hc6 hf6 hc7 hf7
      by_cases hme : (k : Int) + 1 = most
      · have hd1 : decide ((k : Int) + 1 = most) = true := by simpa using hme
        have hd2 : ((k : Int) + 1 == most) = true := by simpa using hme
        have HME := Lib.hid hme; clear hme
        gi_wp2_with (gi_at_builtin; refine wpListIn_app1 _ _ rfl _ _ 33 rfl w.heap.size 25 _ _ sl_info Try.underlying33 rfl _ _ _ rfl HO5a.out _ rfl (cell_new _ _ _ HSA.out) rfl HN.out.1 HN.out.2 HZa.out ?_; intro v' w2 hown hgrow hat; obtain ⟨a6, c6, rfl⟩ := own_form hown; have hd8 := (HB8.out.grown hgrow HN8.out).cell 0; have hg8 := (HB8.out.grown hgrow HN8.out).free 0; have hd6 := (HB6.out.grown hgrow HN6.out).cell 0; have hg6 := (HB6.out.grown hgrow HN6.out).free 0; have hd7 := (HB7.out.grown hgrow HN7.out).cell 0; have hg7 := (HB7.out.grown hgrow HN7.out).free 0; have hdm := (HBM.out.grown hgrow HNM.out).cell 0; simp only [List.getElem?_toArray, List.getElem?_cons_zero] at hd8 hd6 hd7 hdm)
        obtain ⟨h0, h1, h2, l1, l2, l3, l4, l5, l6, l7, l8, lv⟩ := HLT.out
        have hz := HZ.out
        have hU6 : w.heap.size ≤ b6 ∧ b6 < w0.heap.size := by omega
        have hU7 : w.heap.size ≤ b7 ∧ b7 < w0.heap.size := by omega
        have hU8 : w.heap.size ≤ b8 ∧ b8 < w0.heap.size := by omega
        have hU9 : w.heap.size ≤ b9 ∧ b9 < w0.heap.size := by omega
        have hn67 : b6 ≠ b7 := by omega
        have hrow : ∀ j, (Value.slice a5 k c5).ownBlock = some j → w.heap.size ≤ j := fun j hj => (World.ownsRow.lt HO5a.out j hj).1
        have htk : ((chunks p l).take k).length = k := HTK.out
        have hcl : (chunks p l).take (k + 1) = (chunks p l).take k ++ [cl] := by
          have hkN := HKN.out
          rw [List.take_add_one, List.getElem?_eq_getElem hkN, ← HCL.out]
          simp [List.getD_eq_getElem?_getD, List.getElem?_eq_getElem hkN]
        have hap := OwnBs.app (u8 := 5) (sb := 25) (ls := (chunks p l).take k) (v := .slice a5 k c5) (v' := .slice a6 (k + 1) c6) (by decide) (by rw [htk]; exact HO5a.out) (fun i hi => HE5a.out i (by omega)) HXa.out (by rw [htk]; exact hown) hgrow
        rw [← hcl] at hap
        have hB8 := HB8.out.grown hgrow HN8.out; have hB6 := HB6.out.grown hgrow HN6.out; have hB7 := HB7.out.grown hgrow HN7.out; have hBM := HBM.out.grown hgrow HNM.out; have hB9 := HB9.out.grown hgrow HN9.out
        have hU : Ext (fun k => w.heap.size ≤ k ∧ k < w0.heap.size ∨ w1.heap.size + 2 ≤ k) W w2 :=
          (((Ext.refl _ W).setCell ⟨b9, 0, none⟩ (.int .i64 ((o : Int) + nx)) (fun _ => .inl hU9)).alloc (.cells #[.slice ax nx cx] 25)).grown hgrow (fun j hj _ => by have := HJ.out j hj; have := hrow j hj; omega)
        have hE : Ext (fun k => k = wb ∨ k = lb) w w2 :=
          ((HX5.out.setCell ⟨b9, 0, none⟩ (.int .i64 ((o : Int) + nx)) (fun h => absurd h (Nat.not_lt_of_le hU9.1))).alloc (.cells #[.slice ax nx cx] 25)).grown hgrow (fun j hj h => by have := hrow j hj; omega)
        refine ⟨((hU.setCell ⟨b8, 0, none⟩ _ (fun _ => .inl hU8)).setCell ⟨b6, 0, none⟩ _ (fun _ => .inl hU6)).setCell ⟨b7, 0, none⟩ _ (fun _ => .inl hU7), rfl, ?_, ?_, by have := HME.out; omega, ?_⟩
        · have hs : Ext (fun j => j = b8 ∨ j = b6 ∨ j = b7) w2 (((w2.setCell ⟨b8, 0, none⟩ (.slice a6 (k + 1) c6)).setCell ⟨b6, 0, none⟩ (.slice a6 (k + 1) c6)).setCell ⟨b7, 0, none⟩ (.bool true)) :=
            (((Ext.refl _ w2).setCell _ _ (fun _ => .inl rfl)).setCell _ _ (fun _ => .inr (.inl rfl))).setCell _ _ (fun _ => .inr (.inr rfl))
          refine ⟨_, ((hB6.set_other ⟨b8, 0, none⟩ _ (fun h => hn6 h.symm)).set 0 _).set_other ⟨b7, 0, none⟩ _ (fun h => hn67 h), hap.extT hs ?_⟩
          rintro j (rfl | rfl | rfl)
          · exact ⟨_, _, hB8, by decide, by decide⟩
          · exact ⟨_, _, hB6, by decide, by decide⟩
          · exact ⟨_, _, hB7, by decide, by decide⟩
        · exact ((hB7.set_other ⟨b8, 0, none⟩ _ (fun h => hn7 h.symm)).set_other ⟨b6, 0, none⟩ _ (fun h => hn67 h.symm)).set 0 _
        · exact ((hE.setCell ⟨b8, 0, none⟩ _ (fun h => absurd h (Nat.not_lt_of_le hU8.1))).setCell ⟨b6, 0, none⟩ _ (fun h => absurd h (Nat.not_lt_of_le hU6.1))).setCell ⟨b7, 0, none⟩ _ (fun h => absurd h (Nat.not_lt_of_le hU7.1))
      · have hd1 : decide ((k : Int) + 1 = most) = false := by simpa using hme
        have hd2 : ((k : Int) + 1 == most) = false := by simpa using hme
        have HME := Lib.hid hme; clear hme
        gi_wp2_with (gi_at_builtin; refine wpListIn_app1 _ _ rfl _ _ 33 rfl w.heap.size 25 _ _ sl_info Try.underlying33 rfl _ _ _ rfl HO5a.out _ rfl (cell_new _ _ _ HSA.out) rfl HN.out.1 HN.out.2 HZa.out ?_; intro v' w2 hown hgrow hat; obtain ⟨a6, c6, rfl⟩ := own_form hown; have hd8 := (HB8.out.grown hgrow HN8.out).cell 0; have hg8 := (HB8.out.grown hgrow HN8.out).free 0; have hd6 := (HB6.out.grown hgrow HN6.out).cell 0; have hg6 := (HB6.out.grown hgrow HN6.out).free 0; have hd7 := (HB7.out.grown hgrow HN7.out).cell 0; have hg7 := (HB7.out.grown hgrow HN7.out).free 0; have hdm := (HBM.out.grown hgrow HNM.out).cell 0; simp only [List.getElem?_toArray, List.getElem?_cons_zero] at hd8 hd6 hd7 hdm)
        obtain ⟨h0, h1, h2, l1, l2, l3, l4, l5, l6, l7, l8, lv⟩ := HLT.out
        have hz := HZ.out
        have hU6 : w.heap.size ≤ b6 ∧ b6 < w0.heap.size := by omega
        have hU7 : w.heap.size ≤ b7 ∧ b7 < w0.heap.size := by omega
        have hU8 : w.heap.size ≤ b8 ∧ b8 < w0.heap.size := by omega
        have hU9 : w.heap.size ≤ b9 ∧ b9 < w0.heap.size := by omega
        have hn67 : b6 ≠ b7 := by omega
        have hrow : ∀ j, (Value.slice a5 k c5).ownBlock = some j → w.heap.size ≤ j := fun j hj => (World.ownsRow.lt HO5a.out j hj).1
        have htk : ((chunks p l).take k).length = k := HTK.out
        have hcl : (chunks p l).take (k + 1) = (chunks p l).take k ++ [cl] := by
          have hkN := HKN.out
          rw [List.take_add_one, List.getElem?_eq_getElem hkN, ← HCL.out]
          simp [List.getD_eq_getElem?_getD, List.getElem?_eq_getElem hkN]
        have hap := OwnBs.app (u8 := 5) (sb := 25) (ls := (chunks p l).take k) (v := .slice a5 k c5) (v' := .slice a6 (k + 1) c6) (by decide) (by rw [htk]; exact HO5a.out) (fun i hi => HE5a.out i (by omega)) HXa.out (by rw [htk]; exact hown) hgrow
        rw [← hcl] at hap
        have hB8 := HB8.out.grown hgrow HN8.out; have hB6 := HB6.out.grown hgrow HN6.out; have hB7 := HB7.out.grown hgrow HN7.out; have hBM := HBM.out.grown hgrow HNM.out; have hB9 := HB9.out.grown hgrow HN9.out
        have hU : Ext (fun k => w.heap.size ≤ k ∧ k < w0.heap.size ∨ w1.heap.size + 2 ≤ k) W w2 :=
          (((Ext.refl _ W).setCell ⟨b9, 0, none⟩ (.int .i64 ((o : Int) + nx)) (fun _ => .inl hU9)).alloc (.cells #[.slice ax nx cx] 25)).grown hgrow (fun j hj _ => by have := HJ.out j hj; have := hrow j hj; omega)
        have hE : Ext (fun k => k = wb ∨ k = lb) w w2 :=
          ((HX5.out.setCell ⟨b9, 0, none⟩ (.int .i64 ((o : Int) + nx)) (fun h => absurd h (Nat.not_lt_of_le hU9.1))).alloc (.cells #[.slice ax nx cx] 25)).grown hgrow (fun j hj h => by have := hrow j hj; omega)
        have hs : Ext (fun j => j = b8) w2 (w2.setCell ⟨b8, 0, none⟩ (.slice a6 (k + 1) c6)) := (Ext.refl _ w2).setCell _ _ (fun _ => rfl)
        refine ⟨hU.setCell ⟨b8, 0, none⟩ _ (fun _ => .inl hU8), ⟨a6, c6, hB8.set 0 _, hap.extT hs ?_, ?_⟩, ?_, hBM.set_other ⟨b8, 0, none⟩ _ (fun h => hn5 h.symm), hB6.set_other ⟨b8, 0, none⟩ _ (fun h => hn6 h.symm), hB7.set_other ⟨b8, 0, none⟩ _ (fun h => hn7 h.symm), by have := HME.out; have := HLT5.out; omega, hE.setCell ⟨b8, 0, none⟩ _ (fun h => absurd h (Nat.not_lt_of_le hU8.1))⟩
        · rintro j rfl
          exact ⟨_, _, hB8, by decide, by decide⟩
        · intro j hj
          rcases hat with h | h
          · rw [h] at hj; exact HJ.out j hj
          · rw [h] at hj
            have hj' := Option.some.inj hj
            rw [World.size_alloc, ← HSA.out] at hj'
            omega
        · rw [HOS.out]
          have := hB9.set_other ⟨b8, 0, none⟩ (.slice a6 (k + 1) c6) (fun h => hn1 h)
          have e : (((o + nx : Nat)) : Int) = (o : Int) + nx := by omega
          rw [e]
          exact this
    case done =>
      intro W hg hfin hK
      obtain ⟨h0, h1, h2, l1, l2, l3, l4, l5, l6, l7, l8, lv⟩ := HLT.out
      obtain ⟨⟨a5, c5, hb8, ho5, hj⟩, hb9, hbm, hb6, hb7, hlt, hext⟩ := hg
      rw [List.take_length] at ho5
      have hc8 := hb8.cell 0; have hc6 := hb6.cell 0; have hf6 := hb6.free 0; have hc7 := hb7.cell 0; have hf7 := hb7.free 0
      simp only [List.getElem?_toArray, List.getElem?_cons_zero] at hc8 hc6 hc7
      have hn67 : b6 ≠ b7 := by omega
      have hU6 : w.heap.size ≤ b6 ∧ b6 < w0.heap.size := by omega
      have hU7 : w.heap.size ≤ b7 ∧ b7 < w0.heap.size := by omega
      have hU6' : b6 < w1.heap.size := by omega
      have hU7' : b7 < w1.heap.size := by omega
      have HW := Lib.hid (And.intro hb6 (And.intro hb7 (And.intro ho5 (And.intro hext hfin)))); have HK := Lib.hid hK; have HU := Lib.hid (And.intro hU6 (And.intro hU7 (And.intro hU6' hU7'))); have HLT5 := Lib.hid hlt
      clear hb8 hb9 hbm hb6 hb7 ho5 hext hj hfin hK hU6 hU7 hU6' hU7' h0 h1 h2 l1 l2 l3 l4 l5 l6 l7 l8 lv hlt
      gi_wp2_with fail
      obtain ⟨hU6, hU7, hU6', hU7'⟩ := HU.out
      obtain ⟨hb6, hb7, ho5, hext, hfin⟩ := HW.out
      have hK1 : ((W.setCell ⟨b6, 0, none⟩ (.slice a5 (chunks p l).length c5)).setCell ⟨b7, 0, none⟩ (.bool true)).heap[w1.heap.size]? = some (.deferred (some [])) := by
        rw [Below.heap_setCell _ _ _ _ (by simp only; omega), Below.heap_setCell _ _ _ _ (by simp only; omega)]; exact HK.out
      refine ⟨by simp, .inl ⟨_, _, rfl, run_takeDeferred hK1, ?_⟩⟩
      have hs : Ext (fun j => j = b6 ∨ j = b7) W ((W.setCell ⟨b6, 0, none⟩ (.slice a5 (chunks p l).length c5)).setCell ⟨b7, 0, none⟩ (.bool true)) :=
        ((Ext.refl _ W).setCell _ _ (fun _ => .inl rfl)).setCell _ _ (fun _ => .inr rfl)
      have h6 := (hb6.set 0 (.slice a5 (chunks p l).length c5)).set_other ⟨b7, 0, none⟩ (.bool true) (fun h => hn67 h)
      have h7 := (hb7.set_other ⟨b6, 0, none⟩ (.slice a5 (chunks p l).length c5) (fun h => hn67 h.symm)).set 0 (.bool true)
      have ho := ho5.extT hs (by
        rintro j (rfl | rfl)
        · exact ⟨_, _, hb6, by decide, by decide⟩
        · exact ⟨_, _, hb7, by decide, by decide⟩)
      have hE : Ext (fun k => k = wb ∨ k = lb) w ((W.setCell ⟨b6, 0, none⟩ (.slice a5 (chunks p l).length c5)).setCell ⟨b7, 0, none⟩ (.bool true)) :=
        (hext.setCell ⟨b6, 0, none⟩ _ (fun h => absurd h (Nat.not_lt_of_le hU6.1))).setCell ⟨b7, 0, none⟩ _ (fun h => absurd h (Nat.not_lt_of_le hU7.1))
      obtain ⟨st', hst⟩ := hfin.chk
      obtain ⟨h0, h1, h2, l1, l2, l3, l4, l5, l6, l7, l8, lv⟩ := HLT.out
      have hst2 := hst.ext hs (by omega) (by omega) (by omega) (by omega)
      generalize (W.setCell ⟨b6, 0, none⟩ (.slice a5 (chunks p l).length c5)).setCell ⟨b7, 0, none⟩ (.bool true) = W4 at *
      have hxp : Ext (fun j => False ∨ (j = w1.heap.size ∧ NC W4 j)) W4 (W4.putObj w1.heap.size (.deferred none)) := Ext.putObjN _ _ _ (NC.defs hK1)
      have hxq : Ext (fun j => j = w1.heap.size) W4 (W4.putObj w1.heap.size (.deferred none)) := hxp.mono (fun _ _ h => h.elim False.elim And.left)
      have hr6 := (h6.extN hxp (fun h => h)).cell 0
      have hr7 := (h7.extN hxp (fun h => h)).cell 0
      simp at hr6 hr7
      refine ⟨.tuple #[.slice a5 (chunks p l).length c5, .bool true], by simp [results, Try.func13, Try.f13, go_sem, hr6, hr7], _, st', rfl, ?_, hst2.ext hxq (by omega) (by omega) (by omega) (by omega), hE.trans hxq (fun _ _ h => h) (fun j hj h => by omega)⟩
      rw [List.take_of_length_le (by have := HLT5.out; omega)]
      exact ho.extN hxp (fun _ _ h => h)
    case stop =>
      rintro c k W hk ⟨rfl, hg⟩ hfin hK
      obtain ⟨⟨x, hb6, ho⟩, hb7, heq, hext⟩ := hg
      have HW := Lib.hid (And.intro hb6 (And.intro hb7 (And.intro ho (And.intro hext hfin)))); have HK := Lib.hid hK; have HEQ := Lib.hid heq
      clear hb6 hb7 ho hext hfin hK heq
      gi_wp2_with fail
      refine ⟨by simp, .inl ⟨_, _, rfl, run_takeDeferred HK.out, ?_⟩⟩
      obtain ⟨hb6, hb7, ho, hext, hfin⟩ := HW.out
      obtain ⟨st', hst⟩ := hfin.chk
      obtain ⟨h0, h1, h2, l1, l2, l3, l4, l5, l6, l7, l8, lv⟩ := HLT.out
      have hxp : Ext (fun j => False ∨ (j = w1.heap.size ∧ NC W j)) W (W.putObj w1.heap.size (.deferred none)) := Ext.putObjN _ _ _ (NC.defs HK.out)
      have hxq : Ext (fun j => j = w1.heap.size) W (W.putObj w1.heap.size (.deferred none)) := hxp.mono (fun _ _ h => h.elim False.elim And.left)
      have hr6 := (hb6.extN hxp (fun h => h)).cell 0
      have hr7 := (hb7.extN hxp (fun h => h)).cell 0
      simp at hr6 hr7
      refine ⟨.tuple #[x, .bool true], by simp [results, Try.func13, Try.f13, go_sem, hr6, hr7], _, st', rfl, ?_, hst.ext hxq (by omega) (by omega) (by omega) (by omega), hext.trans hxq (fun _ _ h => h) (fun j hj h => by omega)⟩
      rw [show most.toNat = k by have := HEQ.out; omega]
      exact ho.extN hxp (fun _ _ h => h)

end Go.Proofs.Ytceiahjhfbghpaa
