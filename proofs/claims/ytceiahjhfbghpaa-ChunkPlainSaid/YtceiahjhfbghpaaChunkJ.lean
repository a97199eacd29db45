/- The walk of ChunkSplits. -/
import Derived.Test.YtceiahjhfbghpaaChunkI
import Derived.Test.YtceiahjhfbghpaaOpenPrm
namespace Go.Proofs.Ytceiahjhfbghpaa
open Go.RowKit Go.My

theorem and7 (n : Int) : bits .and .i64 n 7 = n % 8 := i64_mask n 3 (by decide)
attribute [local go_sem] and7

theorem own_setCell {w : World} {base n : Nat} {e : TypeId} {v : Value} {xs : List Value} (h : w.ownsRow base e 1 v n xs) (p : Addr) (u : Value) : ∃ ys, (w.setCell p u).ownsRow base e 1 v n ys := by
  rcases h.2 with ⟨rfl, rfl⟩ | ⟨g, cap, cur, rfl, hb, hg, h1, h2, h3, h4⟩
  · exact ⟨[], by simp, .inl ⟨rfl, rfl⟩⟩
  · by_cases hp : p.block = g
    · obtain ⟨b, i, sp⟩ := p
      simp only at hp
      subst hp
      refine ⟨((if sp = none then cur.setIfInBounds i u else cur).toList.take (n * 1)), ?_, .inr ⟨b, cap, (if sp = none then cur.setIfInBounds i u else cur), rfl, hb, ?_, h1, h2, ?_, rfl⟩⟩
      · split <;> simp <;> omega
      · have := (Array.getElem?_eq_some_iff.1 hg).1
        simp only [World.setCell]
        rw [Array.getElem?_modify, if_pos rfl, hg]
        cases sp <;> simp
      · split <;> simp <;> omega
    · refine ⟨xs, h.1, .inr ⟨g, cap, cur, rfl, hb, ?_, h1, h2, h3, h4⟩⟩
      rw [Below.heap_setCell _ _ _ _ (fun e => hp e.symm)]; exact hg
theorem own_setCells {base n : Nat} {e : TypeId} {v : Value} (b : Nat) : ∀ (vs : List Value) (o : Nat) {w : World} {xs : List Value}, w.ownsRow base e 1 v n xs → ∃ ys, (w.setCells b o vs).ownsRow base e 1 v n ys := by
  intro vs
  induction vs with
  | nil => intro o w xs h; exact ⟨xs, h⟩
  | cons u vs ih =>
    intro o w xs h
    obtain ⟨ys, h'⟩ := own_setCell h ⟨b, o, none⟩ u
    exact ih (o + 1) h'
theorem ext_setCells {S : Nat → Prop} (b : Nat) (hS : S b) : ∀ (vs : List Value) (o : Nat) {w0 w : World}, Ext S w0 w → Ext S w0 (w.setCells b o vs) := by
  intro vs
  induction vs with
  | nil => intro o w0 w h; exact h
  | cons u vs ih => intro o w0 w h; exact ih (o + 1) (h.setCell ⟨b, o, none⟩ u (fun _ => hS))

theorem cuts_pos (p : Prm) (hp : p.Ok) (d : Nat) : ∀ l : List UInt8, ∀ x ∈ cuts p d l, 0 < x.length := by
  induction d with
  | zero => intro l x hx; simp [cuts] at hx
  | succ d ih =>
    intro l x hx
    rw [cuts] at hx
    split at hx
    · simp at hx
    · rename_i h
      rcases List.mem_cons.1 hx with rfl | hx
      · have := firstLen_pos p l hp (List.length_pos_iff.2 h)
        have := firstLen_le p l
        rw [List.length_take]; omega
      · exact ih _ x hx
theorem chunk_pos (p : Prm) (hp : p.Ok) (l : List UInt8) (i : Nat) (hi : i < (chunks p l).length) : 0 < ((chunks p l).getD i []).length := by
  have : (chunks p l).getD i [] = (chunks p l)[i] := by simp [List.getD_eq_getElem?_getD, List.getElem?_eq_getElem hi]
  rw [this]
  exact cuts_pos p hp _ l _ (List.getElem_mem hi)

/-- of numbers that fit: the plain ones -/
theorem prm_ok {mn mx bt wd : Int} (s : BitVec 64) (h : RightI mn mx bt wd) : ∃ p : Prm, p.Ok ∧ prmVal mn mx bt wd s = prmVal p.mn p.mx p.bt p.wd p.sd ∧ (p.mn : Int) = mn ∧ (p.mx : Int) = mx ∧ (p.bt : Int) = bt ∧ (p.wd : Int) = wd ∧ p.sd = s := by
  obtain ⟨h1, h2, h3, h4, h5, h6, h7⟩ := h
  refine ⟨⟨mn.toNat, mx.toNat, bt.toNat, wd.toNat, s⟩, ⟨?_, ?_, ?_, ?_, ?_, ?_⟩, ?_, ?_, ?_, ?_, ?_, rfl⟩ <;> try (simp only; omega)
  simp only
  rw [show ((mn.toNat : Nat) : Int) = mn by omega, show ((mx.toNat : Nat) : Int) = mx by omega, show ((bt.toNat : Nat) : Int) = bt by omega, show ((wd.toNat : Nat) : Int) = wd by omega]

set_option maxRecDepth 100000 in
set_option maxHeartbeats 4000000 in
theorem splits_no (mn mx bt wd : Int) (s : BitVec 64) (a : Option Addr) (m cap : Nat) (most : Int) (w : World) (h : ¬ RightI mn mx bt wd) :
    Calls Try.prog 3 #[prmVal mn mx bt wd s, .slice a m cap, .int .i64 most] w fun e w' => e = .returned (.bool true) ∧ Ext No w w' := by
  have hno := fun W => new_no mn mx bt wd s W h
  have hri := fun W => right_no mn mx bt wd s W h
  unfold prmVal at hno hri ⊢
  have HNO := Lib.hid hno; have HRI := Lib.hid hri; clear hno hri
  have hx : Ext No w (w.alloc (.cells #[.int .i64 mn, .int .i64 mx, .int .i64 bt, .int .i64 wd, .int .u64 (w64 s)] 24)) := (Ext.refl No w).alloc _
  have hb := Blk.new w #[.int .i64 mn, .int .i64 mx, .int .i64 bt, .int .i64 wd, .int .u64 (w64 s)] 24
  have HX := Lib.hid hx; have HB := Lib.hid hb; clear hx hb
  go_enter Try.func3, Try.ntmps3
  go_wp2_with fail
  refine (alive_any _).mono ?_
  rintro e w1 ⟨rfl, hx1⟩
  have HX1 := Lib.hid (HX.out.trans' hx1); have HB1 := Lib.hid (HB.out.ext hx1 (fun x => x)); clear hx1 HX HB
  generalize w.heap.size = pb at *
  by_cases hm : 300 < m
  · go_wp2_with fail
    go_ret
    exact ⟨rfl, HX1.out⟩
  · have hd0 := HB1.out.cell 0; have hd1 := HB1.out.cell 1; have hd2 := HB1.out.cell 2; have hd3 := HB1.out.cell 3; have hd4 := HB1.out.cell 4
    simp only [List.getElem?_toArray, List.getElem?_cons_succ, List.getElem?_cons_zero] at hd0 hd1 hd2 hd3 hd4
    have hdm : decide (300 < (m : Int)) = false := by simp; omega
    go_wp2_with fail
    refine (HNO.out _).mono ?_
    rintro e w2 ⟨rfl, hx2⟩
    have HB2 := Lib.hid (HB1.out.ext hx2 (fun x => x)); have HX2 := Lib.hid (HX1.out.trans' hx2); clear hx2 HB1 HX1 hd0 hd1 hd2 hd3 hd4
    have hd0 := HB2.out.cell 0; have hd1 := HB2.out.cell 1; have hd2 := HB2.out.cell 2; have hd3 := HB2.out.cell 3; have hd4 := HB2.out.cell 4
    simp only [List.getElem?_toArray, List.getElem?_cons_succ, List.getElem?_cons_zero] at hd0 hd1 hd2 hd3 hd4
    go_wp2_with fail
    have hx3 := HX2.out.alloc (.cells #[.int .i64 mn, .int .i64 mx, .int .i64 bt, .int .i64 wd, .int .u64 (w64 s)] 31)
    have hb3 := Blk.new w2 #[.int .i64 mn, .int .i64 mx, .int .i64 bt, .int .i64 wd, .int .u64 (w64 s)] 31
    clear hd0 hd1 hd2 hd3 hd4
    refine (HRI.out _).mono ?_
    rintro e w4 ⟨rfl, hx4⟩
    have HB4 := Lib.hid (hb3.ext hx4 (fun x => x)); have HX4 := Lib.hid (hx3.trans' hx4); clear hx4 hx3 hb3 HB2 HX2
    generalize w2.heap.size = xb at *
    have hd0 := HB4.out.cell 0; have hd1 := HB4.out.cell 1; have hd2 := HB4.out.cell 2; have hd3 := HB4.out.cell 3; have hd4 := HB4.out.cell 4
    simp only [List.getElem?_toArray, List.getElem?_cons_succ, List.getElem?_cons_zero] at hd0 hd1 hd2 hd3 hd4
    go_wp2_with fail
    refine (HRI.out _).mono ?_
    rintro e w5 ⟨rfl, hx5⟩
    have HX5 := Lib.hid (HX4.out.trans' hx5); clear hx5 HX4 HB4
    go_wp2_with fail
    go_ret
    exact ⟨rfl, HX5.out⟩

theorem Wins.step {w w1 w2 : World} {B : Nat} {v x : Value} {ls : List (List UInt8)} {S : Nat → Prop} (h : Wins w w1 B v ls x) (e : Ext S w1 w2) (hs : ∀ k, x.ownBlock = some k → ¬ S k) : Wins w w2 B v ls x := by
  obtain ⟨xs, h1, h2⟩ := h
  exact ⟨xs, own_ext h1 e hs, h2⟩
theorem Wins.rows {w w1 : World} {B : Nat} {v x : Value} {ls : List (List UInt8)} {S : Nat → Prop} (h : Wins w w1 B v ls x) (e : Ext S w w1) (hs : ∀ k, v.ownBlock = some k → 0 < ls.length → ¬ S k) : IsRows w1 ls x := by
  obtain ⟨xs, h1, h2⟩ := h
  exact ⟨_, IsRow.of_own h1, fun i hi => IsRow.ext (h2 i hi).1 e (fun k hk => hs k ((h2 i hi).2 k hk) (by omega))⟩
theorem Wins.form {w w1 : World} {B : Nat} {v x : Value} {ls : List (List UInt8)} (h : Wins w w1 B v ls x) : (∃ a c, x = .slice a ls.length c) ∧ ∀ k, x.ownBlock = some k → B ≤ k ∧ k < w1.heap.size := by
  obtain ⟨xs, h1, h2⟩ := h
  exact ⟨own_form h1, World.ownsRow.lt h1⟩
theorem ownBs_form {w : World} {u8 sb : TypeId} {B : Nat} {x : Value} {ls : List (List UInt8)} (h : OwnBs w u8 sb B ls x) : (∃ a c, x = .slice a ls.length c) ∧ ∀ k, x.ownBlock = some k → B ≤ k ∧ k < w.heap.size := by
  obtain ⟨xs, h1, h2⟩ := h
  exact ⟨own_form h1, World.ownsRow.lt h1⟩

theorem own_at {w : World} {B n : Nat} {e : TypeId} {v : Value} {xs : List Value} (h : w.ownsRow B e 1 v n xs) (hn : 0 < n) : ∃ g cap cur, v = .slice (some ⟨g, 0, none⟩) n cap ∧ Blk w g cur e ∧ n ≤ cur.size ∧ B ≤ g := by
  rcases h.2 with ⟨rfl, rfl⟩ | ⟨g, cap, cur, rfl, hb, hg, h1, h2, h3, h4⟩
  · omega
  · exact ⟨g, cap, cur, rfl, hg, by omega, hb⟩
/-- a row whose elements are being cleared -/
structure Clr (w0 wr : World) (B : Nat) (x : Value) (n : Nat) (xs : List Value) : Prop where
  row : wr.ownsRow B 25 1 x n xs
  els : ∀ i, i < n → ∃ m ys, 0 < m ∧ wr.ownsRow B 5 1 (xs.getD i undef) m ys
  ext : Ext (fun k => B ≤ k) w0 wr

set_option maxRecDepth 100000 in
set_option maxHeartbeats 8000000 in
theorem splits_yes (p : Prm) (hp : p.Ok) (l : List UInt8) (a : Option Addr) (m cap : Nat) (most : Int) (w : World) (hv : IsBytes w l (.slice a m cap)) :
    Calls Try.prog 3 #[prmVal p.mn p.mx p.bt p.wd p.sd, .slice a m cap, .int .i64 most] w fun e w' => e = .returned (.bool true) ∧ Ext No w w' := by
  have hno := fun W => new_yes p hp W
  have hri := fun W => right_yes p.mn p.mx p.bt p.wd p.sd W ⟨by have := hp.mn; omega, by have := hp.mx; omega, by have := hp.mx2; omega, by omega, by have := hp.bt; omega, by have := hp.wd; omega, by have := hp.wd2; omega⟩
  have hrs := fun W h1 h2 => refSplit_any p hp l a m cap W h1 h2
  have hm' := hv.len
  have hcap := (IsRow.len hv).2
  have hlv : ∀ k, (Value.slice a m cap).ownBlock = some k → 0 < l.length → k < w.heap.size := fun k hk h0 => IsRow.lt hv h0 hk
  unfold prmVal at hno hri hrs ⊢
  have HNO := Lib.hid hno; have HRI := Lib.hid hri; have HRS := Lib.hid hrs; have HV := Lib.hid hv; have HM := Lib.hid hm'; have HLV := Lib.hid hlv; have HP := Lib.hid hp; clear hno hri hrs hv hm' hlv hp
  have hx : Ext No w (w.alloc (.cells #[.int .i64 p.mn, .int .i64 p.mx, .int .i64 p.bt, .int .i64 p.wd, .int .u64 (w64 p.sd)] 24)) := (Ext.refl No w).alloc _
  have hb := Blk.new w #[.int .i64 p.mn, .int .i64 p.mx, .int .i64 p.bt, .int .i64 p.wd, .int .u64 (w64 p.sd)] 24
  have HX := Lib.hid hx; have HB := Lib.hid hb; clear hx hb
  go_enter Try.func3, Try.ntmps3
  go_wp2_with fail
  refine (alive_any _).mono ?_
  rintro e w1 ⟨rfl, hx1⟩
  have HX1 := Lib.hid (HX.out.trans' hx1); have HB1 := Lib.hid (HB.out.ext hx1 (fun x => x)); clear hx1 HX HB
  generalize hpb : w.heap.size = pb at *
  have HPB := Lib.hid hpb; clear hpb
  by_cases hm : 300 < m
  · go_wp2_with fail
    go_ret
    exact ⟨rfl, HX1.out⟩
  · have hd0 := HB1.out.cell 0; have hd1 := HB1.out.cell 1; have hd2 := HB1.out.cell 2; have hd3 := HB1.out.cell 3; have hd4 := HB1.out.cell 4
    simp only [List.getElem?_toArray, List.getElem?_cons_succ, List.getElem?_cons_zero] at hd0 hd1 hd2 hd3 hd4
    have hdm : decide (300 < (m : Int)) = false := by simp; omega
    go_wp2_with fail
    refine (HNO.out _).mono ?_
    rintro e w2 ⟨cb, wb, lb, tb, rfl, hc2, hcb, hwb, hlb, hx2⟩
    have HB2 := Lib.hid (HB1.out.ext hx2 (fun x => x)); have HX2 := Lib.hid (HX1.out.trans' hx2); have HC2 := Lib.hid hc2
    have hz1 := HX1.out.size
    rw [HPB.out] at hz1
    have HBD := Lib.hid (show pb ≤ cb ∧ pb ≤ wb ∧ pb ≤ lb by omega)
    clear hx2 HB1 HX1 hd0 hd1 hd2 hd3 hd4 hc2 hcb hwb hlb hz1
    have hd0 := HB2.out.cell 0; have hd1 := HB2.out.cell 1; have hd2 := HB2.out.cell 2; have hd3 := HB2.out.cell 3; have hd4 := HB2.out.cell 4
    simp only [List.getElem?_toArray, List.getElem?_cons_succ, List.getElem?_cons_zero] at hd0 hd1 hd2 hd3 hd4
    go_wp2_with fail
    have hx3 : Ext No w2 (w2.alloc (.cells #[.int .i64 p.mn, .int .i64 p.mx, .int .i64 p.bt, .int .i64 p.wd, .int .u64 (w64 p.sd)] 31)) := (Ext.refl No w2).alloc _
    have hb3 := Blk.new w2 #[.int .i64 p.mn, .int .i64 p.mx, .int .i64 p.bt, .int .i64 p.wd, .int .u64 (w64 p.sd)] 31
    clear hd0 hd1 hd2 hd3 hd4
    refine (HRI.out _).mono ?_
    rintro e w4 ⟨rfl, hx4⟩
    have HB4 := Lib.hid (hb3.ext hx4 (fun x => x)); have HX4 := Lib.hid (HX2.out.trans' (hx3.trans' hx4)); have HC4 := Lib.hid (HC2.out.ext (hx3.trans' hx4) (fun x => x) (fun x => x) (fun x => x) (fun x => x)); clear hx4 hx3 hb3 HB2 HX2 HC2
    generalize w2.heap.size = xb at *
    have hd0 := HB4.out.cell 0; have hd1 := HB4.out.cell 1; have hd2 := HB4.out.cell 2; have hd3 := HB4.out.cell 3; have hd4 := HB4.out.cell 4
    simp only [List.getElem?_toArray, List.getElem?_cons_succ, List.getElem?_cons_zero] at hd0 hd1 hd2 hd3 hd4
    go_wp2_with fail
    refine (HRS.out _ (HV.out.ext0 HX4.out) (by have := HM.out; omega)).mono ?_
    rintro e w5 ⟨x5, rfl, hw5, hx5⟩
    have hkl := chunks_len p HP.out l
    have hcp := chunk_pos p HP.out l
    have hll : l.length ≤ 300 := by have := HM.out; omega
    have hf1 : firstLen p l = ((chunks p l).getD 0 []).length := by
      by_cases h0 : 0 < l.length
      · rw [chunks_cons p HP.out l h0]
        have := firstLen_le p l
        simp only [List.getD_cons_zero, List.length_take]; omega
      · have : l = [] := List.length_eq_zero_iff.1 (by omega)
        subst this; rw [firstLen_nil]; rfl
    have hsp := fun st W => split_any cb wb lb tb p HP.out st l a m cap W
    have hal := fun st most W => alls_any cb wb lb tb p HP.out st l a m cap most W
    have hfi := fun st W => first_any cb wb lb tb p HP.out st l (.slice a m cap) W
    obtain ⟨⟨a5, c5, hx5f⟩, hb5⟩ := hw5.form
    generalize hls : chunks p l = ls at *
    obtain ⟨N, hN⟩ : ∃ N, N = ls.length := ⟨_, rfl⟩
    rw [← hN] at hx5f hkl hcp
    subst hx5f
    have hz := HC4.out.win.head.lt
    have hz2 := HC4.out.win.row.lt
    have hz3 := HC4.out.head.lt
    have hz4 : tb < w4.heap.size := Blk.lt HC4.out.tab
    have hz5 := hx5.size
    have hE5 : Ext (fun k => pb ≤ k) w w5 := (HX4.out.trans' hx5).mono (fun _ _ h => h.elim)
    have hE45 : Ext (fun k => pb ≤ k) w4 w5 := hx5.mono (fun _ _ h => h.elim)
    have hC5 := HC4.out.ext hx5 (fun x => x) (fun x => x) (fun x => x) (fun x => x)
    have HSP := Lib.hid hsp; have HAL := Lib.hid hal; have HFI := Lib.hid hfi; have HCP := Lib.hid hcp; have HKL := Lib.hid hkl; have HLL := Lib.hid hll; have HF1 := Lib.hid hf1; have HN := Lib.hid hN
    have HW5 := Lib.hid hw5; have HB5 := Lib.hid hb5; have HE5 := Lib.hid hE5; have HE45 := Lib.hid hE45; have HC5 := Lib.hid hC5; have HZ := Lib.hid (And.intro hz (And.intro hz2 (And.intro hz3 (And.intro hz4 hz5))))
    clear hw5 hx5 hkl hcp hll hf1 hsp hal hfi hb5 hN hz hz2 hz3 hz4 hz5 hE5 hE45 hC5 HC4 HX4 HB4 hd0 hd1 hd2 hd3 hd4 hls HNO HRI HRS HP
    dsimp only
    go_wp2_with fail
    refine (HSP.out _ w5 HC5.out (HV.out.extP HE5.out (fun h0 k hk h => by have := HLV.out k hk h0; omega)) (by have := HLL.out; omega) (fun k hk h0 => by have := HLV.out k hk h0; have := HBD.out; omega)).mono ?_
    rintro e w6 ⟨x6, st6, rfl, ho6, hc6, hx6⟩
    obtain ⟨⟨a6, c6, hx6f⟩, hb6⟩ := ownBs_form ho6
    rw [← HN.out] at hx6f
    subst hx6f
    have hx6' : Ext (fun k => pb ≤ k) w5 w6 := hx6.mono (fun k hk h => by have := HBD.out; omega)
    have HW6 := Lib.hid (HW5.out.step hx6 (fun k hk h => by have := HB5.out k hk; have := HZ.out; omega)); have HE6 := Lib.hid (HE5.out.trans' hx6'); have HE46 := Lib.hid (HE45.out.trans' hx6')
    have HO6 := Lib.hid ho6; have HB6 := Lib.hid hb6; have HC6 := Lib.hid hc6
    clear hx6' ho6 hb6 hc6 HW5 HC5 HE5 HE45
    dsimp only
    go_wp2_with fail
    refine (same4_any ls ls _ _ w6 HO6.out.rows (HW6.out.rows HE46.out (fun k hk h0 h => by have := HLV.out k hk (by have := HKL.out; have := HN.out; omega); omega))).mono ?_
    rintro e w7 ⟨rfl, hx7⟩
    rw [show decide (ls = ls) = true by simp]
    have hx7' : Ext (fun k => pb ≤ k) w6 w7 := hx7.mono (fun _ _ h => h.elim)
    have HW7 := Lib.hid (HW6.out.step hx7 (fun _ _ h => h)); have HE7 := Lib.hid (HE6.out.trans' hx7'); have HE47 := Lib.hid (HE46.out.trans' hx7')
    have HO7 := Lib.hid (HO6.out.ext hx7 (fun _ _ h => h)); have HC7 := Lib.hid (HC6.out.ext hx7 (fun x => x) (fun x => x) (fun x => x) (fun x => x)); have HZ7 := Lib.hid (show w5.heap.size ≤ w7.heap.size from Nat.le_trans hx6.size hx7.size)
    clear hx6 hx7 hx7' HW6 HC6 HE6 HE46 HO6
    dsimp only
    go_wp2_with fail
    obtain ⟨xs6, hr6, he6⟩ := HO7.out
    rw [← HN.out] at hr6 he6
    have hclr : Clr w7 w7 w5.heap.size (.slice a6 N c6) N xs6 := ⟨hr6, fun i hi => ⟨_, _, HCP.out i hi, he6 i hi⟩, Ext.refl _ _⟩
    have HCLR := Lib.hid hclr
    clear hr6 he6 hclr HO7
    have hNi : N ≤ 9223372036854775807 := by have := HKL.out; have := HLL.out; omega
    go_loopw [64] (fun i wr => ∃ k : Nat, i = .int .i64 k ∧ k ≤ N ∧ Clr w7 wr w5.heap.size (.slice a6 N c6) N xs6) (fun i _ => N - (intOf i).toNat)
    case atStart => exact ⟨0, rfl, by omega, HCLR.out⟩
    case round =>
      clear HCLR
      obtain ⟨k, rfl, hk, hc⟩ := hrel
      by_cases hlt : k < N
      · obtain ⟨b6, o6, rfl, hcell⟩ := IsRow.get (IsRow.of_own hc.row) k hlt
        obtain ⟨n1, ys, hn1, hel⟩ := hc.els k hlt
        obtain ⟨g, cp, cur, hxf, hblk, hcs, hBg⟩ := own_at hel hn1
        rw [hxf] at hcell
        have hcl : ∀ ty, (Builtin.clear_ #[25] ty #[.slice (some ⟨g, 0, none⟩) n1 cp]).run Try.prog wr = .ok (.tuple #[]) (wr.setCells g 0 (List.replicate n1 (.int .u8 0))) := fun ty =>
          Lib.run_clear_slice (P := Try.prog) wr 25 5 ty (.int .u8 0) Try.underlying25 (fun w => by kernel_rfl) rfl rfl g 0 n1 cp hn1
            (fun j hj => by rw [Nat.zero_add, hblk.cell, Array.getElem?_eq_getElem (by omega)]; rfl) (fun j _ => by rw [Nat.zero_add]; exact hblk.free j)
        have hnew : Clr w7 (wr.setCells g 0 (List.replicate n1 (.int .u8 0))) w5.heap.size (.slice (some ⟨b6, o6, none⟩) N c6) N xs6 := by
          refine ⟨own_ext hc.row (ext_setCells (S := fun j => j = g) g rfl _ 0 (Ext.refl _ wr)) (fun j hj h => own_ne_type hc.row hblk (by decide) (by rw [hj, h])), fun i hi => ?_, ext_setCells g hBg _ 0 hc.ext⟩
          obtain ⟨n2, y2, h1, h2⟩ := hc.els i hi
          obtain ⟨y3, h3⟩ := own_setCells g (List.replicate n1 (.int .u8 0)) 0 h2
          exact ⟨n2, y3, h1, h3⟩
        have HNEW := Lib.hid hnew
        clear hnew hc hel hblk hxf
        go_wp2_with fail
        go_roundw
        case rel => exact ⟨k + 1, by go_num, by omega, HNEW.out⟩
        case measure => simp [intOf]; omega
      · have hz := HZ.out
        have hx8 : Ext (fun k => pb ≤ k) w7 wr := hc.ext.mono (fun k hk h => by have := HBD.out; omega)
        have HW8 := Lib.hid (HW7.out.step hc.ext (fun k hk h => by have := HB5.out k hk; omega)); have HE8 := Lib.hid (HE7.out.trans' hx8); have HE48 := Lib.hid (HE47.out.trans' hx8)
        have HC8 := Lib.hid (HC7.out.ext hc.ext (by omega) (by omega) (by omega) (by omega))
        have hz8 := hc.ext.size
        have HZ8 := Lib.hid (show w5.heap.size ≤ wr.heap.size by have := HZ7.out; omega)
        clear hc hx8 hz8 hz HW7 HE7 HE47 HC7 HZ7
        go_wp2_with fail
        refine (HAL.out _ 1000 wr HC8.out (HV.out.extP HE8.out (fun h0 k hk h => by have := HLV.out k hk h0; omega)) (by have := HLL.out; omega) (fun k hk h0 => by have := HLV.out k hk h0; have := HBD.out; omega)).mono ?_
        rintro e w9 ⟨x9, st9, rfl, ho9, hc9, hx9⟩
        rw [show (1000 : Int).toNat = 1000 from rfl, List.take_of_length_le (by have := HKL.out; have := HLL.out; have := HN.out; omega)] at ho9
        obtain ⟨⟨a9, c9, hx9f⟩, hb9⟩ := ownBs_form ho9
        rw [← HN.out] at hx9f
        subst hx9f
        have hx9' : Ext (fun k => pb ≤ k) wr w9 := hx9.mono (fun k hk h => by have := HBD.out; omega)
        have HW9 := Lib.hid (HW8.out.step hx9 (fun k hk h => by have := HB5.out k hk; have := HZ.out; omega)); have HE9 := Lib.hid (HE8.out.trans' hx9'); have HE49 := Lib.hid (HE48.out.trans' hx9')
        have HO9 := Lib.hid ho9; have HC9 := Lib.hid hc9; have HZ9 := Lib.hid hx9.size
        clear hx9 hx9' ho9 hb9 hc9 HW8 HC8 HE8 HE48
        dsimp only
        go_wp2_with fail
        obtain ⟨r, hr⟩ : ∃ r : Nat, most % 8 = (r : Int) := ⟨(most % 8).toNat, by omega⟩
        have hr7 : r ≤ 7 := by omega
        rw [hr]
        refine (HAL.out _ r w9 HC9.out (HV.out.extP HE9.out (fun h0 k hk h => by have := HLV.out k hk h0; omega)) (by have := HLL.out; omega) (fun k hk h0 => by have := HLV.out k hk h0; have := HBD.out; omega)).mono ?_
        rintro e w10 ⟨x10, st10, rfl, ho10, hc10, hx10⟩
        rw [Int.toNat_natCast] at ho10
        obtain ⟨⟨a10, c10, hx10f⟩, hb10⟩ := ownBs_form ho10
        generalize hn10 : (ls.take r).length = n10 at hx10f
        subst hx10f
        have hx10' : Ext (fun k => pb ≤ k) w9 w10 := hx10.mono (fun k hk h => by have := HBD.out; omega)
        have HW10 := Lib.hid (HW9.out.step hx10 (fun k hk h => by have := HB5.out k hk; have := HZ.out; omega)); have HE10 := Lib.hid (HE9.out.trans' hx10'); have HE410 := Lib.hid (HE49.out.trans' hx10')
        have HO910 := Lib.hid (HO9.out.ext hx10 (fun k hk h => by have := HZ8.out; have := HZ.out; omega))
        have HO10 := Lib.hid ho10; have HC10 := Lib.hid hc10; have HR := Lib.hid hr; have HZ10 := Lib.hid hx10.size
        clear hx10 hx10' ho10 hb10 hc10 HW9 HC9 HE9 HE49 HO9 hn10
        have hrows := HW10.out.rows HE410.out (fun k hk h0 h => by have := HLV.out k hk (by have := HKL.out; have := HN.out; omega); omega)
        have HROWS := Lib.hid hrows
        have hlen : N = ls.length := HN.out
        clear hlen hrows
        have hcase : (N = 0 ∧ firstLen p l = 0) ∨ (0 < N ∧ ∃ b0 o0 fl ay cy, a5 = some ⟨b0, o0, none⟩ ∧ w10.cell? ⟨b0, o0, none⟩ = some (.slice ay fl cy) ∧ firstLen p l = fl) := by
          by_cases hN0 : N = 0
          · refine .inl ⟨hN0, ?_⟩
            rw [HF1.out]
            have : ls = [] := List.length_eq_zero_iff.1 (by rw [← HN.out]; exact hN0)
            rw [this]; rfl
          · obtain ⟨b0, o0, y0, rfl, hy0, hyb⟩ := HROWS.out.get 0 (by omega)
            rw [Nat.add_zero] at hy0
            obtain ⟨ay, cy, hyf⟩ : ∃ a c, y0 = .slice a (ls.getD 0 []).length c := by obtain ⟨a, c, h, -⟩ := hyb; exact ⟨a, c, h⟩
            subst hyf
            exact .inr ⟨by omega, b0, o0, _, ay, cy, rfl, hy0, HF1.out⟩
        dsimp only
        rcases hcase with ⟨hN0, hf⟩ | ⟨hpos, b0, o0, fl, ay, cy, rfl, hy0, hf⟩
        case' inl =>
          have HF := Lib.hid hf; clear hf
          have hNd : decide (0 < N) = false := by simp; omega
          have hNd2 : decide (0 < (N : Int)) = false := by simp; omega
          clear hN0
          go_wp2_with fail
        case' inr =>
          have HF := Lib.hid hf; clear hf
          go_wp2_with fail
        all_goals
          refine (same4_any ls ls _ _ w10 HO910.out.rows HROWS.out).mono ?_
          rintro e w11 ⟨rfl, hx11⟩
          rw [show decide (ls = ls) = true by simp]
          have HR11 := Lib.hid (HROWS.out.ext0 hx11); have HO11 := Lib.hid (HO10.out.rows.ext0 hx11); have HE11 := Lib.hid (HE10.out.trans' (hx11.mono (fun _ _ h => h.elim)))
          have HC11 := Lib.hid (HC10.out.ext hx11 (fun x => x) (fun x => x) (fun x => x) (fun x => x))
          clear hx11 HO10 HO910 HROWS HC10 HE10 HE410 HW10
          have hr' : r ≤ 9223372036854775807 := by omega
          have hNc : N ≤ c5 := by obtain ⟨f, h1, -⟩ := HR11.out; have := h1.len; omega
          dsimp only
          have hta := fun k hk => HR11.out.take k hk
          have HTA := Lib.hid hta; clear hta
          rcases Nat.lt_or_ge r ls.length with hrN | hrN
          case' inl =>
            have hrN' : r < N := by rw [← HN.out] at hrN; exact hrN
            have heq : ls.take r = ls.take r := rfl
            have HEQ := Lib.hid heq; clear heq
          case' inr =>
            have hrN' : N ≤ r := by rw [← HN.out] at hrN; exact hrN
            have heq : ls.take r = ls.take ls.length := by rw [List.take_of_length_le hrN, List.take_length]
            rw [← HN.out] at heq
            have HEQ := Lib.hid heq; clear heq
          all_goals
            clear hrN
            have hk1 : N ≤ N := Nat.le_refl _
            have hrc : r ≤ N → r ≤ c5 := fun h => Nat.le_trans h hNc
            have hrc' : r < N → r ≤ c5 := fun h => by omega
            go_wp2_with fail
          all_goals
            refine (same4_any (ls.take r) (ls.take _) _ _ w11 HO11.out (HTA.out _ (by omega))).mono ?_
            rintro e w12 ⟨rfl, hx12⟩
            first | rw [decide_eq_true HEQ.out] | rw [decide_eq_true (rfl : ls.take r = ls.take r)]
            have HE12 := Lib.hid (HE11.out.trans' (hx12.mono (fun _ _ h => h.elim)))
            have HC12 := Lib.hid (HC11.out.ext hx12 (fun x => x) (fun x => x) (fun x => x) (fun x => x))
            clear hx12 HC11 HE11
            dsimp only
            go_wp2_with fail
            refine (HFI.out _ w12 HC12.out (HV.out.extP HE12.out (fun h0 k hk h => by have := HLV.out k hk h0; omega)) (by have := HLL.out; omega) (fun k hk h0 => by have := HLV.out k hk h0; have := HBD.out; omega)).mono ?_
            rintro e w13 ⟨st13, rfl, hc13, hx13⟩
            have HE13 := Lib.hid (HE12.out.trans' (hx13.mono (fun k hk h => by have := HBD.out; omega)))
            rw [HF.out]
            clear hc13 hx13
            dsimp only
            go_wp2_with fail
            go_ret
            refine ⟨rfl, HE13.out.mono (fun k hk h => by have := HPB.out; omega)⟩


theorem splits_fr (a : PrmI) (v : Value) (l : List UInt8) (u : Value) (most : Int) (w : World) (ha : IsPrm a v) (hu : IsBytes w l u) (_ : -9223372036854775808 ≤ most) (_ : most ≤ 9223372036854775807) :
    Calls Try.prog 3 #[v, u, .int .i64 most] w fun e w' => e = .returned (.bool true) ∧ Ext No w w' := by
  obtain ⟨rfl, -⟩ := ha
  obtain ⟨x, cap, hx, -⟩ := id hu
  by_cases h : RightI a.mn a.mx a.bt a.wd
  · obtain ⟨p, hp, he, -⟩ := prm_ok a.sd h
    rw [he]
    subst hx
    exact splits_yes p hp l x _ cap most w hu
  · subst hx
    exact splits_no a.mn a.mx a.bt a.wd a.sd x _ cap most w h

end Go.Proofs.Ytceiahjhfbghpaa
