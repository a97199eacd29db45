/- The walk of ChunkPlain. -/
import Derived.Test.YtceiahjhfbghpaaChunkO
namespace Go.Proofs.Ytceiahjhfbghpaa
open Go.RowKit Go.My

def zeroP (p : Prm) : Prm := { p with bt := 0 }
def oneP (p : Prm) : Prm := { p with bt := 0, mn := 1, mx := 1 }
theorem zero_ok {p : Prm} (h : p.Ok) : (zeroP p).Ok := ⟨h.mn, h.mx, h.mx2, Nat.zero_le _, h.wd, h.wd2⟩
theorem one_ok {p : Prm} (h : p.Ok) : (oneP p).Ok := ⟨Nat.le_refl _, Nat.le_refl _, (by show 1 ≤ 65536; decide), Nat.zero_le _, h.wd, h.wd2⟩
theorem firstLen_zero (p : Prm) (hp : p.Ok) (hb : p.bt = 0) (l : List UInt8) (h0 : 0 < l.length) : firstLen p l = min l.length p.mn := by
  have h1 := hp.mn
  have h2 := hp.mx
  unfold firstLen
  refine scan_unique _ _ _ (by omega) (by omega) ?_ ?_
  · rcases Nat.lt_or_ge p.mn l.length with h | h
    · right
      unfold endAt
      rw [hb]
      simp only [Nat.pow_zero, Nat.mod_one, decide_true, Bool.and_true]
      rw [Nat.min_eq_right (by omega)]
      simp
    · left; omega
  · intro i h3 h4
    unfold endAt
    rw [show decide (p.mn ≤ i) = false by simp; omega]; rfl
theorem chunk_zero (p : Prm) (hp : p.Ok) (hb : p.bt = 0) (l : List UInt8) (k : Nat) (hk : k + 1 < (chunks p l).length) : ((chunks p l).getD k []).length = p.mn := by
  have h1 := chunk_mn p hp l k hk
  have ho := offs_lt p hp l k (by omega)
  have hc := chunk_is p hp l k (by omega)
  rw [firstLen_zero p hp hb _ (by rw [List.length_drop]; omega)] at hc
  have h2 := congrArg List.length hc
  rw [List.length_take] at h2
  omega
theorem firstLen_head (p : Prm) (hp : p.Ok) (l : List UInt8) : firstLen p l = ((chunks p l).getD 0 []).length := by
  by_cases h0 : 0 < l.length
  · rw [chunks_cons p hp l h0]
    have := firstLen_le p l
    simp only [List.getD_cons_zero, List.length_take]; omega
  · have : l = [] := List.length_eq_zero_iff.1 (by omega)
    subst this; rw [firstLen_nil]; rfl
theorem one_count (p : Prm) (hp : p.Ok) (l : List UInt8) : (chunks (oneP p) l).length = l.length := by
  rw [even_count (oneP p) (one_ok hp) rfl _ l (Nat.le_refl _)]
  show (l.length + 1 - 1) / 1 = l.length
  rw [Nat.div_one]; omega
theorem one_first (p : Prm) (l : List UInt8) : firstLen (oneP p) l = min l.length 1 := by
  by_cases h0 : 0 < l.length
  · exact firstLen_even (oneP p) rfl l h0 (by show 0 < 1; decide)
  · have : l = [] := List.length_eq_zero_iff.1 (by omega)
    subst this; rw [firstLen_nil]; rfl

set_option maxRecDepth 100000 in
set_option maxHeartbeats 4000000 in
theorem plain_no (mn mx bt wd : Int) (s : BitVec 64) (b : Option Addr) (n cap' : Nat) (w : World) (h : ¬ RightI mn mx bt wd) :
    Calls Try.prog 6 #[prmVal mn mx bt wd s, .slice b n cap'] w fun e w' => e = .returned (.bool true) ∧ Ext No w w' := by
  have hno := fun W => new_no mn mx bt wd s W h
  unfold prmVal at hno ⊢
  have HNO := Lib.hid hno; clear hno
  have hx : Ext No w (w.alloc (.cells #[.int .i64 mn, .int .i64 mx, .int .i64 bt, .int .i64 wd, .int .u64 (w64 s)] 24)) := (Ext.refl No w).alloc _
  have hb := Blk.new w #[.int .i64 mn, .int .i64 mx, .int .i64 bt, .int .i64 wd, .int .u64 (w64 s)] 24
  have HX := Lib.hid hx; have HB := Lib.hid hb; clear hx hb
  go_enter Try.func6, Try.ntmps6
  go_wp2_with fail
  refine (alive_any _).mono ?_
  rintro e w1 ⟨rfl, hx1⟩
  have HX1 := Lib.hid (HX.out.trans' hx1); have HB1 := Lib.hid (HB.out.ext hx1 (fun x => x)); clear hx1 HX HB
  generalize w.heap.size = pb at *
  by_cases hn : 300 < n
  · go_wp2_with fail
    go_ret
    exact ⟨rfl, HX1.out⟩
  · have hd0 := HB1.out.cell 0; have hd1 := HB1.out.cell 1; have hd2 := HB1.out.cell 2; have hd3 := HB1.out.cell 3; have hd4 := HB1.out.cell 4
    simp only [List.getElem?_toArray, List.getElem?_cons_succ, List.getElem?_cons_zero] at hd0 hd1 hd2 hd3 hd4
    have hdn : decide (300 < (n : Int)) = false := by simp; omega
    go_wp2_with fail
    refine (HNO.out _).mono ?_
    rintro e w2 ⟨rfl, hx2⟩
    have HX2 := Lib.hid (HX1.out.trans' hx2); clear hx2 HB1 HX1 hd0 hd1 hd2 hd3 hd4
    go_wp2_with fail
    go_ret
    exact ⟨rfl, HX2.out⟩

set_option maxRecDepth 100000 in
set_option maxHeartbeats 8000000 in
theorem plain_yes (p : Prm) (hp : p.Ok) (l : List UInt8) (b : Option Addr) (n cap' : Nat) (w : World) (hv : IsBytes w l (.slice b n cap')) :
    Calls Try.prog 6 #[prmVal p.mn p.mx p.bt p.wd p.sd, .slice b n cap'] w fun e w' => e = .returned (.bool true) ∧ Ext No w w' := by
  have hno := fun W => new_yes p hp W
  have hno0 : ∀ W, Calls Try.prog 8 #[.agg #[.int .i64 p.mn, .int .i64 p.mx, .int .i64 0, .int .i64 p.wd, .int .u64 (w64 p.sd)]] W fun e w' => ∃ cb wb lb tb, e = .returned (.tuple #[.pointer (some ⟨cb, 0, none⟩), .int .i64 0]) ∧ Chk w' cb wb lb tb (zeroP p) (stZero p.wd) ∧
      W.heap.size ≤ cb ∧ W.heap.size ≤ wb ∧ W.heap.size ≤ lb ∧ Ext No W w' := fun W => new_yes (zeroP p) (zero_ok hp) W
  have hno1 : ∀ W, Calls Try.prog 8 #[.agg #[.int .i64 1, .int .i64 1, .int .i64 0, .int .i64 p.wd, .int .u64 (w64 p.sd)]] W fun e w' => ∃ cb wb lb tb, e = .returned (.tuple #[.pointer (some ⟨cb, 0, none⟩), .int .i64 0]) ∧ Chk w' cb wb lb tb (oneP p) (stZero p.wd) ∧
      W.heap.size ≤ cb ∧ W.heap.size ≤ wb ∧ W.heap.size ≤ lb ∧ Ext No W w' := fun W => new_yes (oneP p) (one_ok hp) W
  have hn' := hv.len
  have hcap' := (IsRow.len hv).2
  have hlv : ∀ k, (Value.slice b n cap').ownBlock = some k → 0 < l.length → k < w.heap.size := fun k hk h0 => IsRow.lt hv h0 hk
  unfold prmVal at hno ⊢
  have HNO := Lib.hid hno; have HNO0 := Lib.hid hno0; have HNO1 := Lib.hid hno1; have HV := Lib.hid hv; have HM := Lib.hid hn'; have HLV := Lib.hid hlv; have HP := Lib.hid hp; clear hno hno0 hno1 hv hn' hlv hp
  have hx : Ext No w (w.alloc (.cells #[.int .i64 p.mn, .int .i64 p.mx, .int .i64 p.bt, .int .i64 p.wd, .int .u64 (w64 p.sd)] 24)) := (Ext.refl No w).alloc _
  have hb := Blk.new w #[.int .i64 p.mn, .int .i64 p.mx, .int .i64 p.bt, .int .i64 p.wd, .int .u64 (w64 p.sd)] 24
  have HX := Lib.hid hx; have HB := Lib.hid hb; clear hx hb
  go_enter Try.func6, Try.ntmps6
  go_wp2_with fail
  refine (alive_any _).mono ?_
  rintro e w1 ⟨rfl, hx1⟩
  have HX1 := Lib.hid (HX.out.trans' hx1); have HB1 := Lib.hid (HB.out.ext hx1 (fun x => x)); clear hx1 HX HB
  generalize hpb : w.heap.size = pb at *
  have HPB := Lib.hid hpb; clear hpb
  by_cases hn : 300 < n
  · go_wp2_with fail
    go_ret
    exact ⟨rfl, HX1.out⟩
  have hd0 := HB1.out.cell 0; have hd1 := HB1.out.cell 1; have hd2 := HB1.out.cell 2; have hd3 := HB1.out.cell 3; have hd4 := HB1.out.cell 4
  simp only [List.getElem?_toArray, List.getElem?_cons_succ, List.getElem?_cons_zero] at hd0 hd1 hd2 hd3 hd4
  have hdn : decide (300 < (n : Int)) = false := by simp; omega
  go_wp2_with fail
  refine (HNO.out _).mono ?_
  rintro e w2 ⟨cb0, wb0, lb0, tb0, rfl, -, -, -, -, hx2⟩
  have HB2 := Lib.hid (HB1.out.ext hx2 (fun x => x)); have HX2 := Lib.hid (HX1.out.trans' hx2)
  clear hx2 HB1 HX1 hd0 hd1 hd2 hd3 hd4 hdn HNO
  have hd0 := HB2.out.cell 0; have hd1 := HB2.out.cell 1; have hd2 := HB2.out.cell 2; have hd3 := HB2.out.cell 3; have hd4 := HB2.out.cell 4
  have hf2 := HB2.out.free 2
  simp only [List.getElem?_toArray, List.getElem?_cons_succ, List.getElem?_cons_zero] at hd0 hd1 hd2 hd3 hd4
  have HBX := Lib.hid (HB2.out.set 2 (.int .i64 0))
  have HXS := Lib.hid (HX2.out.setCell ⟨pb, 2, none⟩ (.int .i64 0) (fun h => absurd h (by have := HPB.out; simp only; omega)))
  clear HB2 HX2
  go_wp2_with fail
  refine (HNO0.out _).mono ?_
  rintro e w3 ⟨cb, wb, lb, tb, rfl, hc3, hcb, hwb, hlb, hx3⟩
  have hz := HXS.out.size
  have HBD := Lib.hid (show w.heap.size ≤ wb ∧ w.heap.size ≤ lb by omega)
  have HC3 := Lib.hid hc3; have HX3 := Lib.hid (HXS.out.trans' hx3); have HB3 := Lib.hid (HBX.out.ext hx3 (fun x => x))
  clear hc3 hcb hwb hlb hx3 hz HXS HBX hd0 hd1 hd2 hd3 hd4 hf2
  have hd0 := HB3.out.cell 0; have hd1 := HB3.out.cell 1; have hd2 := HB3.out.cell 2; have hd3 := HB3.out.cell 3; have hd4 := HB3.out.cell 4
  have hf0 := HB3.out.free 0; have hf1 := HB3.out.free 1
  simp at hd0 hd1 hd2 hd3 hd4
  have hb4 := (HB3.out.set 0 (.int .i64 1)).set 1 (.int .i64 1)
  have hx4 := (Ext.refl (fun j => j = pb) w3).setCell ⟨pb, 0, none⟩ (.int .i64 1) (fun _ => rfl) |>.setCell ⟨pb, 1, none⟩ (.int .i64 1) (fun _ => rfl)
  have hnw := Blk.ne_type HB3.out HC3.out.win.head (by decide)
  have hnl := Blk.ne_type HB3.out HC3.out.win.row (by decide)
  have hnc := Blk.ne_type HB3.out HC3.out.head (by decide)
  have hnt : pb ≠ tb := Blk.ne_type (T' := _) HB3.out (show Blk w3 tb _ _ from HC3.out.tab) (by decide)
  have HC4 := Lib.hid (HC3.out.ext hx4 (fun h => hnc h.symm) (fun h => hnw h.symm) (fun h => hnl h.symm) (fun h => hnt h.symm))
  have HX4 := Lib.hid (HX3.out.trans hx4 (fun _ _ h => h) (fun k hk h => by have := HPB.out; omega))
  clear hb4 hx4 hnw hnl hnc hnt HC3 HX3
  dsimp only
  go_wp2_with fail
  refine (HNO1.out _).mono ?_
  rintro e w5 ⟨cb2, wb2, lb2, tb2, rfl, hc5, hcb, hwb, hlb, hx5⟩
  have hz := HX4.out.size
  have HBD2 := Lib.hid (show w.heap.size ≤ wb2 ∧ w.heap.size ≤ lb2 by omega)
  have hw1 := HC4.out.win.head.lt; have hw2 := HC4.out.win.row.lt
  have hC5 := HC4.out.ext hx5 (fun x => x) (fun x => x) (fun x => x) (fun x => x)
  have ht1 : tb2 ≠ wb := Blk.ne_type (show Blk w5 tb2 _ _ from hc5.tab) hC5.win.head (by decide)
  have ht2 : tb2 ≠ lb := Blk.ne_type (show Blk w5 tb2 _ _ from hc5.tab) hC5.win.row (by decide)
  have HNE := Lib.hid (show (cb2 ≠ wb ∧ cb2 ≠ lb) ∧ (wb2 ≠ wb ∧ wb2 ≠ lb) ∧ (lb2 ≠ wb ∧ lb2 ≠ lb) ∧ tb2 ≠ wb ∧ tb2 ≠ lb by omega)
  have HC5 := Lib.hid hC5; have HD5 := Lib.hid hc5; have HX5 := Lib.hid (HX4.out.trans' hx5)
  clear hc5 hcb hwb hlb hx5 hz hw1 hw2 hC5 ht1 ht2 HC4 HX4 HB3 hd0 hd1 hd2 hd3 hd4 hf0 hf1 HNO0 HNO1
  dsimp only
  go_wp2_with fail
  have HLL := Lib.hid (show l.length ≤ 300 by have := HM.out; omega)
  refine (split_any cb wb lb tb (zeroP p) (zero_ok HP.out) _ l b n cap' w5 HC5.out (HV.out.ext0 HX5.out) (by have := HLL.out; omega) (fun k hk h0 => by have := HLV.out k hk h0; have := HBD.out; have := HPB.out; omega)).mono ?_
  rintro e w6 ⟨x6, st6, rfl, ho6, hc6, hx6⟩
  obtain ⟨⟨a6, c6, hf6⟩, -⟩ := ownBs_form ho6
  have hfh := firstLen_head (zeroP p) (zero_ok HP.out) l
  have hcz := fun k hk => chunk_zero (zeroP p) (zero_ok HP.out) rfl l k hk
  have hkl := chunks_len (zeroP p) (zero_ok HP.out) l
  obtain ⟨N, hN⟩ : ∃ N, N = (chunks (zeroP p) l).length := ⟨_, rfl⟩
  rw [← hN] at hf6 hcz hkl
  subst hf6
  have HX6 := Lib.hid (HX5.out.trans hx6 (fun _ _ h => h) (fun k hk h => by have := HBD.out; omega))
  have HD6 := Lib.hid (HD5.out.ext hx6 (by have := HNE.out; omega) (by have := HNE.out; omega) (by have := HNE.out; omega) (by have := HNE.out; omega))
  have HO6 := Lib.hid ho6.rows; have HC6 := Lib.hid hc6; have HN := Lib.hid hN; have HCZ := Lib.hid hcz
  have hN300 : N ≤ 300 := by have := HLL.out; omega
  obtain ⟨F, hF⟩ : ∃ F, F = firstLen (zeroP p) l := ⟨_, rfl⟩
  rw [← hF] at hfh
  have hFm : 1 < N → F = p.mn := fun h => by rw [hfh]; exact hcz 0 (by omega)
  have HF := Lib.hid hF; have HFH := Lib.hid hfh; have HFM := Lib.hid hFm
  clear ho6 hc6 hx6 hfh hcz hkl hN hF hFm HC5 HD5 HX5
  have hcase : (N = 0 ∧ F = 0) ∨ (0 < N ∧ ∃ b0 o0 ay cy, a6 = some ⟨b0, o0, none⟩ ∧ w6.cell? ⟨b0, o0, none⟩ = some (.slice ay F cy)) := by
    by_cases hN0 : N = 0
    · refine .inl ⟨hN0, ?_⟩
      rw [HFH.out]
      have : chunks (zeroP p) l = [] := List.length_eq_zero_iff.1 (by rw [← HN.out]; exact hN0)
      rw [this]; rfl
    · obtain ⟨b0, o0, y0, rfl, hy0, hyb⟩ := HO6.out.get 0 (by omega)
      rw [Nat.add_zero] at hy0
      obtain ⟨ay, cy, hyf⟩ : ∃ a c, y0 = .slice a ((chunks (zeroP p) l).getD 0 []).length c := by obtain ⟨a, c, h, -⟩ := hyb; exact ⟨a, c, h⟩
      rw [← HFH.out] at hyf
      subst hyf
      exact .inr ⟨by omega, b0, o0, ay, cy, rfl, hy0⟩
  dsimp only
  rcases hcase with ⟨hN0, hf⟩ | ⟨hpos, b0, o0, ay, cy, rfl, hy0⟩
  case' inl =>
    have hNd : decide (0 < N) = false := by simp; omega
    have hNd2 : decide (0 < (N : Int)) = false := by simp; omega
    clear hN0
    subst hf
    go_wp2_with fail
  case' inr =>
    go_wp2_with fail
  all_goals
    go_loopw [58] (fun i wx => ∃ q : Nat, i = .int .i64 q ∧ q ≤ N ∧ wx = w6) (fun i _ => N - (intOf i).toNat)
    case atStart => exact ⟨0, rfl, by omega, rfl⟩
    case round =>
      obtain ⟨q, rfl, hq, rfl⟩ := hrel
      by_cases hlt : q < N
      · obtain ⟨b8, o8, y, he8, hy, hyb⟩ := HO6.out.get q hlt
        obtain ⟨ay', cy', hyf⟩ : ∃ a c, y = .slice a ((chunks (zeroP p) l).getD q []).length c := by obtain ⟨a, c, h, -⟩ := hyb; exact ⟨a, c, h⟩
        have h2 : q + 1 < N → ((chunks (zeroP p) l).getD q []).length = p.mn := fun h => HCZ.out q h
        have h3 := HFM.out
        generalize ((chunks (zeroP p) l).getD q []).length = fl at hyf h2
        subst hyf
        cases he8
        clear hyb
        by_cases hl : q + 1 < N
        · have e3 : decide ((q : Int) < (N : Int) - 1) = true := by simp; omega
          have hfe : fl = p.mn := h2 hl
          have hfF := h3 (by omega)
          have hff := hfe.trans hfF.symm
          clear h2 h3 hfe hfF
          subst hff
          go_wp2_with fail
          go_roundw
          case rel => exact ⟨q + 1, by go_num, by omega, trivial⟩
          case measure => simp [intOf]; omega
        · have e3 : decide ((q : Int) < (N : Int) - 1) = false := by simp; omega
          clear h2 h3
          go_wp2_with fail
          go_roundw
          case rel => exact ⟨q + 1, by go_num, by omega, trivial⟩
          case measure => simp [intOf]; omega
      · go_wp2_with fail
        refine (first_any cb wb lb tb (zeroP p) (zero_ok HP.out) _ l _ wr HC6.out (HV.out.ext0 HX6.out) (by have := HLL.out; omega) (fun k hk h0 => by have := HLV.out k hk h0; have := HBD.out; have := HPB.out; omega)).mono ?_
        rintro e w7 ⟨st7, rfl, hc7, hx7⟩
        rw [← HF.out]
        have HX7 := Lib.hid (HX6.out.trans hx7 (fun _ _ h => h) (fun k hk h => by have := HBD.out; omega))
        have HD7 := Lib.hid (HD6.out.ext hx7 (by have := HNE.out; omega) (by have := HNE.out; omega) (by have := HNE.out; omega) (by have := HNE.out; omega))
        clear hc7 hx7
        dsimp only
        go_wp2_with fail
        refine (split_any cb2 wb2 lb2 tb2 (oneP p) (one_ok HP.out) _ l _ n cap' w7 HD7.out (HV.out.ext0 HX7.out) (by have := HLL.out; omega) (fun k hk h0 => by have := HLV.out k hk h0; have := HBD2.out; have := HPB.out; omega)).mono ?_
        rintro e w8 ⟨x8, st8, rfl, ho8, hc8, hx8⟩
        obtain ⟨⟨a8, c8, hf8⟩, -⟩ := ownBs_form ho8
        rw [one_count p HP.out l, ← HM.out] at hf8
        subst hf8
        have HX8 := Lib.hid (HX7.out.trans hx8 (fun _ _ h => h) (fun k hk h => by have := HBD2.out; omega))
        have HD8 := Lib.hid hc8
        clear ho8 hc8 hx8
        dsimp only
        go_wp2_with fail
        refine (first_any cb2 wb2 lb2 tb2 (oneP p) (one_ok HP.out) _ l _ w8 HD8.out (HV.out.ext0 HX8.out) (by have := HLL.out; omega) (fun k hk h0 => by have := HLV.out k hk h0; have := HBD2.out; have := HPB.out; omega)).mono ?_
        rintro e w9 ⟨st9, rfl, hc9, hx9⟩
        rw [one_first p l, ← HM.out]
        have HX9 := Lib.hid (HX8.out.trans hx9 (fun _ _ h => h) (fun k hk h => by have := HBD2.out; omega))
        clear hc9 hx9
        rcases Nat.eq_zero_or_pos n with hn0 | hn0
        · rw [Nat.min_eq_left (by omega)]
          have hn1 : n ≤ 1 := by omega
          dsimp only
          go_wp2_with fail
          all_goals
            go_ret
            exact ⟨by first | (simp; done) | (simp; omega), HX9.out⟩
        · rw [Nat.min_eq_right (by omega)]
          have hn1 : 1 ≤ n := hn0
          dsimp only
          go_wp2_with fail
          all_goals
            go_ret
            exact ⟨by first | (simp; done) | (simp; omega), HX9.out⟩

theorem plain_fr (a : PrmI) (v : Value) (l : List UInt8) (u : Value) (w : World) (ha : IsPrm a v) (hu : IsBytes w l u) :
    Calls Try.prog 6 #[v, u] w fun e w' => e = .returned (.bool true) ∧ Ext No w w' := by
  obtain ⟨rfl, -⟩ := ha
  obtain ⟨x, cap, hx, -⟩ := id hu
  by_cases h : RightI a.mn a.mx a.bt a.wd
  · obtain ⟨p, hp, he, -⟩ := prm_ok a.sd h
    rw [he]
    subst hx
    exact plain_yes p hp l x _ cap w hu
  · subst hx
    exact plain_no a.mn a.mx a.bt a.wd a.sd x _ cap w h

end Go.Proofs.Ytceiahjhfbghpaa
