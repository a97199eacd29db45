/- The walk of ChunkCuts. -/
import Derived.Test.YtceiahjhfbghpaaChunkN
import Derived.Test.YtceiahjhfbghpaaChunkL
import Derived.Deep.RegionHeld3
namespace Go.Proofs.Ytceiahjhfbghpaa
open Go.RowKit Go.My

theorem and65535c (n : Int) : bits .and .i64 n 65535 = n % 65536 := i64_mask n 16 (by decide)
attribute [local go_sem] and65535c
theorem Chk.drewI {w : World} {cb wb lb tb : Nat} {p : Prm} {st : WS} (h : Chk w cb wb lb tb p st) : Chk w.drew cb wb lb tb p st :=
  h.ext (Ext.refl No w).drew (fun x => x) (fun x => x) (fun x => x) (fun x => x)

set_option maxRecDepth 100000 in
set_option maxHeartbeats 4000000 in
theorem cuts_no (mn mx bt wd : Int) (s : BitVec 64) (b : Option Addr) (n cap' : Nat) (at0 : Int) (w : World) (h : ¬ RightI mn mx bt wd) :
    Calls Try.prog 5 #[prmVal mn mx bt wd s, .slice b n cap', .int .i64 at0] w fun e w' => e = .returned (.bool true) ∧ Ext No w w' := by
  have hno := fun W => new_no mn mx bt wd s W h
  unfold prmVal at hno ⊢
  have HNO := Lib.hid hno; clear hno
  have hx : Ext No w (w.alloc (.cells #[.int .i64 mn, .int .i64 mx, .int .i64 bt, .int .i64 wd, .int .u64 (w64 s)] 24)) := (Ext.refl No w).alloc _
  have hb := Blk.new w #[.int .i64 mn, .int .i64 mx, .int .i64 bt, .int .i64 wd, .int .u64 (w64 s)] 24
  have HX := Lib.hid hx; have HB := Lib.hid hb; clear hx hb
  go_enter Try.func5, Try.ntmps5
  go_wp2_with fail
  refine (alive_any _).mono ?_
  rintro e w1 ⟨rfl, hx1⟩
  have HX1 := Lib.hid (HX.out.trans' hx1); have HB1 := Lib.hid (HB.out.ext hx1 (fun x => x)); clear hx1 HX HB
  generalize w.heap.size = pb at *
  by_cases hn : 300 < n
  · go_wp2_with fail
    go_ret
    exact ⟨rfl, HX1.out⟩
  · have hd0 := HB1.out.cell 0; have hd1 := HB1.out.cell 1; have hd2 := HB1.out.cell 2; have hd3 := HB1.out.cell 3; have hd4 := HB1.out.cell 4
    simp only [List.getElem?_toArray, List.getElem?_cons_succ, List.getElem?_cons_zero] at hd0 hd1 hd2 hd3 hd4
    have hdn : decide (300 < (n : Int)) = false := by simp; omega
    go_wp2_with fail
    refine (HNO.out _).mono ?_
    rintro e w2 ⟨rfl, hx2⟩
    have HX2 := Lib.hid (HX1.out.trans' hx2); clear hx2 HB1 HX1 hd0 hd1 hd2 hd3 hd4
    go_wp2_with fail
    go_ret
    exact ⟨rfl, HX2.out⟩

/-- what holds all along -/
structure CutI (w wr : World) (pb cb wb lb tb base : Nat) (p : Prm) (ls : List (List UInt8)) (v : Value) : Prop where
  list : OwnBs wr 5 25 base ls v
  chk : ∃ st, Chk wr cb wb lb tb p st
  box : Blk wr pb #[.int .i64 p.mn, .int .i64 p.mx, .int .i64 p.bt, .int .i64 p.wd, .int .u64 (w64 p.sd)] 24
  ext : Ext No w wr
  size : base ≤ wr.heap.size
theorem CutI.step {w wr w' : World} {pb cb wb lb tb base : Nat} {p : Prm} {ls : List (List UInt8)} {v : Value} {st : WS} (h : CutI w wr pb cb wb lb tb base p ls v) (x : Ext (fun k => k = wb ∨ k = lb) wr w') (hc : Chk w' cb wb lb tb p st)
    (h1 : wb < base ∧ lb < base ∧ w.heap.size ≤ wb ∧ w.heap.size ≤ lb) : CutI w w' pb cb wb lb tb base p ls v := by
  obtain ⟨st0, h0⟩ := h.chk
  have n1 := Blk.ne_type h.box h0.win.head (by decide)
  have n2 := Blk.ne_type h.box h0.win.row (by decide)
  exact ⟨h.list.ext x (fun k hk hS => by omega), ⟨st, hc⟩, h.box.ext x (by omega), h.ext.trans x (fun _ _ h => h) (fun k hk hS => by omega), Nat.le_trans h.size x.size⟩
theorem CutI.still {w wr w' : World} {pb cb wb lb tb base : Nat} {p : Prm} {ls : List (List UInt8)} {v : Value} (h : CutI w wr pb cb wb lb tb base p ls v) (x : Ext No wr w') : CutI w w' pb cb wb lb tb base p ls v := by
  obtain ⟨st0, h0⟩ := h.chk
  exact ⟨h.list.ext x (fun _ _ s => s), ⟨st0, h0.ext x (fun s => s) (fun s => s) (fun s => s) (fun s => s)⟩, h.box.ext x (fun s => s), h.ext.trans' x, Nat.le_trans h.size x.size⟩

theorem CutI.drew {w wr : World} {pb cb wb lb tb base : Nat} {p : Prm} {ls : List (List UInt8)} {v : Value} (h : CutI w wr pb cb wb lb tb base p ls v) : CutI w wr.drew pb cb wb lb tb base p ls v := h.still (Ext.refl No wr).drew
/-- Split, within -/
theorem split_in {w wr : World} {pb cb wb lb tb base : Nat} {p : Prm} {ls : List (List UInt8)} {v : Value} (hp : p.Ok) (h : CutI w wr pb cb wb lb tb base p ls v) (h1 : wb < base ∧ lb < base ∧ w.heap.size ≤ wb ∧ w.heap.size ≤ lb)
    (l : List UInt8) (a : Option Addr) (m cap : Nat) (hl : IsBytes wr l (.slice a m cap)) (hm : l.length ≤ 1099511627776) (hb : ∀ k, (Value.slice a m cap).ownBlock = some k → 0 < l.length → k ≠ wb ∧ k ≠ lb) (ks : List (List UInt8)) (hks : chunks p l = ks) :
    Calls Try.prog 11 #[.pointer (some ⟨cb, 0, none⟩), .slice a m cap] wr fun e w' => ∃ a' n' c', e = .returned (.slice a' n' c') ∧ n' = ks.length ∧ OwnBs w' 5 25 base ks (.slice a' n' c') ∧ CutI w w' pb cb wb lb tb base p ls v := by
  obtain ⟨st, hc⟩ := h.chk
  refine (split_any cb wb lb tb p hp st l a m cap wr hc hl hm hb).mono ?_
  rintro e w' ⟨x, st', rfl, ho, hc', hx⟩
  obtain ⟨⟨a', c', rfl⟩, -⟩ := ownBs_form ho
  subst hks
  exact ⟨a', _, c', rfl, rfl, ho.le h.size, h.step hx hc' h1⟩
theorem same4_refl (ls : List (List UInt8)) (v u : Value) (w : World) (h : IsRows w ls v) (h' : IsRows w ls u) :
    Calls Try.prog 12 #[v, u] w fun e w' => e = .returned (.bool true) ∧ Ext No w w' := by
  have := same4_any ls ls v u w h h'
  rw [show decide (ls = ls) = true by simp] at this
  exact this

set_option maxRecDepth 100000 in
set_option maxHeartbeats 8000000 in
theorem cuts_yes (p : Prm) (hp : p.Ok) (l : List UInt8) (b : Option Addr) (n cap' : Nat) (at0 : Int) (w : World) (hv : IsBytes w l (.slice b n cap')) :
    Calls Try.prog 5 #[prmVal p.mn p.mx p.bt p.wd p.sd, .slice b n cap', .int .i64 at0] w fun e w' => e = .returned (.bool true) ∧ Ext No w w' := by
  have hno := fun W => new_yes p hp W
  have hno2 := fun W => new_yes (evenP p) (even_ok hp) W
  have hn' := hv.len
  have hcap' := (IsRow.len hv).2
  have hlv : ∀ k, (Value.slice b n cap').ownBlock = some k → 0 < l.length → k < w.heap.size := fun k hk h0 => IsRow.lt hv h0 hk
  unfold prmVal at hno hno2 ⊢
  have HNO := Lib.hid hno; have HNO2 := Lib.hid hno2; have HV := Lib.hid hv; have HM := Lib.hid hn'; have HLV := Lib.hid hlv; have HP := Lib.hid hp; clear hno hno2 hv hn' hlv hp
  have hx : Ext No w (w.alloc (.cells #[.int .i64 p.mn, .int .i64 p.mx, .int .i64 p.bt, .int .i64 p.wd, .int .u64 (w64 p.sd)] 24)) := (Ext.refl No w).alloc _
  have hb := Blk.new w #[.int .i64 p.mn, .int .i64 p.mx, .int .i64 p.bt, .int .i64 p.wd, .int .u64 (w64 p.sd)] 24
  have HX := Lib.hid hx; have HB := Lib.hid hb; clear hx hb
  go_enter Try.func5, Try.ntmps5
  go_wp2_with fail
  refine (alive_any _).mono ?_
  rintro e w1 ⟨rfl, hx1⟩
  have HX1 := Lib.hid (HX.out.trans' hx1); have HB1 := Lib.hid (HB.out.ext hx1 (fun x => x)); clear hx1 HX HB
  generalize hpb : w.heap.size = pb at *
  have HPB := Lib.hid hpb; clear hpb
  by_cases hn : 300 < n
  · go_wp2_with fail
    go_ret
    exact ⟨rfl, HX1.out⟩
  have hd0 := HB1.out.cell 0; have hd1 := HB1.out.cell 1; have hd2 := HB1.out.cell 2; have hd3 := HB1.out.cell 3; have hd4 := HB1.out.cell 4
  simp only [List.getElem?_toArray, List.getElem?_cons_succ, List.getElem?_cons_zero] at hd0 hd1 hd2 hd3 hd4
  have hdn : decide (300 < (n : Int)) = false := by simp; omega
  go_wp2_with fail
  refine (HNO.out _).mono ?_
  rintro e w2 ⟨cb, wb, lb, tb, rfl, hc2, hcb, hwb, hlb, hx2⟩
  have HB2 := Lib.hid (HB1.out.ext hx2 (fun x => x)); have HX2 := Lib.hid (HX1.out.trans' hx2); have HC2 := Lib.hid hc2
  have hz1 := HX1.out.size
  rw [HPB.out] at hz1
  have HBD := Lib.hid (show pb ≤ cb ∧ pb ≤ wb ∧ pb ≤ lb by omega)
  have HPW := Lib.hid (show pb < w2.heap.size from HB2.out.lt)
  clear hx2 HB1 HX1 hd0 hd1 hd2 hd3 hd4 hc2 hcb hwb hlb hz1 hdn
  go_wp2_with fail
  have HLL := Lib.hid (show l.length ≤ 300 by have := HM.out; omega)
  refine (split_any cb wb lb tb p HP.out _ l b n cap' w2 HC2.out (HV.out.ext0 HX2.out) (by have := HLL.out; omega) (fun k hk h0 => by have := HLV.out k hk h0; have := HBD.out; omega)).mono ?_
  rintro e w3 ⟨x3, st3, rfl, ho3, hc3, hx3⟩
  obtain ⟨⟨a3, c3, hx3f⟩, hb3⟩ := ownBs_form ho3
  have hkl := chunks_len p HP.out l
  obtain ⟨N, hN⟩ : ∃ N, N = (chunks p l).length := ⟨_, rfl⟩
  rw [← hN] at hx3f hkl
  subst hx3f
  have HZ3 := Lib.hid (show wb < w2.heap.size ∧ lb < w2.heap.size ∧ w.heap.size ≤ wb ∧ w.heap.size ≤ lb from ⟨HC2.out.win.head.lt, HC2.out.win.row.lt, by have := HBD.out; have := HPB.out; omega, by have := HBD.out; have := HPB.out; omega⟩)
  have HI3 := Lib.hid (show CutI w w3 pb cb wb lb tb w2.heap.size p (chunks p l) (.slice a3 N c3) from
    ⟨ho3, ⟨st3, hc3⟩, HB2.out.ext hx3 (by have h1 := Blk.ne_type HB2.out HC2.out.win.head (by decide); have h2 := Blk.ne_type HB2.out HC2.out.win.row (by decide); omega), HX2.out.trans hx3 (fun _ _ h => h) (fun k hk h => by have := HBD.out; have := HPB.out; omega), hx3.size⟩)
  have HN := Lib.hid hN
  have hNi : N ≤ 300 := by have := HLL.out; omega
  clear ho3 hc3 hx3 hkl hN hb3 HC2 HB2 HX2 HNO
  dsimp only
  have hc3 : N ≤ c3 := by have := (IsRow.len (HI3.out.list.row.choose_spec.1)).2.1; omega
  obtain ⟨lv, hlve⟩ : ∃ lv : Value, lv = .slice a3 N c3 := ⟨_, rfl⟩
  have HLVE := Lib.hid hlve; clear hlve
  have hmn0 : p.mn ≠ 0 := by have := HP.out.mn; omega
  rcases Nat.eq_zero_or_pos N with hN0 | hNp
  case' inl =>
    have hNd : decide (0 < N) = false := by simp; omega
    have hNd2 : decide (0 < (N : Int)) = false := by simp; omega
    have HN0 := Lib.hid hN0
    have HI := Lib.hid (show CutI w w3 pb cb wb lb tb w2.heap.size p (chunks p l) lv by rw [HLVE.out]; exact HI3.out)
    clear hN0 HI3
    go_wp2_with fail
  case' inr =>
    obtain ⟨k, hk⟩ : ∃ k : Nat, k = (at0 % 65536).toNat % N := ⟨_, rfl⟩
    have hkN : k < N := by rw [hk]; exact Nat.mod_lt _ hNp
    have hrem : (at0 % 65536).tmod (N : Int) = (k : Int) := by
      have : at0 % 65536 = (((at0 % 65536).toNat : Nat) : Int) := by omega
      rw [this, hk]; rfl
    clear hk
    have hkc : k ≤ c3 := by omega
    have hoL := offs_lt p HP.out l k (by rw [← HN.out]; exact hkN)
    have htake := chunks_take p HP.out k l (by rw [← HN.out]; omega)
    have hdrop := (cut_at p HP.out l k (by rw [← HN.out]; omega)).rest
    go_wp2_with fail
    refine (join_any ((chunks p l).take k) _ w3 (HI3.out.list.rowsN.take k (by omega)) (by have := flat_take_le (chunks p l) k; rw [chunks_flat p HP.out l] at this; have h2 := flat_take_le (chunks p l) (k); have := HLL.out; omega)).mono ?_
    rintro e w4 ⟨x4, rfl, ho4, hx4⟩
    obtain ⟨a4, c4, hf4⟩ := own_form ho4
    rw [join_take] at hf4
    generalize offs p l k = n1 at *
    subst hf4
    have HI4 := Lib.hid (HI3.out.still hx4)
    have HTK := Lib.hid htake; have HDR := Lib.hid hdrop
    have hn1 : n1 < n := by have := HM.out; omega
    obtain ⟨bb, oo, rfl, -⟩ := IsRow.get HV.out 0 (by omega)
    obtain ⟨b7, o7, y7, rfl, -, -⟩ := HI3.out.list.rows.get 0 hNp
    have hcn : ¬ cap' = n1 := by omega
    have hck : ¬ c3 = k := by omega
    have hn1c : n1 ≤ cap' := by omega
    have hkN' : k ≤ N := by omega
    have hn1n : n1 ≤ n := by omega
    have hvd := HV.out.drop n1 hn1n
    have hvt := HV.out.take n1 hn1n
    have HVD := Lib.hid hvd; have HVT := Lib.hid hvt
    have HB1 := Lib.hid (show ∀ j, (Value.slice (some ⟨bb, oo, none⟩) n1 cap').ownBlock = some j → 0 < (l.take n1).length → j ≠ wb ∧ j ≠ lb from fun j hj h0 => by have := HLV.out j hj (by rw [List.length_take] at h0; omega); have := HBD.out; omega)
    have HB2 := Lib.hid (show ∀ j, (Value.slice (some ⟨bb, oo + n1, none⟩) (n - n1) (cap' - n1)).ownBlock = some j → 0 < (l.drop n1).length → j ≠ wb ∧ j ≠ lb from fun j hj h0 => by have := HLV.out j hj (by rw [List.length_drop] at h0; omega); have := HBD.out; omega)
    have HL1 := Lib.hid (show (l.take n1).length ≤ 1099511627776 by have := HLL.out; rw [List.length_take]; omega)
    have HL2 := Lib.hid (show (l.drop n1).length ≤ 1099511627776 by have := HLL.out; rw [List.length_drop]; omega)
    have HLT := Lib.hid (show ∀ wr, CutI w wr pb cb wb lb tb w2.heap.size p (chunks p l) (.slice (some ⟨b7, o7, none⟩) N c3) → IsRows wr ((chunks p l).take k) (.slice (some ⟨b7, o7, none⟩) k c3) from fun wr h => h.list.rows.take k hkN')
    have HLD := Lib.hid (show ∀ wr, CutI w wr pb cb wb lb tb w2.heap.size p (chunks p l) (.slice (some ⟨b7, o7, none⟩) N c3) → IsRows wr ((chunks p l).drop k) (.slice (some ⟨b7, o7 + k, none⟩) (N - k) (c3 - k)) from fun wr h => by
      have := h.list.rows.dropS k hkN'; rw [dropS_at, if_neg hck] at this; exact this)
    have H12 := Lib.hid (show ((chunks p l).take k).length = ((chunks p l).take k).length from rfl)
    clear ho4 hx4 htake hdrop hvd hvt hoL HI3
    dsimp only
    go_wp2_with fail
    go_cut [69] (fun v wx => v = .bool false ∧ CutI w wx pb cb wb lb tb w2.heap.size p (chunks p l) (.slice (some ⟨b7, o7, none⟩) N c3))
    case first =>
      go_region_held3 (fun w' => CutI w w' pb cb wb lb tb w2.heap.size p (chunks p l) (.slice (some ⟨b7, o7, none⟩) N c3)) (first | exact HI8.out | exact HI7.out | exact HI6.out | exact HI5.out | exact HI4.out.drew) (first
        | (go_at_call 11; refine (split_in HP.out HI4.out.drew HZ3.out (l.take n1) _ _ _ (HVT.out.ext0 HI4.out.drew.ext) HL1.out HB1.out _ HTK.out).mono ?_; clear HVT; rintro e w5 ⟨a5, n5, c5, rfl, hn5, ho5, hi5⟩; have HO5 := Lib.hid ho5; have HI5 := Lib.hid hi5; clear ho5 hi5 hn5)
        | (go_at_call 12; refine (same4_refl _ _ _ _ HO5.out.rows (HLT.out _ HI5.out)).mono ?_; clear HO5; rintro e w6 ⟨rfl, hx6⟩; have HI6 := Lib.hid (HI5.out.still hx6); clear hx6)
        | (go_at_call 11; refine (split_in HP.out HI6.out HZ3.out (l.drop n1) _ _ _ (HVD.out.ext0 HI6.out.ext) HL2.out HB2.out _ HDR.out).mono ?_; rintro e w7 ⟨a7, n7, c7, rfl, hn7, ho7, hi7⟩; have HO7 := Lib.hid ho7; have HI7 := Lib.hid hi7; clear ho7 hi7 hn7)
        | (go_at_call 12; refine (same4_refl _ _ _ _ HO7.out.rows (HLD.out _ HI7.out)).mono ?_; rintro e w8 ⟨rfl, hx8⟩; have HI8 := Lib.hid (HI7.out.still hx8); clear hx8))
      go_wp2_with fail
      go_meet
      exact ⟨rfl, HI8.out⟩
    obtain ⟨rfl, hi⟩ := hcut
    have HI := Lib.hid (show CutI w wc pb cb wb lb tb w2.heap.size p (chunks p l) lv by rw [HLVE.out]; exact hi)
    clear hi HI4 HTK HDR HVD HVT HB1 HB2 HL1 HL2 HLT HLD H12
    go_wp2_with fail
  all_goals
    go_loopw [72] (fun i wr => ∃ j : Nat, i = .int .i64 j ∧ j ≤ N ∧ CutI w wr pb cb wb lb tb w2.heap.size p (chunks p l) lv) (fun i _ => N - (intOf i).toNat)
    case atStart => exact ⟨0, rfl, by omega, HI.out⟩
    case round =>
      obtain ⟨j, rfl, hj, hi⟩ := hrel
      have HIr := Lib.hid hi; clear hi
      by_cases hlt : j < N
      · have hrow := HIr.out.list.row
        rw [HLVE.out] at hrow
        obtain ⟨f, hf1, hf2⟩ := hrow
        obtain ⟨b6, o6, he6, hy⟩ := hf1.get j hlt
        have hel := hf2 j (by rw [← HN.out]; exact hlt)
        have hone := chunks_one p HP.out l j (by rw [← HN.out]; exact hlt)
        have hcl : ((chunks p l).getD j []).length ≤ 300 := by
          have h1 := offs_succ p l j (by rw [← HN.out]; exact hlt)
          have h2 := offs_le p HP.out l (j + 1)
          have := HLL.out; omega
        generalize (chunks p l).getD j [] = cl at *
        generalize f j = y at *
        obtain ⟨ay, cy, hyf⟩ := own_form hel
        generalize hfl : cl.length = fl at hyf
        subst hyf
        cases he6
        have HEL := Lib.hid hel; have HONE := Lib.hid hone; have HCL := Lib.hid hcl
        clear hel hone hcl hf1 hf2 hfl
        go_wp2_with fail
        refine (split_in HP.out HIr.out HZ3.out cl _ _ _ HEL.out.bytes (by have := HCL.out; omega) (fun k hk _ => by have := (HEL.out.lt k hk).1; have := HZ3.out; omega) _ rfl).mono ?_
        rintro e w5 ⟨a5, n5, c5, rfl, hn5, -, hi5⟩
        rw [HONE.out] at hn5
        subst hn5
        have HI5 := Lib.hid hi5
        clear hi5 hy
        dsimp only
        go_wp2_with fail
        go_roundw
        case rel => exact ⟨j + 1, by go_num, by omega, HI5.out⟩
        case measure => simp [intOf]; omega
      · have hbox := HIr.out.box
        have hd0 := hbox.cell 0; have hd1 := hbox.cell 1; have hd2 := hbox.cell 2; have hd3 := hbox.cell 3; have hd4 := hbox.cell 4
        have hf1 := hbox.free 1
        simp only [List.getElem?_toArray, List.getElem?_cons_succ, List.getElem?_cons_zero] at hd0 hd1 hd2 hd3 hd4
        have HBX := Lib.hid (hbox.set 1 (.int .i64 p.mn))
        have HXS := Lib.hid (HIr.out.ext.setCell ⟨pb, 1, none⟩ (.int .i64 p.mn) (fun h => absurd h (by have := HPB.out; simp only; omega)))
        clear hbox
        go_wp2_with fail
        refine (HNO2.out _).mono ?_
        rintro e w6 ⟨cb2, wb2, lb2, tb2, rfl, hc6, hcb, hwb, hlb, hx6⟩
        have hz6 := HXS.out.size
        have HBD2 := Lib.hid (show w.heap.size ≤ wb2 ∧ w.heap.size ≤ lb2 by omega)
        have HC6 := Lib.hid hc6; have HX6 := Lib.hid (HXS.out.trans' hx6); have HBX6 := Lib.hid (HBX.out.ext hx6 (fun x => x))
        clear hc6 hcb hwb hlb hx6 hz6 hd0 hd1 hd2 hd3 hd4 hf1 HXS HBX HIr
        dsimp only
        go_wp2_with fail
        refine (split_any cb2 wb2 lb2 tb2 (evenP p) (even_ok HP.out) _ l _ n cap' w6 HC6.out (HV.out.ext0 HX6.out) (by have := HLL.out; omega) (fun k hk h0 => by have := HLV.out k hk h0; have := HBD2.out; have := HPB.out; omega)).mono ?_
        rintro e w7 ⟨x7, st7, rfl, ho7, hc7, hx7⟩
        obtain ⟨⟨a7, c7, hf7⟩, -⟩ := ownBs_form ho7
        have hcnt := even_count (evenP p) (even_ok HP.out) rfl _ l (Nat.le_refl _)
        have hmx := fun k hk => chunk_mx (evenP p) (even_ok HP.out) l k hk
        have hmn := fun k hk => chunk_mn (evenP p) (even_ok HP.out) l k hk
        have hMl := chunks_len (evenP p) (even_ok HP.out) l
        obtain ⟨M, hM⟩ : ∃ M, M = (chunks (evenP p) l).length := ⟨_, rfl⟩
        rw [← hM] at hf7 hcnt hmx hmn hMl
        subst hf7
        have hx7' : Ext No w w7 := HX6.out.trans hx7 (fun _ _ h => h) (fun k hk h => by have := HBD2.out; omega)
        have hbx7 : Blk w7 pb _ _ := HBX6.out.ext hx7 (by have h1 := Blk.ne_type HBX6.out HC6.out.win.head (by decide); have h2 := Blk.ne_type HBX6.out HC6.out.win.row (by decide); omega)
        have hd0 := hbx7.cell 0
        simp at hd0
        have hM300 : M ≤ 300 := by have := HLL.out; omega
        have hquo : ((n : Int) + p.mn - 1).tdiv (p.mn : Int) = (M : Int) := by
          have h1 := HP.out.mn
          rw [hcnt, show ((n : Int) + p.mn - 1) = ((l.length + p.mn - 1 : Nat) : Int) by have := HM.out; omega]
          rfl
        have HO7 := Lib.hid ho7; have HX7 := Lib.hid hx7'; have HMM := Lib.hid hM; have HMX := Lib.hid hmx; have HMN := Lib.hid hmn; have HQ := Lib.hid hquo
        have hmnB : p.mn ≤ 65536 := by have := HP.out.mx; have := HP.out.mx2; omega
        clear ho7 hc7 hx7 hx7' hbx7 hcnt hmx hmn hMl hM hquo HC6 HX6 HBX6
        dsimp only
        go_wp2_with fail
        go_loopw [97] (fun i wx => ∃ q : Nat, i = .int .i64 q ∧ q ≤ M ∧ wx = w7) (fun i _ => M - (intOf i).toNat)
        case atStart => exact ⟨0, rfl, by omega, rfl⟩
        case round =>
          obtain ⟨q, rfl, hq, rfl⟩ := hrel
          by_cases hlt2 : q < M
          · obtain ⟨b8, o8, y, he8, hy, hyb⟩ := HO7.out.rows.get q hlt2
            have h1 : ((chunks (evenP p) l).getD q []).length ≤ p.mn := HMX.out q hlt2
            have h2 : q + 1 < M → p.mn ≤ ((chunks (evenP p) l).getD q []).length := fun h => HMN.out q h
            obtain ⟨ay, cy, hyf⟩ : ∃ a c, y = .slice a ((chunks (evenP p) l).getD q []).length c := by obtain ⟨a, c, h, -⟩ := hyb; exact ⟨a, c, h⟩
            generalize ((chunks (evenP p) l).getD q []).length = fl at hyf h1 h2
            subst hyf
            cases he8
            clear hyb
            have e1 : decide ((p.mn : Int) < fl) = false := by simp; omega
            have e2 : decide (p.mn < fl) = false := by simp; omega
            by_cases hl : q + 1 < M
            · have hfe : fl = p.mn := by have := h2 hl; omega
              clear h1 h2
              subst hfe
              go_wp2_with fail
              go_roundw
              case rel => exact ⟨q + 1, by go_num, by omega, trivial⟩
              case measure => simp [intOf]; omega
            · have e3 : decide ((q : Int) < (M : Int) - 1) = false := by simp; omega
              clear h1 h2
              by_cases hfe : fl = p.mn
              · subst hfe
                go_wp2_with fail
                go_roundw
                case rel => exact ⟨q + 1, by go_num, by omega, trivial⟩
                case measure => simp [intOf]; omega
              · have hfi : ¬ ((fl : Int) = p.mn) := by omega
                go_wp2_with fail
                go_roundw
                case rel => exact ⟨q + 1, by go_num, by omega, trivial⟩
                case measure => simp [intOf]; omega
          · have hquo := HQ.out
            go_wp2_with fail
            go_ret
            exact ⟨by simp, HX7.out⟩

theorem cuts_fr (a : PrmI) (v : Value) (l : List UInt8) (u : Value) (at0 : Int) (w : World) (ha : IsPrm a v) (hu : IsBytes w l u) (_ : -9223372036854775808 ≤ at0) (_ : at0 ≤ 9223372036854775807) :
    Calls Try.prog 5 #[v, u, .int .i64 at0] w fun e w' => e = .returned (.bool true) ∧ Ext No w w' := by
  obtain ⟨rfl, -⟩ := ha
  obtain ⟨x, cap, hx, -⟩ := id hu
  by_cases h : RightI a.mn a.mx a.bt a.wd
  · obtain ⟨p, hp, he, -⟩ := prm_ok a.sd h
    rw [he]
    subst hx
    exact cuts_yes p hp l x _ cap at0 w hu
  · subst hx
    exact cuts_no a.mn a.mx a.bt a.wd a.sd x _ cap at0 w h

end Go.Proofs.Ytceiahjhfbghpaa
