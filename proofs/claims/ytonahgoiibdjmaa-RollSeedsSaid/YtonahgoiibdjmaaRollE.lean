/- The walk of coldstorelaw08.RollSums. -/
import Derived.Test.YtonahgoiibdjmaaRollD
namespace Go.Proofs.Ytonahgoiibdjmaa
open Go.RowKit Go.My

set_option maxRecDepth 100000 in
set_option maxHeartbeats 1000000 in
theorem sums_long (s : BitVec 64) (n : Int) (l : List UInt8) (v : Value) (c : UInt8) (w : World) (hv : IsBytes w l v) (hl : 300 < l.length) :
    Calls Try.prog 3 #[.int .u64 (w64 s), .int .i64 n, v, .int .u8 c.toNat] w fun e w' => e = .returned (.bool true) ∧ Ext No w w' := by
  obtain ⟨a, cap, rfl, hc1, hc2, hr⟩ := hv
  generalize hm : l.length = m at *
  clear hm
  go_enter Try.func3, Try.ntmps3
  go_wp2_with fail
  refine (alive_any w).mono ?_
  rintro e w1 ⟨rfl, he1⟩
  go_wp2_with fail
  go_ret
  exact ⟨rfl, he1⟩

structure SumsRel (w wr : World) (wb lb tb : Nat) (s : BitVec 64) (n : Nat) (l : List UInt8) (st : WS) : Prop where
  win : Win wr wb lb tb st
  tab : Tab wr tb s
  ext : Ext No w wr
  good : Roll.Good (fun c => mixN s c.toNat) n l st.buf st.pos st.full st.sum

theorem SumsRel.push {w wr w2 : World} {wb lb tb : Nat} {s : BitVec 64} {n : Nat} {l : List UInt8} {st : WS} (h : SumsRel w wr wb lb tb s n l st) (hn : 0 < n)
    (hlow : w.heap.size ≤ wb ∧ w.heap.size ≤ lb) (c : UInt8) (hw : Win w2 wb lb tb (st.push s c)) (he : Ext (fun k => k = wb ∨ k = lb) wr w2) : SumsRel w w2 wb lb tb s n (l ++ [c]) (st.push s c) where
  win := hw
  tab := h.tab.ext he (by rintro (x | x); exact (Tab.ne_win h.win h.tab).1 x; exact (Tab.ne_win h.win h.tab).2 x)
  ext := h.ext.trans he (fun _ _ x => x) (by intro i hi x; omega)
  good := by
    have g := h.good.push (fun c => mixN s c.toNat) hn c
    have hl := h.good.len
    unfold WS.push WS.sum2 WS.sum1
    rw [hl]; exact g

theorem SumsRel.dr {w wr w2 : World} {wb lb tb : Nat} {s : BitVec 64} {n : Nat} {l : List UInt8} {st : WS} (h : SumsRel w wr wb lb tb s n l st) (hd : Dr wr w2) : SumsRel w w2 wb lb tb s n l st :=
  ⟨h.win.ext (hd.ext No) (fun x => x) (fun x => x), h.tab.ext0 (hd.ext No), h.ext.trans' (hd.ext No), h.good⟩

set_option maxRecDepth 100000 in
set_option maxHeartbeats 1000000 in
theorem sums_some (s : BitVec 64) (n : Nat) (l : List UInt8) (v : Value) (c : UInt8) (w : World) (hv : IsBytes w l v) (hl : l.length ≤ 300) (h1 : 1 ≤ n) (h2 : n ≤ 64) :
    Calls Try.prog 3 #[.int .u64 (w64 s), .int .i64 n, v, .int .u8 c.toNat] w fun e w' => e = .returned (.bool true) ∧ Ext No w w' := by
  have HV := Lib.hid hv
  obtain ⟨a, cap, rfl, hc1, hc2, hr⟩ := hv
  obtain ⟨m, hm⟩ : ∃ m, m = l.length := ⟨_, rfl⟩
  have HR := Lib.hid hr
  clear hr
  rw [← hm] at hc1 hl ⊢
  have HM := Lib.hid hm; clear hm
  go_enter Try.func3, Try.ntmps3
  go_wp2_with fail
  refine (alive_any w).mono ?_
  rintro e w1 ⟨rfl, he1⟩
  have HE1 := Lib.hid he1; clear he1
  go_wp2_with fail
  refine (make_any s w1).mono ?_
  rintro e w2 ⟨rfl, hw2⟩
  have ht2 : Tab w2 w1.heap.size s := by rw [hw2]; exact Tab.mk
  have he2 : Ext No w w2 := HE1.out.trans' (by rw [hw2]; exact (Ext.refl No w1).alloc _)
  clear hw2 HE1
  generalize w1.heap.size = tb at *
  have HT2 := Lib.hid ht2; have HE2 := Lib.hid he2; clear ht2 he2
  go_wp2_with fail
  refine (window_yes tb n w2 h1 h2).mono ?_
  rintro e w3 ⟨rfl, hwin, hw3⟩
  have hs2 : w.heap.size ≤ w2.heap.size + 1 ∧ w.heap.size ≤ w2.heap.size := by have := HE2.out.size; omega
  have hrel : SumsRel w w3 (w2.heap.size + 1) w2.heap.size tb s n [] ⟨List.replicate n 0, 0, false, 0#32⟩ :=
    ⟨hwin, HT2.out.ext0 hw3, HE2.out.trans' hw3, Roll.Good.start _ n (by omega) _ (by simp)⟩
  clear HT2 HE2 hw3 hwin
  generalize w2.heap.size + 1 = wb at *
  generalize w2.heap.size = lb at *
  have HREL := Lib.hid hrel; have HLOW := Lib.hid hs2; clear hrel hs2
  go_wp2_with fail
  refine (tabAt_any s tb c w3 HREL.out.tab).mono ?_
  rintro e w4 ⟨rfl, rfl⟩
  go_wp2_with fail
  refine (refAt_any s c w3).mono ?_
  rintro e w4 ⟨rfl, rfl⟩
  go_wp2_with fail
  have HX := Lib.hid (tabSum_v s tb l _ w3 HREL.out.tab (HV.out.ext0 HREL.out.ext))
  rw [← HM.out] at HX
  refine HX.out.mono ?_
  rintro e w4 ⟨rfl, hw4⟩
  have hrel4 : SumsRel w w4 wb lb tb s n [] ⟨List.replicate n 0, 0, false, 0#32⟩ := HREL.out.dr hw4
  clear HX HREL hw4
  have HREL := Lib.hid hrel4; clear hrel4
  go_wp2_with fail
  have HX := Lib.hid (refSum_v s l _ w4 (HV.out.ext0 HREL.out.ext))
  rw [← HM.out] at HX
  refine HX.out.mono ?_
  rintro e w5 ⟨rfl, rfl⟩
  clear HX
  go_wp2_with fail
  refine (winSum_any wb lb tb _ w4 HREL.out.win).mono ?_
  rintro e w5 ⟨rfl, rfl⟩
  rw [← lit0]
  go_wp2_with fail
  go_loopw [12, 13, 14, 69] (fun _ _ _ i wr => ∃ (k : Nat) (st : WS), k ≤ m ∧ i = .int .i64 k ∧ SumsRel w wr wb lb tb s n (l.take k) st) (fun _ _ _ i _ => m - (intOf i).toNat)
  case atStart => exact ⟨0, _, by omega, rfl, by rw [List.take_zero]; exact HREL.out⟩
  case round =>
    obtain ⟨k, st, hk, rfl, hst⟩ := hrel
    have HST := Lib.hid hst; clear hst
    clear HREL
    by_cases hlt : k < m
    · have hbk := (HV.out.ext0 HST.out.ext)
      rw [← HM.out] at hbk
      obtain ⟨b1, off, rfl, hcc⟩ := hbk.get k hlt
      have hbt := hbk.take (k + 1) (by omega)
      have HBT := Lib.hid hbt; clear hbt hbk
      generalize hg : l.getD k 0 = x at *
      have HG := Lib.hid hg; clear hg
      have hck : ((k : Int) + 1 ≤ (cap : Int)) := by omega
      go_wp2_with fail
      refine (refLast_any _ _ n wr HBT.out h1 h2).mono ?_
      rintro e w4 ⟨vl, rfl, hvl, rfl⟩
      have HVL := Lib.hid hvl; clear hvl
      go_wp2_with fail
      refine (refSum_v s _ vl wr HVL.out).mono ?_
      rintro e w5 ⟨rfl, rfl⟩
      go_wp2_with fail
      refine (push_any s wb lb tb st x wr HST.out.win HST.out.tab).mono ?_
      rintro e w6 ⟨rfl, hw6, he6⟩
      have hnew := HST.out.push (by omega) HLOW.out x hw6 he6
      have hsn : l.take k ++ [x] = l.take (k + 1) := by rw [take_snoc' l k (by rw [← HM.out]; exact hlt), HG.out]
      rw [hsn] at hnew
      have hsum : rollTo s (Roll.lastN n (List.take (k + 1) l)) = (st.push s x).sum := by rw [rollTo_H, hnew.good.sum]
      rw [hsum]
      have HNEW := Lib.hid hnew
      clear hnew hsum hw6 he6 hsn
      generalize hsm : (st.push s x).sum = sm at *
      have HSM := Lib.hid hsm; clear hsm
      go_wp2_with fail
      refine (winSum_any wb lb tb _ w6 HNEW.out.win).mono ?_
      rintro e w7 ⟨rfl, rfl⟩
      rw [HSM.out]
      go_wp2_with fail
      go_roundw
      case rel => exact ⟨k + 1, st.push s x, by omega, by go_num, HNEW.out⟩
      case measure => simp [intOf]; omega
    · obtain rfl : k = m := by omega
      go_wp2_with fail
      go_ret
      exact ⟨rfl, HST.out.ext⟩

set_option maxRecDepth 100000 in
set_option maxHeartbeats 1000000 in
theorem sums_none (s : BitVec 64) (n : Int) (l : List UInt8) (v : Value) (c : UInt8) (w : World) (hv : IsBytes w l v) (hl : l.length ≤ 300) (h : n < 1 ∨ 64 < n) :
    Calls Try.prog 3 #[.int .u64 (w64 s), .int .i64 n, v, .int .u8 c.toNat] w fun e w' => e = .returned (.bool true) ∧ Ext No w w' := by
  have HV := Lib.hid hv
  obtain ⟨a, cap, rfl, hc1, hc2, hr⟩ := hv
  obtain ⟨m, hm⟩ : ∃ m, m = l.length := ⟨_, rfl⟩
  clear hr
  rw [← hm] at hc1 hl ⊢
  have HM := Lib.hid hm; clear hm
  have HN := Lib.hid h
  rcases h with h | h
  all_goals
    go_enter Try.func3, Try.ntmps3
    go_wp2_with fail
    refine (alive_any w).mono ?_
    rintro e w1 ⟨rfl, he1⟩
    have HE1 := Lib.hid he1; clear he1
    go_wp2_with fail
    refine (make_any s w1).mono ?_
    rintro e w2 ⟨rfl, hw2⟩
    have ht2 : Tab w2 w1.heap.size s := by rw [hw2]; exact Tab.mk
    have he2 : Ext No w w2 := HE1.out.trans' (by rw [hw2]; exact (Ext.refl No w1).alloc _)
    clear hw2 HE1
    generalize w1.heap.size = tb at *
    have HT2 := Lib.hid ht2; have HE2 := Lib.hid he2; clear ht2 he2
    go_wp2_with fail
    refine (window_no tb n w2 HN.out).mono ?_
    rintro e w3 ⟨rfl, rfl⟩
    go_wp2_with fail
    refine (tabAt_any s tb c w2 HT2.out).mono ?_
    rintro e w4 ⟨rfl, rfl⟩
    go_wp2_with fail
    refine (refAt_any s c w2).mono ?_
    rintro e w4 ⟨rfl, rfl⟩
    go_wp2_with fail
    have HX := Lib.hid (tabSum_v s tb l _ w2 HT2.out (HV.out.ext0 HE2.out))
    rw [← HM.out] at HX
    refine HX.out.mono ?_
    rintro e w4 ⟨rfl, hw4⟩
    have he4 : Ext No w w4 := HE2.out.trans' (hw4.ext No)
    clear HX hw4
    have HE4 := Lib.hid he4; clear he4
    go_wp2_with fail
    have HX := Lib.hid (refSum_v s l _ w4 (HV.out.ext0 HE4.out))
    rw [← HM.out] at HX
    refine HX.out.mono ?_
    rintro e w5 ⟨rfl, rfl⟩
    clear HX
    go_wp2_with fail
    go_ret
    exact ⟨rfl, HE4.out⟩

theorem sums_any (s : BitVec 64) (n : Int) (l : List UInt8) (v : Value) (c : UInt8) (w : World) (hv : IsBytes w l v) :
    Calls Try.prog 3 #[.int .u64 (w64 s), .int .i64 n, v, .int .u8 c.toNat] w fun e w' => e = .returned (.bool true) ∧ Ext No w w' := by
  by_cases hl : 300 < l.length
  · exact sums_long s n l v c w hv hl
  · by_cases hn : n < 1 ∨ 64 < n
    · exact sums_none s n l v c w hv (by omega) hn
    · obtain ⟨k, rfl⟩ := Int.eq_ofNat_of_zero_le (by omega : 0 ≤ n)
      exact sums_some s k l v c w hv (by omega) (by omega) (by omega)

theorem sums_fr (s : BitVec 64) (n : Int) (l : List UInt8) (v : Value) (c : UInt8) (w : World) (_ : -9223372036854775808 ≤ n) (_ : n ≤ 9223372036854775807) (hv : IsBytes w l v) :
    Calls Try.prog 3 #[.int .u64 (w64 s), .int .i64 n, v, .int .u8 c.toNat] w fun e w' => e = .returned (.bool true) ∧ Ext No w w' := sums_any s n l v c w hv

end Go.Proofs.Ytonahgoiibdjmaa
