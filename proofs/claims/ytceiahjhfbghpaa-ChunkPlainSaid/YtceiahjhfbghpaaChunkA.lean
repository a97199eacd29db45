/- The contracts of chunk.New and First. -/
import Derived.Test.YtceiahjhfbghpaaChunkM
namespace Go.Proofs.Ytceiahjhfbghpaa
open Go.RowKit Go.My

attribute [local go_sem] w64_xor w64_add w64_mul w32_xor w32_and w32_self w64_self

def prmVal (mn mx bt wd : Int) (s : BitVec 64) : Value := .agg #[.int .i64 mn, .int .i64 mx, .int .i64 bt, .int .i64 wd, .int .u64 (w64 s)]

def maskW (b : Nat) : BitVec 32 := BitVec.ofNat 32 (2 ^ b - 1)

structure Chk (w : World) (cb wb lb tb : Nat) (p : Prm) (st : WS) : Prop where
  head : Blk w cb #[.int .i64 p.mn, .int .i64 p.mx, .int .i64 p.bt, .int .i64 p.wd, .int .u64 (w64 p.sd), .pointer (some ⟨wb, 0, none⟩), .int .u32 (w32 (maskW p.bt))] 54
  win : Win w wb lb tb st
  tab : Tab w tb p.sd
  buf : st.buf.length = p.wd


theorem make_ext (s : BitVec 64) (w w0 : World) (h : Ext No w0 w) :
    Calls Try.prog 17 #[.int .u64 (w64 s)] w fun e w' => ∃ tb, e = .returned (.pointer (some ⟨tb, 0, none⟩)) ∧ Tab w' tb s ∧ Ext No w0 w' := by
  refine (make_any s w).mono ?_
  rintro e w' ⟨rfl, rfl⟩
  exact ⟨_, rfl, Blk.new w _ _, h.alloc _⟩
theorem Tab.ext' {w w' : World} {b : Nat} {s : BitVec 64} {S : Nat → Prop} (h : Tab w b s) (e : Ext S w w') (h1 : ¬ S b) : Tab w' b s := Tab.ext h e h1

set_option maxRecDepth 100000 in
set_option maxHeartbeats 2000000 in
theorem new_no (mn mx bt wd : Int) (s : BitVec 64) (w : World) (h : ¬ (1 ≤ mn ∧ mn ≤ mx ∧ mx ≤ 65536 ∧ 0 ≤ bt ∧ bt ≤ 20 ∧ 1 ≤ wd ∧ wd ≤ 64)) :
    Calls Try.prog 8 #[prmVal mn mx bt wd s] w fun e w' => e = .returned (.tuple #[.pointer none, .int .i64 1]) ∧ Ext No w w' := by
  have hx : Ext No w (w.alloc (.cells #[.int .i64 mn, .int .i64 mx, .int .i64 bt, .int .i64 wd, .int .u64 (w64 s)] 24)) := (Ext.refl No w).alloc _
  unfold prmVal
  go_enter Try.func8, Try.ntmps8
  by_cases h1 : mn < 1
  · clear h
    go_wp2_with fail
    go_ret2
    exact ⟨rfl, hx⟩
  by_cases h2 : mx < mn
  · clear h
    go_wp2_with fail
    go_ret2
    exact ⟨rfl, hx⟩
  by_cases h3 : 65536 < mx
  · clear h
    go_wp2_with fail
    go_ret2
    exact ⟨rfl, hx⟩
  by_cases h4 : bt < 0
  · clear h
    go_wp2_with fail
    go_ret2
    exact ⟨rfl, hx⟩
  by_cases h5 : 20 < bt
  · clear h
    go_wp2_with fail
    go_ret2
    exact ⟨rfl, hx⟩
  have hw : wd < 1 ∨ 64 < wd := by omega
  have HW := Lib.hid hw
  clear h hw
  go_wp2_with fail
  obtain ⟨w1, hw1⟩ : ∃ w1, w.alloc (.cells #[.int .i64 mn, .int .i64 mx, .int .i64 bt, .int .i64 wd, .int .u64 (w64 s)] 24) = w1 := ⟨_, rfl⟩
  have hb1 : Blk w1 w.heap.size #[.int .i64 mn, .int .i64 mx, .int .i64 bt, .int .i64 wd, .int .u64 (w64 s)] 24 := by rw [← hw1]; exact Blk.new w _ _
  rw [hw1] at hx ⊢
  clear hw1
  generalize w.heap.size = pb at *
  have hc4 := hb1.cell 4
  have hc3 := hb1.cell 3
  simp only [List.getElem?_toArray, List.getElem?_cons_succ, List.getElem?_cons_zero] at hc4 hc3
  have HX := Lib.hid hx; have HB := Lib.hid hb1
  clear hx hb1
  go_cut [4, 5] (fun a b wx => a = .pointer none ∧ b = .int .i64 1 ∧ Ext No w wx)
  case first =>
    go_region_with (first
      | (go_at_call 17; refine (make_ext s _ w1 (Ext.refl No w1).drew).mono ?_; rintro e w2 ⟨tb, rfl, ht2, hx2⟩; have hb2 := HB.out.ext hx2 (fun x => x); have hc32 := hb2.cell 3; simp only [List.getElem?_toArray, List.getElem?_cons_succ, List.getElem?_cons_zero] at hc32; have HX2 := Lib.hid (HX.out.trans' hx2); clear ht2 hx2 hb2)
      | (go_at_call 18; refine (window_no _ wd _ HW.out).mono ?_; rintro e w3 ⟨rfl, rfl⟩))
    all_goals
      go_wp2_with fail
      go_meet
      exact ⟨rfl, rfl, HX2.out⟩
  case rest =>
    obtain ⟨rfl, rfl, hx⟩ := hcut
    clear HX HB hc4 hc3
    go_wp2_with fail
    go_ret2
    exact ⟨rfl, hx⟩

theorem mask_int (b : Nat) (h : b ≤ 20) : IntKind.u32.wrap (IntKind.u32.wrap (1 * 2 ^ (b : Int).toNat) - 1) = w32 (maskW b) := by
  have h1 : 2 ^ b < 2 ^ 32 := Nat.pow_lt_pow_right (by decide) (by omega)
  have h2 : 0 < 2 ^ b := Nat.pos_of_ne_zero (by simp)
  rw [Int.toNat_natCast, w32_def]
  unfold maskW
  rw [BitVec.toNat_ofNat, Nat.mod_eq_of_lt (by omega), Int.one_mul, w32_wrap, w32_wrap]
  have h3 : ((2 : Int) ^ b) = ((2 ^ b : Nat) : Int) := by simp
  rw [h3]
  omega
def stZero (n : Nat) : WS := ⟨List.replicate n 0, 0, false, 0#32⟩
theorem win_ext (b : Nat) (n : Nat) (w w0 : World) (s : BitVec 64) (h : Ext No w0 w) (ht : Tab w b s) (h1 : 1 ≤ n) (h2 : n ≤ 64) :
    Calls Try.prog 18 #[.pointer (some ⟨b, 0, none⟩), .int .i64 n] w fun e w' => ∃ wb lb, 
      e = .returned (.tuple #[.pointer (some ⟨wb, 0, none⟩), .int .i64 0]) ∧ Win w' wb lb b (stZero n) ∧ Tab w' b s ∧ Ext No w0 w' ∧ w0.heap.size ≤ wb ∧ w0.heap.size ≤ lb := by
  refine (window_yes b n w h1 h2).mono ?_
  rintro e w' ⟨rfl, hw, hx⟩
  exact ⟨_, _, rfl, hw, ht.ext hx (fun x => x), h.trans' hx, Nat.le_succ_of_le h.size, h.size⟩

set_option maxRecDepth 100000 in
set_option maxHeartbeats 2000000 in
theorem new_yes (p : Prm) (hp : p.Ok) (w : World) :
    Calls Try.prog 8 #[prmVal p.mn p.mx p.bt p.wd p.sd] w fun e w' => ∃ cb wb lb tb, e = .returned (.tuple #[.pointer (some ⟨cb, 0, none⟩), .int .i64 0]) ∧ Chk w' cb wb lb tb p (stZero p.wd) ∧
      w.heap.size ≤ cb ∧ w.heap.size ≤ wb ∧ w.heap.size ≤ lb ∧ Ext No w w' := by
  obtain ⟨mn, mx, bt, wd, s⟩ := p
  obtain ⟨h1, h2, h3, h4, h5, h6⟩ := hp
  simp only at *
  have hk := mask_int bt h4
  have hx : Ext No w (w.alloc (.cells #[.int .i64 mn, .int .i64 mx, .int .i64 bt, .int .i64 wd, .int .u64 (w64 s)] 24)) := (Ext.refl No w).alloc _
  unfold prmVal
  go_enter Try.func8, Try.ntmps8
  have hd1 : decide ((mn : Int) < 1) = false := by simp; omega
  have hd2 : decide ((mx : Int) < mn) = false := by simp; omega
  have hd2' : decide (mx < mn) = false := by simp; omega
  have hd3 : decide (65536 < (mx : Int)) = false := by simp; omega
  have hd3' : decide (65536 < mx) = false := by simp; omega
  have hd4 : decide ((bt : Int) < 0) = false := by simp
  have hd5 : decide (20 < (bt : Int)) = false := by simp; omega
  have hd5' : decide (20 < bt) = false := by simp; omega
  have HH := Lib.hid (And.intro h5 h6)
  go_wp2_with fail
  clear hd1 hd2 hd2' hd3 hd3' hd4 hd5 hd5'
  obtain ⟨w1, hw1⟩ : ∃ w1, w.alloc (.cells #[.int .i64 mn, .int .i64 mx, .int .i64 bt, .int .i64 wd, .int .u64 (w64 s)] 24) = w1 := ⟨_, rfl⟩
  have hb1 : Blk w1 w.heap.size #[.int .i64 mn, .int .i64 mx, .int .i64 bt, .int .i64 wd, .int .u64 (w64 s)] 24 := by rw [← hw1]; exact Blk.new w _ _
  rw [hw1] at hx ⊢
  clear hw1
  generalize hpb : w.heap.size = pb at *
  have HPB := Lib.hid hpb; clear hpb
  have hc4 := hb1.cell 4
  have hc3 := hb1.cell 3
  simp only [List.getElem?_toArray, List.getElem?_cons_succ, List.getElem?_cons_zero] at hc4 hc3
  have HX := Lib.hid hx; have HB := Lib.hid hb1; have HK := Lib.hid hk
  clear hx hb1 hk
  go_cut [4, 5] (fun a b wx => ∃ wb lb tb, a = .pointer (some ⟨wb, 0, none⟩) ∧ b = .int .i64 0 ∧ Win wx wb lb tb (stZero wd) ∧ Tab wx tb s ∧ Ext No w1 wx ∧ w1.heap.size ≤ wb ∧ w1.heap.size ≤ lb)
  case first =>
    go_region_with (first
      | (go_at_call 17; refine (make_ext s _ w1 (Ext.refl No w1).drew).mono ?_; rintro e w2 ⟨tb, rfl, ht2, hx2⟩; have hb2 := HB.out.ext hx2 (fun x => x); have hc32 := hb2.cell 3; simp only [List.getElem?_toArray, List.getElem?_cons_succ, List.getElem?_cons_zero] at hc32; have HX2 := Lib.hid hx2; have HT2 := Lib.hid ht2; clear ht2 hx2 hb2)
      | (go_at_call 18; refine (win_ext tb wd _ w1 s HX2.out HT2.out HH.out.1 HH.out.2).mono ?_; rintro e w3 ⟨wb, lb, rfl, hwin, htb, hx3, hs3⟩; have HW3 := Lib.hid hwin; have HT3 := Lib.hid htb; have HX3 := Lib.hid hx3; have HS3 := Lib.hid hs3; clear hwin htb hx3 hs3))
    all_goals
      go_wp2_with fail
      go_meet
      exact ⟨_, _, _, rfl, rfl, HW3.out, HT3.out, HX3.out, HS3.out⟩
  case rest =>
    obtain ⟨wb, lb, tb, rfl, rfl, hwin, htb, hx, hs1, hs2⟩ := hcut
    have hbx := HB.out.ext hx (fun x => x)
    have HX3 := Lib.hid hx
    clear hc4 hc3 hx
    have hc0 := hbx.cell 0
    have hc1 := hbx.cell 1
    have hc2 := hbx.cell 2
    have hc3 := hbx.cell 3
    have hc4 := hbx.cell 4
    simp only [List.getElem?_toArray, List.getElem?_cons_succ, List.getElem?_cons_zero] at hc0 hc1 hc2 hc3 hc4
    have HW3 := Lib.hid hwin; have HT3 := Lib.hid htb; have HS3 := Lib.hid (And.intro hs1 hs2); clear hwin htb hs1 hs2 hbx
    go_wp2_with fail
    go_region_with (fail)
    all_goals
      go_wp2_with fail
      go_ret2
      have hk := HK.out
      rw [Int.toNat_natCast, Int.one_mul] at hk
      rw [hk]
      have hxx : Ext No wc (wc.alloc (.cells #[.int .i64 mn, .int .i64 mx, .int .i64 bt, .int .i64 wd, .int .u64 (w64 s), .pointer (some ⟨wb, 0, none⟩), .int .u32 (w32 (maskW bt))] 54)).drew := ((Ext.refl No wc).alloc _).drew
      have hb := Blk.new wc #[.int .i64 mn, .int .i64 mx, .int .i64 bt, .int .i64 wd, .int .u64 (w64 s), .pointer (some ⟨wb, 0, none⟩), .int .u32 (w32 (maskW bt))] 54
      have hsz := HX3.out.size
      have hsz1 := HX.out.size
      have hpb := HPB.out
      have hs3 := HS3.out
      exact ⟨wc.heap.size, wb, lb, tb, rfl, ⟨hb.drew, HW3.out.ext hxx (fun x => x) (fun x => x), Tab.ext' HT3.out hxx (fun x => x), by simp [stZero]⟩, by omega, by omega, by omega, (HX.out.trans' HX3.out).trans' hxx⟩

end Go.Proofs.Ytceiahjhfbghpaa
