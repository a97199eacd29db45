/-
  JOINED (6): the contracts of the documents own answer: Decode, Same, Alike, Right.
-/
import Derived.Test.YtchejnnfbinclaaZE
import Derived.Deep.QuietTactic
import Derived.BigQuiet
set_option linter.unusedVariables false
set_option linter.unusedSimpArgs false

section
/- The contract of the documents' answer for scripts: Decode. Printed by wip/mkrdec.py. -/
namespace Go.Proofs.Ytchejnnfbinclaa
open Go.RowKit Go.My

/-- what the documents' answer reads out of bytes -/
def rdec (l : List UInt8) : RSt × CmdI :=
  let g0 := getS (l, 0) 1
  let g1 := getS g0.1 1
  let g2 := getS g1.1 8
  let g3 := getS g2.1 8
  let g4 := someS g3.1 120
  let g5 := someS g4.1 120
  let g6 := getS g5.1 4
  let g7 := getS g6.1 4
  let g8 := getS g7.1 8
  let g9 := getS g8.1 8
  let g10 := someS g9.1 120
  let g11 := getS g10.1 4
  let g12 := rawS g11.1 g11.2
  let g13 := someF g12.1 65536
  (g13.1, ⟨wrap64 (g0.2 : Int), wrap64 (g3.2 : Int), g2.2, decide (g1.2 = 1), g4.2, g5.2, g13.2, wrap64 (g6.2 : Int), wrap64 (g7.2 : Int), wrap64 (g8.2 : Int), wrap64 (g9.2 : Int), g10.2, g12.2.map fun b => decide (b = 1)⟩)
def zeroCmd : CmdI := ⟨0, 0, 0, false, [], [], [], 0, 0, 0, 0, [], []⟩
def rdecC (l : List UInt8) : Option CmdI :=
  if endS (rdec l).1 ≠ 0 then none else if checkN (rdec l).2 ≠ 0 then none else if cmdB (rdec l).2 ≠ l then none else some (rdec l).2

/-- the reader, the command and the result, while it reads -/
structure RDS (wo w wr : World) (xb cb rb : Nat) (s : RSt) (a : Option Addr) (m c : Nat) : Prop where
  rd : IsRd wo s (.agg #[.slice a m c, .int .i64 s.2])
  box : Blk wr xb #[.slice a m c, .int .i64 s.2] 100
  cmd : Blk wr cb zeroCells 38
  res : Blk wr rb zeroCells 38
  ext : Ext No w wr
  new : w.heap.size ≤ xb ∧ cb ≠ xb ∧ rb ≠ xb
theorem RDS.step {wo w wr w2 : World} {xb cb rb : Nat} {s s2 : RSt} {a a2 : Option Addr} {m c m2 c2 : Nat} (h : RDS wo w wr xb cb rb s a m c) (hx : Ext No wr w2) (hr : IsRd wo s2 (.agg #[.slice a2 m2 c2, .int .i64 s2.2])) :
    RDS wo w (putAll w2 xb 0 [.slice a2 m2 c2, .int .i64 s2.2]) xb cb rb s2 a2 m2 c2 := by
  have hx2 := putAll_ext xb [.slice a2 m2 c2, .int .i64 s2.2] w2 0
  exact ⟨hr, putAll_all (h.box.ext hx (fun s => s)) _ rfl, (h.cmd.ext hx (fun s => s)).ext hx2 (fun s => h.new.2.1 s), (h.res.ext hx (fun s => s)).ext hx2 (fun s => h.new.2.2 s),
    (h.ext.trans' hx).trans hx2 (fun _ _ s => s) (fun j hj s => by have := h.new.1; omega), h.new⟩
theorem getS_len (s : RSt) (k : Nat) : (getS s k).1.1.length ≤ s.1.length := rawS_le s k
theorem getS_lt (s : RSt) (k : Nat) : (getS s k).2 < 256 ^ k := by
  unfold getS
  have h := getN_lt (rawS s k).2
  exact Nat.lt_of_lt_of_le h (Nat.pow_le_pow_right (by decide) (rawS_len _ _))

theorem rdecC_of {l : List UInt8} {s : RSt} {c : CmdI} (h : rdec l = (s, c)) (he : endS s = 0) : rdecC l = if checkN c ≠ 0 then none else if cmdB c ≠ l then none else some c := by
  unfold rdecC
  rw [h, if_neg (by simpa using he)]
theorem checkR_flat (kind n : Int) (who : Nat) (flag : Bool) (name host : List UInt8) (files : List FileL) (last days day within : Int) (tag : List UInt8) (bits : List Bool) (vf vb : Value) (w : World) (hf : IsFiles w files vf) (hb : IsBools w bits vb) :
    Calls Try.prog 13 #[.agg #[.int .i64 kind, .int .i64 n, .int .u64 (who : Nat), .bool flag, .string (strB name), .string (strB host), vf, .int .i64 last, .int .i64 days, .int .i64 day, .int .i64 within, .string (strB tag), vb]] w fun e w' => e = .returned (.int .i64 (checkN ⟨kind, n, who, flag, name, host, files, last, days, day, within, tag, bits⟩)) ∧ Ext No w w' :=
  checkR_any ⟨kind, n, who, flag, name, host, files, last, days, day, within, tag, bits⟩ vf vb w hf hb
theorem bytesR29_flat (kind n : Int) (who : Nat) (flag : Bool) (name host : List UInt8) (files : List FileL) (last days day within : Int) (tag : List UInt8) (bits : List Bool) (vf vb : Value) (w : World) (hf : IsFiles w files vf) (hb : IsBools w bits vb)
    (hwho : who ≤ 18446744073709551615) (hl : 200 + name.length + host.length + tag.length + bits.length + (filesB files).length ≤ 1099511627000) :
    Calls Try.prog 16 #[.agg #[.int .i64 kind, .int .i64 n, .int .u64 (who : Nat), .bool flag, .string (strB name), .string (strB host), vf, .int .i64 last, .int .i64 days, .int .i64 day, .int .i64 within, .string (strB tag), vb]] w fun e w' => ∃ x, e = .returned x ∧ OwnB w' 5 w.heap.size (cmdB ⟨kind, n, who, flag, name, host, files, last, days, day, within, tag, bits⟩) x ∧ Ext No w w' :=
  bytesR29_any kind n who flag name host files last days day within tag bits vf vb w hf hb hwho hl
/-- a right command is not long -/
theorem filesB_bound (fs : List FileL) (h : fs.any badF = false) : (filesB fs).length ≤ 4 + fs.length * 65664 := by
  unfold filesB
  rw [List.length_append, numB_length]
  have : (fs.map fileB).flatten.length ≤ fs.length * 65664 := by
    induction fs with
    | nil => simp
    | cons f fs ih =>
      rw [List.any_cons, Bool.or_eq_false_iff] at h
      have h1 := ih h.2
      have h2 := h.1
      unfold badF at h2
      simp only [Bool.or_eq_false_iff, decide_eq_false_iff_not] at h2
      simp only [List.map_cons, List.flatten_cons, List.length_append, List.length_cons, fileB, bytesB_length]
      omega
  omega
theorem check_bound {c : CmdI} (h : checkN c = 0) : 200 + c.name.length + c.host.length + c.tag.length + c.bits.length + (filesB c.files).length ≤ 1099511627000 := by
  unfold checkN at h
  by_cases h1 : c.kind < 0 ∨ 255 < c.kind
  · rw [if_pos h1] at h; cases h
  rw [if_neg h1] at h
  by_cases h2 : c.last < 0 ∨ 2147483647 < c.last
  · rw [if_pos h2] at h; cases h
  rw [if_neg h2] at h
  by_cases h3 : c.days < 0 ∨ 2147483647 < c.days
  · rw [if_pos h3] at h; cases h
  rw [if_neg h3] at h
  by_cases h4 : 120 < c.name.length
  · rw [if_pos h4] at h; cases h
  rw [if_neg h4] at h
  by_cases h5 : 120 < c.host.length
  · rw [if_pos h5] at h; cases h
  rw [if_neg h5] at h
  by_cases h6 : 120 < c.tag.length
  · rw [if_pos h6] at h; cases h
  rw [if_neg h6] at h
  by_cases h7 : 512 < c.bits.length
  · rw [if_pos h7] at h; cases h
  rw [if_neg h7] at h
  by_cases h8 : 512 < c.files.length
  · rw [if_pos h8] at h; cases h
  rw [if_neg h8] at h
  by_cases h9 : c.files.any badF = true
  · rw [if_pos h9] at h; cases h
  have hb := filesB_bound c.files (by simpa using h9)
  have : c.files.length * 65664 ≤ 512 * 65664 := Nat.mul_le_mul_right _ (by omega)
  omega


set_option maxRecDepth 100000 in
set_option maxHeartbeats 20000000 in
theorem decodeR_any (l : List UInt8) (a : Option Addr) (m c : Nat) (w : World) (hv : IsBytes w l (.slice a m c)) (hnl : NilOk (.slice a m c)) (hl : l.length ≤ 1099511620000) :
    Calls Try.prog 19 #[.slice a m c] w fun e w' => Ext No w w' ∧
      ((∃ cm vf vb, rdecC l = some cm ∧ e = .returned (.tuple #[cmdVal cm vf vb, .bool true]) ∧ IsFiles w' cm.files vf ∧ IsBools w' cm.bits vb) ∨ (rdecC l = none ∧ e = .returned (.tuple #[.agg zeroCells, .bool false]))) := by
  obtain ⟨w0, hw0⟩ : ∃ w0, lay w [(zeroCells, 38), (zeroCells, 38)] = w0 := ⟨_, rfl⟩
  have hx0 : Ext No w w0 := by rw [← hw0]; exact lay_ext _ (Ext.refl _ _)
  have hsz : w0.heap.size = w.heap.size + 2 := by rw [← hw0]; exact lay_size _ w
  have hb0 := lay_at hw0 0 _ _ rfl
  have hb1 := lay_at hw0 1 _ _ rfl
  rw [Nat.add_zero] at hb0
  obtain ⟨rb, hrb⟩ : ∃ rb, w.heap.size = rb := ⟨_, rfl⟩
  obtain ⟨cb, hcb⟩ : ∃ cb, rb + 1 = cb := ⟨_, rfl⟩
  rw [hrb] at hb0 hb1
  rw [hcb] at hb1
  unfold zeroCells at hw0
  simp only [lay] at hw0
  have H := Lib.hid hv; have HNL := Lib.hid hnl; have HL := Lib.hid hl; have HX0 := Lib.hid hx0; have HSZ := Lib.hid hsz; have HW0 := Lib.hid hw0; have HB0 := Lib.hid hb0; have HB1 := Lib.hid hb1; have HRB := Lib.hid hrb; have HCB := Lib.hid hcb
  have HRD := Lib.hid (show IsRd w (l, 0) (.agg #[.slice a m c, .int .i64 0]) from ⟨a, m, c, rfl, hv, hnl⟩)
  clear hv hnl hl hx0 hsz hw0 hb0 hb1 hrb hcb
  go_enter Try.func19, Try.ntmps19
  go_wp2_with fail
  rw [HW0.out, HRB.out, HCB.out]
  refine (getR_any (l, 0) _ 1 (by decide) (by decide) w w0 HX0.out HRD.out).mono ?_
  rintro e w1 ⟨hx1, r, rfl, hr1⟩
  have hlt0 := getS_lt (l, 0) 1; have hle0 := getS_len (l, 0) 1
  generalize hg0 : getS (l, 0) 1 = g0 at *
  obtain ⟨s1, kind⟩ := g0
  dsimp only at hr1 hlt0 hle0
  obtain ⟨a1, m1, c1, rfl, hrb1, hrn1⟩ := id hr1
  obtain ⟨xb, hxb⟩ : ∃ xb, w1.heap.size = xb := ⟨_, rfl⟩
  have hxa : Ext No w1 (w1.alloc (.cells #[.slice a1 m1 c1, .int .i64 s1.2] 100)) := (Ext.refl No w1).alloc _
  have hs : RDS w w (w1.alloc (.cells #[.slice a1 m1 c1, .int .i64 s1.2] 100)) xb cb rb s1 a1 m1 c1 :=
    ⟨hr1, by rw [← hxb]; exact Blk.new w1 _ _, (HB1.out.ext hx1 (fun s => s)).ext hxa (fun s => s), (HB0.out.ext hx1 (fun s => s)).ext hxa (fun s => s), (HX0.out.trans' hx1).trans' hxa, by
      have h1 := hx1.size; have h2 := HSZ.out; have h3 := HRB.out; have h4 := HCB.out; omega⟩
  obtain ⟨wc, hwc⟩ : ∃ wc, w1.alloc (.cells #[.slice a1 m1 c1, .int .i64 s1.2] 100) = wc := ⟨_, rfl⟩
  rw [hwc] at hs
  have HS := Lib.hid hs; have HWC := Lib.hid hwc; have HG0 := Lib.hid hg0; have HLT0 := Lib.hid hlt0; have HLE := Lib.hid (show s1.1.length ≤ 1099511620000 from Nat.le_trans hle0 HL.out); have HXB := Lib.hid hxb
  clear hs hwc hg0 hlt0 hle0 hxb hr1 hrb1 hrn1 hxa hx1
  dsimp only
  go_wp2_with fail
  rw [HWC.out, HXB.out]

  -- mark
  have hc0 := HS.out.box.cell 0; have hc1 := HS.out.box.cell 1
  simp only [List.getElem?_toArray, List.getElem?_cons_zero, List.getElem?_cons_succ] at hc0 hc1
  try go_wp2_with fail
  refine (getR_any s1 _ 1 (by decide) (by decide) w wc HS.out.ext HS.out.rd).mono ?_
  rintro e w2 ⟨hx, r, rfl, hr⟩
  have hlt := getS_lt s1 1; have hle := getS_len s1 1
  generalize hg : getS s1 1 = g at *
  obtain ⟨s2, mark⟩ := g
  dsimp only at hr hle
  dsimp only at hlt
  obtain ⟨a2, m2, c2, rfl, hrb, hrn⟩ := id hr
  have hs := HS.out.step hx hr
  have hb := HS.out.box.ext hx (fun s => s)
  have hd0 := hb.cell 0; have hd1 := hb.cell 1; have hf0 := hb.free 0; have hf1 := hb.free 1
  simp only [List.getElem?_toArray, List.getElem?_cons_zero, List.getElem?_cons_succ] at hd0 hd1
  obtain ⟨v2, hw⟩ : ∃ v9, putAll w2 xb 0 [.slice a2 m2 c2, .int .i64 s2.2] = v9 := ⟨_, rfl⟩
  rw [hw] at hs
  simp only [putAll, Nat.zero_add] at hw
  have HW := Lib.hid hw; have HG1 := Lib.hid hg
  have HLT1 := Lib.hid hlt
  have HLE2 := Lib.hid (show s2.1.length ≤ 1099511620000 from Nat.le_trans hle HLE.out)
  clear HS
  have HS := Lib.hid hs
  clear hs hw hg hle hx hr hrb hrn hb hc0 hc1 hlt
  clear HLE; have HLE := HLE2; clear HLE2
  dsimp only
  go_wp2_with fail
  rw [HW.out]; clear HW hd0 hd1 hf0 hf1
  -- who
  have hc0 := HS.out.box.cell 0; have hc1 := HS.out.box.cell 1
  simp only [List.getElem?_toArray, List.getElem?_cons_zero, List.getElem?_cons_succ] at hc0 hc1
  try go_wp2_with fail
  refine (getR_any s2 _ 8 (by decide) (by decide) w v2 HS.out.ext HS.out.rd).mono ?_
  rintro e w3 ⟨hx, r, rfl, hr⟩
  have hlt := getS_lt s2 8; have hle := getS_len s2 8
  generalize hg : getS s2 8 = g at *
  obtain ⟨s3, who⟩ := g
  dsimp only at hr hle
  dsimp only at hlt
  obtain ⟨a3, m3, c3, rfl, hrb, hrn⟩ := id hr
  have hs := HS.out.step hx hr
  have hb := HS.out.box.ext hx (fun s => s)
  have hd0 := hb.cell 0; have hd1 := hb.cell 1; have hf0 := hb.free 0; have hf1 := hb.free 1
  simp only [List.getElem?_toArray, List.getElem?_cons_zero, List.getElem?_cons_succ] at hd0 hd1
  obtain ⟨v3, hw⟩ : ∃ v9, putAll w3 xb 0 [.slice a3 m3 c3, .int .i64 s3.2] = v9 := ⟨_, rfl⟩
  rw [hw] at hs
  simp only [putAll, Nat.zero_add] at hw
  have HW := Lib.hid hw; have HG2 := Lib.hid hg
  have HLT2 := Lib.hid hlt
  have HLE2 := Lib.hid (show s3.1.length ≤ 1099511620000 from Nat.le_trans hle HLE.out)
  clear HS
  have HS := Lib.hid hs
  clear hs hw hg hle hx hr hrb hrn hb hc0 hc1 hlt
  clear HLE; have HLE := HLE2; clear HLE2
  dsimp only
  go_wp2_with fail
  rw [HW.out]; clear HW hd0 hd1 hf0 hf1
  -- n
  have hc0 := HS.out.box.cell 0; have hc1 := HS.out.box.cell 1
  simp only [List.getElem?_toArray, List.getElem?_cons_zero, List.getElem?_cons_succ] at hc0 hc1
  try go_wp2_with fail
  refine (getR_any s3 _ 8 (by decide) (by decide) w v3 HS.out.ext HS.out.rd).mono ?_
  rintro e w4 ⟨hx, r, rfl, hr⟩
  have hlt := getS_lt s3 8; have hle := getS_len s3 8
  generalize hg : getS s3 8 = g at *
  obtain ⟨s4, n⟩ := g
  dsimp only at hr hle
  dsimp only at hlt
  obtain ⟨a4, m4, c4, rfl, hrb, hrn⟩ := id hr
  have hs := HS.out.step hx hr
  have hb := HS.out.box.ext hx (fun s => s)
  have hd0 := hb.cell 0; have hd1 := hb.cell 1; have hf0 := hb.free 0; have hf1 := hb.free 1
  simp only [List.getElem?_toArray, List.getElem?_cons_zero, List.getElem?_cons_succ] at hd0 hd1
  obtain ⟨v4, hw⟩ : ∃ v9, putAll w4 xb 0 [.slice a4 m4 c4, .int .i64 s4.2] = v9 := ⟨_, rfl⟩
  rw [hw] at hs
  simp only [putAll, Nat.zero_add] at hw
  have HW := Lib.hid hw; have HG3 := Lib.hid hg
  have HLT3 := Lib.hid hlt
  have HLE2 := Lib.hid (show s4.1.length ≤ 1099511620000 from Nat.le_trans hle HLE.out)
  clear HS
  have HS := Lib.hid hs
  clear hs hw hg hle hx hr hrb hrn hb hc0 hc1 hlt
  clear HLE; have HLE := HLE2; clear HLE2
  dsimp only
  go_wp2_with fail
  rw [HW.out]; clear HW hd0 hd1 hf0 hf1
  -- name
  have hc0 := HS.out.box.cell 0; have hc1 := HS.out.box.cell 1
  simp only [List.getElem?_toArray, List.getElem?_cons_zero, List.getElem?_cons_succ] at hc0 hc1
  try go_wp2_with fail
  refine (someR_any s4 _ 120 (by decide) w v4 HS.out.ext HS.out.rd).mono ?_
  rintro e w5 ⟨hx, r, x, rfl, hr, hy⟩
  have hle := someS_le s4 120
  generalize hg : someS s4 120 = g at *
  obtain ⟨s5, name⟩ := g
  dsimp only at hr hle
  dsimp only at hy
  obtain ⟨y4, ny4, cy4, rfl, hyb, hyn⟩ := hy
  have HY4 := Lib.hid hyb; clear hyb hyn
  obtain ⟨a5, m5, c5, rfl, hrb, hrn⟩ := id hr
  have hs := HS.out.step hx hr
  have hb := HS.out.box.ext hx (fun s => s)
  have hd0 := hb.cell 0; have hd1 := hb.cell 1; have hf0 := hb.free 0; have hf1 := hb.free 1
  simp only [List.getElem?_toArray, List.getElem?_cons_zero, List.getElem?_cons_succ] at hd0 hd1
  obtain ⟨v5, hw⟩ : ∃ v9, putAll w5 xb 0 [.slice a5 m5 c5, .int .i64 s5.2] = v9 := ⟨_, rfl⟩
  rw [hw] at hs
  simp only [putAll, Nat.zero_add] at hw
  have HW := Lib.hid hw; have HG4 := Lib.hid hg
  have HLE2 := Lib.hid (show s5.1.length ≤ 1099511620000 from Nat.le_trans hle HLE.out)
  clear HS
  have HS := Lib.hid hs
  clear hs hw hg hle hx hr hrb hrn hb hc0 hc1
  clear HLE; have HLE := HLE2; clear HLE2
  dsimp only
  go_wp2_with fail
  rw [HW.out]; clear HW hd0 hd1 hf0 hf1
  -- host
  have hc0 := HS.out.box.cell 0; have hc1 := HS.out.box.cell 1
  simp only [List.getElem?_toArray, List.getElem?_cons_zero, List.getElem?_cons_succ] at hc0 hc1
  try go_wp2_with fail
  refine (someR_any s5 _ 120 (by decide) w v5 HS.out.ext HS.out.rd).mono ?_
  rintro e w6 ⟨hx, r, x, rfl, hr, hy⟩
  have hle := someS_le s5 120
  generalize hg : someS s5 120 = g at *
  obtain ⟨s6, host⟩ := g
  dsimp only at hr hle
  dsimp only at hy
  obtain ⟨y5, ny5, cy5, rfl, hyb, hyn⟩ := hy
  have HY5 := Lib.hid hyb; clear hyb hyn
  obtain ⟨a6, m6, c6, rfl, hrb, hrn⟩ := id hr
  have hs := HS.out.step hx hr
  have hb := HS.out.box.ext hx (fun s => s)
  have hd0 := hb.cell 0; have hd1 := hb.cell 1; have hf0 := hb.free 0; have hf1 := hb.free 1
  simp only [List.getElem?_toArray, List.getElem?_cons_zero, List.getElem?_cons_succ] at hd0 hd1
  obtain ⟨v6, hw⟩ : ∃ v9, putAll w6 xb 0 [.slice a6 m6 c6, .int .i64 s6.2] = v9 := ⟨_, rfl⟩
  rw [hw] at hs
  simp only [putAll, Nat.zero_add] at hw
  have HW := Lib.hid hw; have HG5 := Lib.hid hg
  have HLE2 := Lib.hid (show s6.1.length ≤ 1099511620000 from Nat.le_trans hle HLE.out)
  clear HS
  have HS := Lib.hid hs
  clear hs hw hg hle hx hr hrb hrn hb hc0 hc1
  clear HLE; have HLE := HLE2; clear HLE2
  dsimp only
  go_wp2_with fail
  rw [HW.out]; clear HW hd0 hd1 hf0 hf1
  -- last
  have hc0 := HS.out.box.cell 0; have hc1 := HS.out.box.cell 1
  simp only [List.getElem?_toArray, List.getElem?_cons_zero, List.getElem?_cons_succ] at hc0 hc1
  try go_wp2_with fail
  refine (getR_any s6 _ 4 (by decide) (by decide) w v6 HS.out.ext HS.out.rd).mono ?_
  rintro e w7 ⟨hx, r, rfl, hr⟩
  have hlt := getS_lt s6 4; have hle := getS_len s6 4
  generalize hg : getS s6 4 = g at *
  obtain ⟨s7, last⟩ := g
  dsimp only at hr hle
  dsimp only at hlt
  obtain ⟨a7, m7, c7, rfl, hrb, hrn⟩ := id hr
  have hs := HS.out.step hx hr
  have hb := HS.out.box.ext hx (fun s => s)
  have hd0 := hb.cell 0; have hd1 := hb.cell 1; have hf0 := hb.free 0; have hf1 := hb.free 1
  simp only [List.getElem?_toArray, List.getElem?_cons_zero, List.getElem?_cons_succ] at hd0 hd1
  obtain ⟨v7, hw⟩ : ∃ v9, putAll w7 xb 0 [.slice a7 m7 c7, .int .i64 s7.2] = v9 := ⟨_, rfl⟩
  rw [hw] at hs
  simp only [putAll, Nat.zero_add] at hw
  have HW := Lib.hid hw; have HG6 := Lib.hid hg
  have HLT6 := Lib.hid hlt
  have HLE2 := Lib.hid (show s7.1.length ≤ 1099511620000 from Nat.le_trans hle HLE.out)
  clear HS
  have HS := Lib.hid hs
  clear hs hw hg hle hx hr hrb hrn hb hc0 hc1 hlt
  clear HLE; have HLE := HLE2; clear HLE2
  dsimp only
  go_wp2_with fail
  rw [HW.out]; clear HW hd0 hd1 hf0 hf1
  -- days
  have hc0 := HS.out.box.cell 0; have hc1 := HS.out.box.cell 1
  simp only [List.getElem?_toArray, List.getElem?_cons_zero, List.getElem?_cons_succ] at hc0 hc1
  try go_wp2_with fail
  refine (getR_any s7 _ 4 (by decide) (by decide) w v7 HS.out.ext HS.out.rd).mono ?_
  rintro e w8 ⟨hx, r, rfl, hr⟩
  have hlt := getS_lt s7 4; have hle := getS_len s7 4
  generalize hg : getS s7 4 = g at *
  obtain ⟨s8, days⟩ := g
  dsimp only at hr hle
  dsimp only at hlt
  obtain ⟨a8, m8, c8, rfl, hrb, hrn⟩ := id hr
  have hs := HS.out.step hx hr
  have hb := HS.out.box.ext hx (fun s => s)
  have hd0 := hb.cell 0; have hd1 := hb.cell 1; have hf0 := hb.free 0; have hf1 := hb.free 1
  simp only [List.getElem?_toArray, List.getElem?_cons_zero, List.getElem?_cons_succ] at hd0 hd1
  obtain ⟨v8, hw⟩ : ∃ v9, putAll w8 xb 0 [.slice a8 m8 c8, .int .i64 s8.2] = v9 := ⟨_, rfl⟩
  rw [hw] at hs
  simp only [putAll, Nat.zero_add] at hw
  have HW := Lib.hid hw; have HG7 := Lib.hid hg
  have HLT7 := Lib.hid hlt
  have HLE2 := Lib.hid (show s8.1.length ≤ 1099511620000 from Nat.le_trans hle HLE.out)
  clear HS
  have HS := Lib.hid hs
  clear hs hw hg hle hx hr hrb hrn hb hc0 hc1 hlt
  clear HLE; have HLE := HLE2; clear HLE2
  dsimp only
  go_wp2_with fail
  rw [HW.out]; clear HW hd0 hd1 hf0 hf1
  -- day
  have hc0 := HS.out.box.cell 0; have hc1 := HS.out.box.cell 1
  simp only [List.getElem?_toArray, List.getElem?_cons_zero, List.getElem?_cons_succ] at hc0 hc1
  try go_wp2_with fail
  refine (getR_any s8 _ 8 (by decide) (by decide) w v8 HS.out.ext HS.out.rd).mono ?_
  rintro e w9 ⟨hx, r, rfl, hr⟩
  have hlt := getS_lt s8 8; have hle := getS_len s8 8
  generalize hg : getS s8 8 = g at *
  obtain ⟨s9, day⟩ := g
  dsimp only at hr hle
  dsimp only at hlt
  obtain ⟨a9, m9, c9, rfl, hrb, hrn⟩ := id hr
  have hs := HS.out.step hx hr
  have hb := HS.out.box.ext hx (fun s => s)
  have hd0 := hb.cell 0; have hd1 := hb.cell 1; have hf0 := hb.free 0; have hf1 := hb.free 1
  simp only [List.getElem?_toArray, List.getElem?_cons_zero, List.getElem?_cons_succ] at hd0 hd1
  obtain ⟨v9, hw⟩ : ∃ v9, putAll w9 xb 0 [.slice a9 m9 c9, .int .i64 s9.2] = v9 := ⟨_, rfl⟩
  rw [hw] at hs
  simp only [putAll, Nat.zero_add] at hw
  have HW := Lib.hid hw; have HG8 := Lib.hid hg
  have HLT8 := Lib.hid hlt
  have HLE2 := Lib.hid (show s9.1.length ≤ 1099511620000 from Nat.le_trans hle HLE.out)
  clear HS
  have HS := Lib.hid hs
  clear hs hw hg hle hx hr hrb hrn hb hc0 hc1 hlt
  clear HLE; have HLE := HLE2; clear HLE2
  dsimp only
  go_wp2_with fail
  rw [HW.out]; clear HW hd0 hd1 hf0 hf1
  -- near
  have hc0 := HS.out.box.cell 0; have hc1 := HS.out.box.cell 1
  simp only [List.getElem?_toArray, List.getElem?_cons_zero, List.getElem?_cons_succ] at hc0 hc1
  try go_wp2_with fail
  refine (getR_any s9 _ 8 (by decide) (by decide) w v9 HS.out.ext HS.out.rd).mono ?_
  rintro e w10 ⟨hx, r, rfl, hr⟩
  have hlt := getS_lt s9 8; have hle := getS_len s9 8
  generalize hg : getS s9 8 = g at *
  obtain ⟨s10, near⟩ := g
  dsimp only at hr hle
  dsimp only at hlt
  obtain ⟨a10, m10, c10, rfl, hrb, hrn⟩ := id hr
  have hs := HS.out.step hx hr
  have hb := HS.out.box.ext hx (fun s => s)
  have hd0 := hb.cell 0; have hd1 := hb.cell 1; have hf0 := hb.free 0; have hf1 := hb.free 1
  simp only [List.getElem?_toArray, List.getElem?_cons_zero, List.getElem?_cons_succ] at hd0 hd1
  obtain ⟨v10, hw⟩ : ∃ v9, putAll w10 xb 0 [.slice a10 m10 c10, .int .i64 s10.2] = v9 := ⟨_, rfl⟩
  rw [hw] at hs
  simp only [putAll, Nat.zero_add] at hw
  have HW := Lib.hid hw; have HG9 := Lib.hid hg
  have HLT9 := Lib.hid hlt
  have HLE2 := Lib.hid (show s10.1.length ≤ 1099511620000 from Nat.le_trans hle HLE.out)
  clear HS
  have HS := Lib.hid hs
  clear hs hw hg hle hx hr hrb hrn hb hc0 hc1 hlt
  clear HLE; have HLE := HLE2; clear HLE2
  dsimp only
  go_wp2_with fail
  rw [HW.out]; clear HW hd0 hd1 hf0 hf1
  -- tag
  have hc0 := HS.out.box.cell 0; have hc1 := HS.out.box.cell 1
  simp only [List.getElem?_toArray, List.getElem?_cons_zero, List.getElem?_cons_succ] at hc0 hc1
  try go_wp2_with fail
  refine (someR_any s10 _ 120 (by decide) w v10 HS.out.ext HS.out.rd).mono ?_
  rintro e w11 ⟨hx, r, x, rfl, hr, hy⟩
  have hle := someS_le s10 120
  generalize hg : someS s10 120 = g at *
  obtain ⟨s11, tag⟩ := g
  dsimp only at hr hle
  dsimp only at hy
  obtain ⟨y10, ny10, cy10, rfl, hyb, hyn⟩ := hy
  have HY10 := Lib.hid hyb; clear hyb hyn
  obtain ⟨a11, m11, c11, rfl, hrb, hrn⟩ := id hr
  have hs := HS.out.step hx hr
  have hb := HS.out.box.ext hx (fun s => s)
  have hd0 := hb.cell 0; have hd1 := hb.cell 1; have hf0 := hb.free 0; have hf1 := hb.free 1
  simp only [List.getElem?_toArray, List.getElem?_cons_zero, List.getElem?_cons_succ] at hd0 hd1
  obtain ⟨v11, hw⟩ : ∃ v9, putAll w11 xb 0 [.slice a11 m11 c11, .int .i64 s11.2] = v9 := ⟨_, rfl⟩
  rw [hw] at hs
  simp only [putAll, Nat.zero_add] at hw
  have HW := Lib.hid hw; have HG10 := Lib.hid hg
  have HLE2 := Lib.hid (show s11.1.length ≤ 1099511620000 from Nat.le_trans hle HLE.out)
  clear HS
  have HS := Lib.hid hs
  clear hs hw hg hle hx hr hrb hrn hb hc0 hc1
  clear HLE; have HLE := HLE2; clear HLE2
  dsimp only
  go_wp2_with fail
  rw [HW.out]; clear HW hd0 hd1 hf0 hf1
  -- many
  have hc0 := HS.out.box.cell 0; have hc1 := HS.out.box.cell 1
  simp only [List.getElem?_toArray, List.getElem?_cons_zero, List.getElem?_cons_succ] at hc0 hc1
  try go_wp2_with fail
  refine (getR_any s11 _ 4 (by decide) (by decide) w v11 HS.out.ext HS.out.rd).mono ?_
  rintro e w12 ⟨hx, r, rfl, hr⟩
  have hlt := getS_lt s11 4; have hle := getS_len s11 4
  generalize hg : getS s11 4 = g at *
  obtain ⟨s12, many⟩ := g
  dsimp only at hr hle
  dsimp only at hlt
  obtain ⟨a12, m12, c12, rfl, hrb, hrn⟩ := id hr
  have hs := HS.out.step hx hr
  have hb := HS.out.box.ext hx (fun s => s)
  have hd0 := hb.cell 0; have hd1 := hb.cell 1; have hf0 := hb.free 0; have hf1 := hb.free 1
  simp only [List.getElem?_toArray, List.getElem?_cons_zero, List.getElem?_cons_succ] at hd0 hd1
  obtain ⟨v12, hw⟩ : ∃ v9, putAll w12 xb 0 [.slice a12 m12 c12, .int .i64 s12.2] = v9 := ⟨_, rfl⟩
  rw [hw] at hs
  simp only [putAll, Nat.zero_add] at hw
  have HW := Lib.hid hw; have HG11 := Lib.hid hg
  have HLT11 := Lib.hid hlt
  have hmany : many ≤ 4294967295 := by omega
  have HLE2 := Lib.hid (show s12.1.length ≤ 1099511620000 from Nat.le_trans hle HLE.out)
  clear HS
  have HS := Lib.hid hs
  clear hs hw hg hle hx hr hrb hrn hb hc0 hc1 hlt
  clear HLE; have HLE := HLE2; clear HLE2
  dsimp only
  go_wp2_with fail
  rw [HW.out]; clear HW hd0 hd1 hf0 hf1
  -- bits
  have hc0 := HS.out.box.cell 0; have hc1 := HS.out.box.cell 1
  simp only [List.getElem?_toArray, List.getElem?_cons_zero, List.getElem?_cons_succ] at hc0 hc1
  try go_wp2_with fail
  refine (rawR_any s12 _ many (by have := HLT11.out; omega) w v12 HS.out.rd).mono ?_
  rintro e w13 ⟨hx, r, x, rfl, hr, hy⟩
  have hle := rawS_le s12 many; have hlt := rawS_len s12 many
  generalize hg : rawS s12 many = g at *
  obtain ⟨s13, bits⟩ := g
  dsimp only at hr hle
  dsimp only at hy
  dsimp only at hlt
  obtain ⟨y12, ny12, cy12, rfl, hyb, hyn⟩ := hy
  have HY12 := Lib.hid hyb; clear hyb hyn
  obtain ⟨a13, m13, c13, rfl, hrb, hrn⟩ := id hr
  have hs := HS.out.step hx hr
  have hb := HS.out.box.ext hx (fun s => s)
  have hd0 := hb.cell 0; have hd1 := hb.cell 1; have hf0 := hb.free 0; have hf1 := hb.free 1
  simp only [List.getElem?_toArray, List.getElem?_cons_zero, List.getElem?_cons_succ] at hd0 hd1
  obtain ⟨v13, hw⟩ : ∃ v9, putAll w13 xb 0 [.slice a13 m13 c13, .int .i64 s13.2] = v9 := ⟨_, rfl⟩
  rw [hw] at hs
  simp only [putAll, Nat.zero_add] at hw
  have HW := Lib.hid hw; have HG12 := Lib.hid hg
  have HLT12 := Lib.hid hlt
  have HLE2 := Lib.hid (show s13.1.length ≤ 1099511620000 from Nat.le_trans hle HLE.out)
  clear HS
  have HS := Lib.hid hs
  clear hs hw hg hle hx hr hrb hrn hb hc0 hc1 hlt
  clear HLE; have HLE := HLE2; clear HLE2
  dsimp only
  go_wp2_with fail
  rw [HW.out]; clear HW hd0 hd1 hf0 hf1
  -- files
  have hc0 := HS.out.box.cell 0; have hc1 := HS.out.box.cell 1
  simp only [List.getElem?_toArray, List.getElem?_cons_zero, List.getElem?_cons_succ] at hc0 hc1
  try go_wp2_with fail
  refine (someF_any s13 _ 65536 (by decide) w v13 HS.out.ext HS.out.rd (by have := HLE.out; omega)).mono ?_
  rintro e w14 ⟨hx, r, x, rfl, hr, hy⟩
  have hle : True := trivial
  generalize hg : someF s13 65536 = g at *
  obtain ⟨s14, files⟩ := g
  dsimp only at hr hle
  dsimp only at hy
  obtain ⟨y13, ny13, cy13, hyf⟩ : ∃ a n c, x = .slice a n c := by obtain ⟨a, c, h⟩ := OwnSeq.len hy; exact ⟨a, _, c, h⟩
  subst hyf
  have HY13 := Lib.hid hy; clear hy
  obtain ⟨a14, m14, c14, rfl, hrb, hrn⟩ := id hr
  have hs := HS.out.step hx hr
  have hb := HS.out.box.ext hx (fun s => s)
  have hd0 := hb.cell 0; have hd1 := hb.cell 1; have hf0 := hb.free 0; have hf1 := hb.free 1
  simp only [List.getElem?_toArray, List.getElem?_cons_zero, List.getElem?_cons_succ] at hd0 hd1
  obtain ⟨v14, hw⟩ : ∃ v9, putAll w14 xb 0 [.slice a14 m14 c14, .int .i64 s14.2] = v9 := ⟨_, rfl⟩
  rw [hw] at hs
  simp only [putAll, Nat.zero_add] at hw
  have HW := Lib.hid hw; have HG13 := Lib.hid hg
  clear HS
  have HOF := Lib.hid (show OwnSeq v14 v13.heap.size 76 2 (FileW w) files (.slice y13 ny13 cy13) by
    have h1 := putAll_ext xb [.slice a14 m14 c14, .int .i64 s14.2] w14 0
    simp only [putAll, Nat.zero_add] at h1
    rw [HW.out] at h1
    exact OwnSeq.ext HY13.out h1 (fun j hj s => by obtain ⟨cs, hb2⟩ := OwnSeq.blk HY13.out hj; exact Blk.ne_type hb2 hb (by decide) s) (fun _ _ h => h))
  have HS := Lib.hid hs
  clear hs hw hg hle hx hr hrb hrn hb hc0 hc1
  dsimp only
  go_wp2_with fail
  rw [HW.out]; clear HW hd0 hd1 hf0 hf1
  have hrdec : rdec l = (s14, ⟨wrap64 (kind : Int), wrap64 (n : Int), who, decide (mark = 1), name, host, files, wrap64 (last : Int), wrap64 (days : Int), wrap64 (day : Int), wrap64 (near : Int), tag, bits.map fun b => decide (b = 1)⟩) := by
    unfold rdec
    simp only [HG0.out, HG1.out, HG2.out, HG3.out, HG4.out, HG5.out, HG6.out, HG7.out, HG8.out, HG9.out, HG10.out, HG11.out, HG12.out, HG13.out]
  have HRD2 := Lib.hid hrdec; clear hrdec
  refine (endR_any s14 _ v14 (HS.out.rd.ext0 HS.out.ext)).mono ?_
  rintro e v15 ⟨hx15, rfl⟩
  have hre := HS.out.res.ext hx15 (fun s => s)
  have hcm := HS.out.cmd.ext hx15 (fun s => s)
  have hrc : rb ≠ cb := by have := HCB.out; omega
  have hrc' : ¬ rb = cb := hrc
  have hcr' : ¬ cb = rb := fun h => hrc h.symm
  have hof15 := OwnSeq.ext HOF.out hx15 (fun _ _ s => s) (fun _ _ h => h)
  have HOF15 := Lib.hid hof15
  have HRE := Lib.hid hre; have HCM := Lib.hid hcm; have HX15 := Lib.hid (HS.out.ext.trans' hx15)
  unfold zeroCells at hre hcm
  have hps : v15.cell? ⟨rb, 0, none⟩ = _ ∧ v15.cell? ⟨rb, 1, none⟩ = _ ∧ v15.cell? ⟨rb, 2, none⟩ = _ ∧ v15.cell? ⟨rb, 3, none⟩ = _ ∧ v15.cell? ⟨rb, 4, none⟩ = _ ∧ v15.cell? ⟨rb, 5, none⟩ = _ ∧ v15.cell? ⟨rb, 6, none⟩ = _ ∧ v15.cell? ⟨rb, 7, none⟩ = _ ∧ v15.cell? ⟨rb, 8, none⟩ = _ ∧ v15.cell? ⟨rb, 9, none⟩ = _ ∧ v15.cell? ⟨rb, 10, none⟩ = _ ∧ v15.cell? ⟨rb, 11, none⟩ = _ ∧ v15.cell? ⟨rb, 12, none⟩ = _ :=
    ⟨hre.cell 0, hre.cell 1, hre.cell 2, hre.cell 3, hre.cell 4, hre.cell 5, hre.cell 6, hre.cell 7, hre.cell 8, hre.cell 9, hre.cell 10, hre.cell 11, hre.cell 12⟩
  simp only [List.getElem?_toArray, List.getElem?_cons_zero, List.getElem?_cons_succ] at hps
  obtain ⟨hp0, hp1, hp2, hp3, hp4, hp5, hp6, hp7, hp8, hp9, hp10, hp11, hp12⟩ := hps
  have hqs : v15.frozen? ⟨rb, 0, none⟩ = false ∧ v15.frozen? ⟨rb, 1, none⟩ = false ∧ v15.frozen? ⟨rb, 2, none⟩ = false ∧ v15.frozen? ⟨rb, 3, none⟩ = false ∧ v15.frozen? ⟨rb, 4, none⟩ = false ∧ v15.frozen? ⟨rb, 5, none⟩ = false ∧ v15.frozen? ⟨rb, 6, none⟩ = false ∧ v15.frozen? ⟨rb, 7, none⟩ = false ∧ v15.frozen? ⟨rb, 8, none⟩ = false ∧ v15.frozen? ⟨rb, 9, none⟩ = false ∧ v15.frozen? ⟨rb, 10, none⟩ = false ∧ v15.frozen? ⟨rb, 11, none⟩ = false ∧ v15.frozen? ⟨rb, 12, none⟩ = false :=
    ⟨hre.free 0, hre.free 1, hre.free 2, hre.free 3, hre.free 4, hre.free 5, hre.free 6, hre.free 7, hre.free 8, hre.free 9, hre.free 10, hre.free 11, hre.free 12⟩
  obtain ⟨hq0, hq1, hq2, hq3, hq4, hq5, hq6, hq7, hq8, hq9, hq10, hq11, hq12⟩ := hqs
  have hys : v15.cell? ⟨cb, 0, none⟩ = _ ∧ v15.cell? ⟨cb, 1, none⟩ = _ ∧ v15.cell? ⟨cb, 2, none⟩ = _ ∧ v15.cell? ⟨cb, 3, none⟩ = _ ∧ v15.cell? ⟨cb, 4, none⟩ = _ ∧ v15.cell? ⟨cb, 5, none⟩ = _ ∧ v15.cell? ⟨cb, 6, none⟩ = _ ∧ v15.cell? ⟨cb, 7, none⟩ = _ ∧ v15.cell? ⟨cb, 8, none⟩ = _ ∧ v15.cell? ⟨cb, 9, none⟩ = _ ∧ v15.cell? ⟨cb, 10, none⟩ = _ ∧ v15.cell? ⟨cb, 11, none⟩ = _ ∧ v15.cell? ⟨cb, 12, none⟩ = _ :=
    ⟨hcm.cell 0, hcm.cell 1, hcm.cell 2, hcm.cell 3, hcm.cell 4, hcm.cell 5, hcm.cell 6, hcm.cell 7, hcm.cell 8, hcm.cell 9, hcm.cell 10, hcm.cell 11, hcm.cell 12⟩
  simp only [List.getElem?_toArray, List.getElem?_cons_zero, List.getElem?_cons_succ] at hys
  obtain ⟨hy0, hy1, hy2, hy3, hy4, hy5, hy6, hy7, hy8, hy9, hy10, hy11, hy12⟩ := hys
  have hzs : v15.frozen? ⟨cb, 0, none⟩ = false ∧ v15.frozen? ⟨cb, 1, none⟩ = false ∧ v15.frozen? ⟨cb, 2, none⟩ = false ∧ v15.frozen? ⟨cb, 3, none⟩ = false ∧ v15.frozen? ⟨cb, 4, none⟩ = false ∧ v15.frozen? ⟨cb, 5, none⟩ = false ∧ v15.frozen? ⟨cb, 6, none⟩ = false ∧ v15.frozen? ⟨cb, 7, none⟩ = false ∧ v15.frozen? ⟨cb, 8, none⟩ = false ∧ v15.frozen? ⟨cb, 9, none⟩ = false ∧ v15.frozen? ⟨cb, 10, none⟩ = false ∧ v15.frozen? ⟨cb, 11, none⟩ = false ∧ v15.frozen? ⟨cb, 12, none⟩ = false :=
    ⟨hcm.free 0, hcm.free 1, hcm.free 2, hcm.free 3, hcm.free 4, hcm.free 5, hcm.free 6, hcm.free 7, hcm.free 8, hcm.free 9, hcm.free 10, hcm.free 11, hcm.free 12⟩
  obtain ⟨hz0, hz1, hz2, hz3, hz4, hz5, hz6, hz7, hz8, hz9, hz10, hz11, hz12⟩ := hzs
  clear hre hcm hx15 hof15
  -- the result in its cell
  have hfin : ∀ (cs : Array Value) (b : Bool) (vals : List Value) (wz : World), Blk wz rb cs 38 → cs.size = 13 → vals.length = 13 → Ext No w wz → Blk (putAll wz rb 0 vals) rb vals.toArray 38 ∧ Ext No w (putAll wz rb 0 vals) := fun cs b vals wz h1 h2 h3 h4 =>
    ⟨putAll_all h1 vals (by rw [h2, h3]), h4.trans (putAll_ext rb vals wz 0) (fun _ _ s => s) (fun j hj s => by have := HRB.out; omega)⟩
  have HFIN := Lib.hid hfin; clear hfin
  by_cases he : endS s14 = 0
  case neg =>
    have hen : (endS s14 != 0) = true := by simpa using he
    have hno : rdecC l = none := by unfold rdecC; rw [HRD2.out]; rw [if_pos he]
    have HNO := Lib.hid hno; clear hno
    dsimp only
    go_wp2_with fail
    obtain ⟨w2, hw2⟩ : ∃ w2, putAll v15 rb 0 [.int .i64 0, .int .i64 0, .int .u64 0, .bool false, .string ⟨#[]⟩, .string ⟨#[]⟩, .slice none 0 0, .int .i64 0, .int .i64 0, .int .i64 0, .int .i64 0, .string ⟨#[]⟩, .slice none 0 0] = w2 := ⟨_, rfl⟩
    obtain ⟨hb2, hx2⟩ := HFIN.out _ true [.int .i64 0, .int .i64 0, .int .u64 0, .bool false, .string ⟨#[]⟩, .string ⟨#[]⟩, .slice none 0 0, .int .i64 0, .int .i64 0, .int .i64 0, .int .i64 0, .string ⟨#[]⟩, .slice none 0 0] v15 HRE.out rfl rfl HX15.out
    rw [hw2] at hb2 hx2
    simp only [putAll, Nat.zero_add] at hw2
    rw [hw2]
    clear hw2 hp0 hp1 hp2 hp3 hp4 hp5 hp6 hp7 hp8 hp9 hp10 hp11 hp12 hq0 hq1 hq2 hq3 hq4 hq5 hq6 hq7 hq8 hq9 hq10 hq11 hq12 hy0 hy1 hy2 hy3 hy4 hy5 hy6 hy7 hy8 hy9 hy10 hy11 hy12 hz0 hz1 hz2 hz3 hz4 hz5 hz6 hz7 hz8 hz9 hz10 hz11 hz12
    have hrs : w2.cell? ⟨rb, 0, none⟩ = _ ∧ w2.cell? ⟨rb, 1, none⟩ = _ ∧ w2.cell? ⟨rb, 2, none⟩ = _ ∧ w2.cell? ⟨rb, 3, none⟩ = _ ∧ w2.cell? ⟨rb, 4, none⟩ = _ ∧ w2.cell? ⟨rb, 5, none⟩ = _ ∧ w2.cell? ⟨rb, 6, none⟩ = _ ∧ w2.cell? ⟨rb, 7, none⟩ = _ ∧ w2.cell? ⟨rb, 8, none⟩ = _ ∧ w2.cell? ⟨rb, 9, none⟩ = _ ∧ w2.cell? ⟨rb, 10, none⟩ = _ ∧ w2.cell? ⟨rb, 11, none⟩ = _ ∧ w2.cell? ⟨rb, 12, none⟩ = _ :=
      ⟨hb2.cell 0, hb2.cell 1, hb2.cell 2, hb2.cell 3, hb2.cell 4, hb2.cell 5, hb2.cell 6, hb2.cell 7, hb2.cell 8, hb2.cell 9, hb2.cell 10, hb2.cell 11, hb2.cell 12⟩
    simp only [List.getElem?_toArray, List.getElem?_cons_zero, List.getElem?_cons_succ] at hrs
    obtain ⟨hr0, hr1, hr2, hr3, hr4, hr5, hr6, hr7, hr8, hr9, hr10, hr11, hr12⟩ := hrs
    refine bodyPost_ret (v := .tuple #[.agg #[.int .i64 0, .int .i64 0, .int .u64 0, .bool false, .string ⟨#[]⟩, .string ⟨#[]⟩, .slice none 0 0, .int .i64 0, .int .i64 0, .int .i64 0, .int .i64 0, .string ⟨#[]⟩, .slice none 0 0], .bool false]) (by simp [results, Try.results19, go_sem, hr0, hr1, hr2, hr3, hr4, hr5, hr6, hr7, hr8, hr9, hr10, hr11, hr12]) rfl ?_
    exact ⟨hx2, .inr ⟨HNO.out, rfl⟩⟩
  have hen : (endS s14 != 0) = false := by simpa using he
  have HE0 := Lib.hid he
  have hcv4 := conv_bytes name _ _ _ v15 (HY4.out.ext0 HX15.out); have hcv5 := conv_bytes host _ _ _ v15 (HY5.out.ext0 HX15.out); have hcv10 := conv_bytes tag _ _ _ v15 (HY10.out.ext0 HX15.out)
  obtain ⟨mk, hmk⟩ : ∃ b, decide (mark = 1) = b := ⟨_, rfl⟩
  have hmq : ((mark : Int) == 1) = mk := by rw [← hmk, Bool.eq_iff_iff]; simp; omega
  have hmq' : (mark == 1) = mk := by rw [← hmk]; rfl
  dsimp only
  go_wp2_with fail
  obtain ⟨w16, hw16⟩ : ∃ w16, putAll v15 cb 0 [.int .i64 (wrap64 (kind : Int)), .int .i64 (wrap64 (n : Int)), .int .u64 (who : Nat), .bool mk, .string (strB name), .string (strB host), .slice y13 ny13 cy13, .int .i64 (wrap64 (last : Int)), .int .i64 (wrap64 (days : Int)), .int .i64 (wrap64 (day : Int)), .int .i64 (wrap64 (near : Int)), .string (strB tag), .slice none 0 0] = w16 := ⟨_, rfl⟩
  have hx16 := putAll_ext cb [.int .i64 (wrap64 (kind : Int)), .int .i64 (wrap64 (n : Int)), .int .u64 (who : Nat), .bool mk, .string (strB name), .string (strB host), .slice y13 ny13 cy13, .int .i64 (wrap64 (last : Int)), .int .i64 (wrap64 (days : Int)), .int .i64 (wrap64 (day : Int)), .int .i64 (wrap64 (near : Int)), .string (strB tag), .slice none 0 0] v15 0
  have hb16 := putAll_all HCM.out [.int .i64 (wrap64 (kind : Int)), .int .i64 (wrap64 (n : Int)), .int .u64 (who : Nat), .bool mk, .string (strB name), .string (strB host), .slice y13 ny13 cy13, .int .i64 (wrap64 (last : Int)), .int .i64 (wrap64 (days : Int)), .int .i64 (wrap64 (day : Int)), .int .i64 (wrap64 (near : Int)), .string (strB tag), .slice none 0 0] (Eq.trans (b := 13) rfl rfl)
  rw [hw16] at hx16 hb16
  simp only [putAll, Nat.zero_add] at hw16
  rw [hw16]
  clear hw16 hcv4 hcv5 hcv10 hmq hmq' hp0 hp1 hp2 hp3 hp4 hp5 hp6 hp7 hp8 hp9 hp10 hp11 hp12 hq0 hq1 hq2 hq3 hq4 hq5 hq6 hq7 hq8 hq9 hq10 hq11 hq12 hy0 hy1 hy2 hy3 hy4 hy5 hy6 hy7 hy8 hy9 hy10 hy11 hy12 hz0 hz1 hz2 hz3 hz4 hz5 hz6 hz7 hz8 hz9 hz10 hz11 hz12
  have hr16 := HRE.out.ext hx16 (fun s => hrc s)
  have hxw16 : Ext No w w16 := HX15.out.trans hx16 (fun _ _ s => s) (fun j hj s => by have := HRB.out; have := HCB.out; omega)
  have HOF16 := Lib.hid (OwnSeq.ext HOF15.out hx16 (fun j hj s => by obtain ⟨cs, hb2⟩ := OwnSeq.blk HOF15.out hj; exact Blk.ne_type hb2 HCM.out (by decide) s) (fun _ _ h => h))
  have HB16 := Lib.hid hb16; have HR16 := Lib.hid hr16; have HX16 := Lib.hid hxw16; have HMK := Lib.hid hmk
  clear hx16 hb16 hr16 hxw16 hmk
  have hny : ny12 = bits.length := HY12.out.len
  have hny2 : ny12 ≤ 4294967295 := by have := HLT12.out; omega
  have HNY := Lib.hid hny
  clear hny HG0 HG1 HG2 HG3 HG4 HG5 HG6 HG7 HG8 HG9 HG10 HG11 HG12 HG13 HLT0 HLT1 HLT3 HLT6 HLT7 HLT8 HLT9 HLT11 HLT12 HS HLE HRE HCM HX15 HX0 HSZ HW0 HB0 HB1 HY4 HY5 HY10 HXB HWC he hen hmany HOF HOF15 
  go_loopw [20] (fun i wr => ∃ (k : Nat) (vb : Value), i = .int .i64 k ∧ k ≤ ny12 ∧ Blk wr cb #[.int .i64 (wrap64 (kind : Int)), .int .i64 (wrap64 (n : Int)), .int .u64 (who : Nat), .bool mk, .string (strB name), .string (strB host), .slice y13 ny13 cy13, .int .i64 (wrap64 (last : Int)), .int .i64 (wrap64 (days : Int)), .int .i64 (wrap64 (day : Int)), .int .i64 (wrap64 (near : Int)), .string (strB tag), vb] 38 ∧ Blk wr rb zeroCells 38 ∧ Ext No w wr ∧ OwnSeq wr v13.heap.size 76 2 (FileW w) files (.slice y13 ny13 cy13) ∧ wr.ownsRow w.heap.size 4 1 vb k (((bits.take k).map fun b => decide (b = 1)).map .bool)) (fun i _ => ny12 - (intOf i).toNat)
  case atStart => exact ⟨0, .slice none 0 0, rfl, by omega, HB16.out, HR16.out, HX16.out, HOF16.out, by simpa using World.ownsRow_nil _ _ _ _⟩
  case round =>
    obtain ⟨k, vb, rfl, hk, hbc, hbr, hx, hof, hown⟩ := hrel
    obtain ⟨ab, cbb, rfl⟩ := own_form hown
    have hc12 := hbc.cell 12; have hf12 := hbc.free 12
    simp only [List.getElem?_toArray, List.getElem?_cons_zero, List.getElem?_cons_succ] at hc12
    have HBC := Lib.hid hbc; have HBR := Lib.hid hbr; have HX := Lib.hid hx; have HO := Lib.hid hown; have HOF := Lib.hid hof
    clear hbc hbr hx hown hof
    by_cases hlt : k < ny12
    · have hltI : (k : Int) < ny12 := by omega
      obtain ⟨b, off, rfl, hcy⟩ := (HY12.out.ext0 HX.out).get k hlt
      obtain ⟨t, ht⟩ : ∃ t, decide (bits.getD k 0 = 1) = t := ⟨_, rfl⟩
      have htt : ((((bits.getD k 0).toNat : Nat) : Int) == 1) = t := by
        rw [← ht, Bool.eq_iff_iff]
        simp only [beq_iff_eq, decide_eq_true_eq]
        constructor
        · intro h
          have h2 : (bits.getD k 0).toNat = 1 := by omega
          exact UInt8.toNat_inj.1 (by rw [h2]; rfl)
        · intro h; rw [h]; rfl
      have htt' : ((bits.getD k 0).toNat == 1) = t := by
        rw [← htt, Bool.eq_iff_iff]; simp only [beq_iff_eq]; omega
      have htk : ((bits.take (k + 1)).map fun b => decide (b = 1)).map Value.bool = ((bits.take k).map fun b => decide (b = 1)).map Value.bool ++ [.bool t] := by
        have hkb : k < bits.length := by rw [← HNY.out]; exact hlt
        rw [List.take_add_one, List.getElem?_eq_getElem hkb]
        have e : bits.getD k 0 = bits[k] := by simp [List.getD_eq_getElem?_getD, List.getElem?_eq_getElem hkb]
        rw [e] at ht
        rw [List.map_append, List.map_append, Option.toList_some, List.map_cons, List.map_nil, List.map_cons, List.map_nil, ht]
      generalize (bits.getD k 0).toNat = q at *
      have HTK := Lib.hid htk
      have HOD := Lib.hid (own_ext HO.out (((Ext.refl No wr).alloc (.cells #[.bool t] 4)).drew) (fun _ _ s => s) : ((wr.alloc (.cells #[.bool t] 4)).drew).ownsRow w.heap.size 4 1 (.slice ab k cbb) k _)
      have HKM := Lib.hid (show k + 1 ≤ 9223372036854775807 ∧ (k + 1) * 1 ≤ 140737488355328 by omega)
      have HZ1 := Lib.hid (show w.heap.size ≤ (wr.alloc (.cells #[.bool t] 4)).drew.heap.size from ((HX.out.alloc _).drew).size)
      have hbd := (HBC.out.alloc (.cells #[.bool t] 4)).drew
      have hbd0 := HBC.out.alloc (.cells #[.bool t] 4)
      have hca := hbd.cell 12; have hcd := hbd0.cell 12; have hfd := hbd.free 12
      simp only [List.getElem?_toArray, List.getElem?_cons_zero, List.getElem?_cons_succ] at hca hcd
      have HBD := Lib.hid hbd
      clear htk ht hbd hbd0
      go_wp2_with fail
      go_region_law (refine step_app1 _ _ rfl _ _ 26 rfl w.heap.size 4 _ _ bool_info Try.underlying26 rfl _ _ _ rfl HOD.out _ rfl (cell_new _ _ _ rfl) rfl HKM.out.1 HKM.out.2 HZ1.out ?_; intro v' w7 hown7 hg7; obtain ⟨a7, c7, rfl⟩ := own_form hown7; have hb7 := HBD.out.grown hg7 (own_ne_type HOD.out HBD.out (by decide)); have hc7 := hb7.cell 12; have hf7 := hb7.free 12; simp only [List.getElem?_toArray, List.getElem?_cons_zero, List.getElem?_cons_succ] at hc7; have HO7 := Lib.hid hown7; have HG7 := Lib.hid hg7; have HB7 := Lib.hid hb7; clear hown7 hg7 hb7)
      all_goals
        have hx7 : Ext (fun j => (Value.slice ab k cbb).ownBlock = some j) wr w7 := (((Ext.refl _ wr).alloc _).drew).grown HG7.out (fun j hj _ => hj)
        have hbr7 := HBR.out.ext hx7 (own_ne_type HO.out HBR.out (by decide))
        have hof7 := OwnSeq.ext HOF.out hx7 (fun j hj s => by
          obtain ⟨cs, hb2⟩ := OwnSeq.blk HOF.out hj
          exact own_ne_type HO.out hb2 (by decide) s) (fun _ _ h => h)
        have hx9 : Ext (fun j => j = cb) w7 (w7.setCell ⟨cb, 12, none⟩ (.slice a7 (k + 1) c7)) := (Ext.refl (fun j => j = cb) w7).setCell _ _ (fun _ => rfl)
        have hb9 := HB7.out.set 12 (.slice a7 (k + 1) c7)
        simp only [List.setIfInBounds_toArray, List.set_cons_succ, List.set_cons_zero] at hb9
        have HB9 := Lib.hid hb9
        have HR9 := Lib.hid (hbr7.ext hx9 (fun s => hrc s))
        have HX9 := Lib.hid ((HX.out.trans hx7 (fun _ _ s => s) (fun j hj s => by have := (World.ownsRow.lt HO.out j s).1; omega)).trans hx9 (fun _ _ s => s) (fun j hj s => by have := HRB.out; have := HCB.out; omega))
        have HOF9 := Lib.hid (OwnSeq.ext hof7 hx9 (fun j hj s => by obtain ⟨cs, hb2⟩ := OwnSeq.blk hof7 hj; exact Blk.ne_type hb2 HB7.out (by decide) s) (fun _ _ h => h))
        have HO9 := Lib.hid (own_ext HO7.out hx9 (fun j hj s => own_ne_type HO7.out HB7.out (by decide) (s ▸ hj)))
        clear hx7 hbr7 hof7 hx9 hb9 hc7 hf7
        go_wp2_with fail
        go_roundw
        case rel => exact ⟨k + 1, _, by go_num, by omega, HB9.out, HR9.out, HX9.out, HOF9.out, by rw [HTK.out]; exact HO9.out⟩
        case measure => simp [intOf]; omega
    · have hkn : k = ny12 := by omega
      subst hkn
      have hbof : ∀ wz : World, wz.ownsRow w.heap.size 4 1 (.slice ab k cbb) k (((bits.take k).map fun b => decide (b = 1)).map .bool) → IsBools wz (bits.map fun b => decide (b = 1)) (.slice ab k cbb) := by
        intro wz h
        rw [List.take_of_length_le (by rw [HNY.out]; exact Nat.le_refl _)] at h
        have h2 := IsRow.of_own h
        have e : k = (bits.map fun b => decide (b = 1)).length := by rw [List.length_map]; exact HNY.out
        unfold IsBools
        rw [← e]
        exact h2.congr (fun i hi => by unfold boolV; rw [e] at hi; simp only [List.length_map] at hi; simp [List.getD_eq_getElem?_getD, hi])
      have hbo := hbof wr HO.out
      have HBOF := Lib.hid hbof; clear hbof
      have hbc := HBC.out; have hbr := HBR.out
      unfold zeroCells at hbr
      have hps : wr.cell? ⟨cb, 0, none⟩ = _ ∧ wr.cell? ⟨cb, 1, none⟩ = _ ∧ wr.cell? ⟨cb, 2, none⟩ = _ ∧ wr.cell? ⟨cb, 3, none⟩ = _ ∧ wr.cell? ⟨cb, 4, none⟩ = _ ∧ wr.cell? ⟨cb, 5, none⟩ = _ ∧ wr.cell? ⟨cb, 6, none⟩ = _ ∧ wr.cell? ⟨cb, 7, none⟩ = _ ∧ wr.cell? ⟨cb, 8, none⟩ = _ ∧ wr.cell? ⟨cb, 9, none⟩ = _ ∧ wr.cell? ⟨cb, 10, none⟩ = _ ∧ wr.cell? ⟨cb, 11, none⟩ = _ ∧ wr.cell? ⟨cb, 12, none⟩ = _ :=
        ⟨hbc.cell 0, hbc.cell 1, hbc.cell 2, hbc.cell 3, hbc.cell 4, hbc.cell 5, hbc.cell 6, hbc.cell 7, hbc.cell 8, hbc.cell 9, hbc.cell 10, hbc.cell 11, hbc.cell 12⟩
      simp only [List.getElem?_toArray, List.getElem?_cons_zero, List.getElem?_cons_succ] at hps
      obtain ⟨hp0, hp1, hp2, hp3, hp4, hp5, hp6, hp7, hp8, hp9, hp10, hp11, hp12⟩ := hps
      have hqs : wr.cell? ⟨rb, 0, none⟩ = _ ∧ wr.cell? ⟨rb, 1, none⟩ = _ ∧ wr.cell? ⟨rb, 2, none⟩ = _ ∧ wr.cell? ⟨rb, 3, none⟩ = _ ∧ wr.cell? ⟨rb, 4, none⟩ = _ ∧ wr.cell? ⟨rb, 5, none⟩ = _ ∧ wr.cell? ⟨rb, 6, none⟩ = _ ∧ wr.cell? ⟨rb, 7, none⟩ = _ ∧ wr.cell? ⟨rb, 8, none⟩ = _ ∧ wr.cell? ⟨rb, 9, none⟩ = _ ∧ wr.cell? ⟨rb, 10, none⟩ = _ ∧ wr.cell? ⟨rb, 11, none⟩ = _ ∧ wr.cell? ⟨rb, 12, none⟩ = _ :=
        ⟨hbr.cell 0, hbr.cell 1, hbr.cell 2, hbr.cell 3, hbr.cell 4, hbr.cell 5, hbr.cell 6, hbr.cell 7, hbr.cell 8, hbr.cell 9, hbr.cell 10, hbr.cell 11, hbr.cell 12⟩
      simp only [List.getElem?_toArray, List.getElem?_cons_zero, List.getElem?_cons_succ] at hqs
      obtain ⟨hq0, hq1, hq2, hq3, hq4, hq5, hq6, hq7, hq8, hq9, hq10, hq11, hq12⟩ := hqs
      have hzs : wr.frozen? ⟨rb, 0, none⟩ = false ∧ wr.frozen? ⟨rb, 1, none⟩ = false ∧ wr.frozen? ⟨rb, 2, none⟩ = false ∧ wr.frozen? ⟨rb, 3, none⟩ = false ∧ wr.frozen? ⟨rb, 4, none⟩ = false ∧ wr.frozen? ⟨rb, 5, none⟩ = false ∧ wr.frozen? ⟨rb, 6, none⟩ = false ∧ wr.frozen? ⟨rb, 7, none⟩ = false ∧ wr.frozen? ⟨rb, 8, none⟩ = false ∧ wr.frozen? ⟨rb, 9, none⟩ = false ∧ wr.frozen? ⟨rb, 10, none⟩ = false ∧ wr.frozen? ⟨rb, 11, none⟩ = false ∧ wr.frozen? ⟨rb, 12, none⟩ = false :=
        ⟨hbr.free 0, hbr.free 1, hbr.free 2, hbr.free 3, hbr.free 4, hbr.free 5, hbr.free 6, hbr.free 7, hbr.free 8, hbr.free 9, hbr.free 10, hbr.free 11, hbr.free 12⟩
      obtain ⟨hz0, hz1, hz2, hz3, hz4, hz5, hz6, hz7, hz8, hz9, hz10, hz11, hz12⟩ := hzs
      clear hbc hbr hc12 hf12
      have HBO := Lib.hid hbo; clear hbo
      have HFI := Lib.hid (OwnSeq.filesW HOF.out HX.out)
      have hrl : rdecC l = if checkN ⟨wrap64 (kind : Int), wrap64 (n : Int), who, mk, name, host, files, wrap64 (last : Int), wrap64 (days : Int), wrap64 (day : Int), wrap64 (near : Int), tag, bits.map fun b => decide (b = 1)⟩ ≠ 0 then none else if cmdB ⟨wrap64 (kind : Int), wrap64 (n : Int), who, mk, name, host, files, wrap64 (last : Int), wrap64 (days : Int), wrap64 (day : Int), wrap64 (near : Int), tag, bits.map fun b => decide (b = 1)⟩ ≠ l then none else some ⟨wrap64 (kind : Int), wrap64 (n : Int), who, mk, name, host, files, wrap64 (last : Int), wrap64 (days : Int), wrap64 (day : Int), wrap64 (near : Int), tag, bits.map fun b => decide (b = 1)⟩ := by
        rw [← HMK.out]
        exact rdecC_of HRD2.out HE0.out
      generalize (bits.map fun b => decide (b = 1)) = bl at *
      generalize wrap64 (kind : Int) = kindI at *
      generalize wrap64 (n : Int) = nI at *
      generalize wrap64 (last : Int) = lastI at *
      generalize wrap64 (days : Int) = daysI at *
      generalize wrap64 (day : Int) = dayI at *
      generalize wrap64 (near : Int) = nearI at *
      have HRL := Lib.hid hrl; clear hrl
      go_wp2_with fail
      refine (checkR_flat kindI nI who mk name host files lastI daysI dayI nearI tag bl _ _ wr HFI.out HBO.out).mono ?_
      rintro e w17 ⟨rfl, hx17⟩
      generalize hck : checkN ⟨kindI, nI, who, mk, name, host, files, lastI, daysI, dayI, nearI, tag, bl⟩ = ck at *
      have HCK := Lib.hid hck; have HX17 := Lib.hid (HX.out.trans' hx17); have HBC17 := Lib.hid (HBC.out.ext hx17 (fun s => s)); have HBR17 := Lib.hid (HBR.out.ext hx17 (fun s => s)); have HOW17 := Lib.hid (own_ext HO.out hx17 (fun _ _ s => s)); have HOF17 := Lib.hid (OwnSeq.ext HOF.out hx17 (fun _ _ s => s) (fun _ _ h => h)); have HBO17 := Lib.hid (HBO.out.ext0 hx17); have HFI17 := Lib.hid (HFI.out.ext0 hx17)
      have hbc := HBC17.out; have hbr := HBR17.out
      unfold zeroCells at hbr
      clear hp0 hp1 hp2 hp3 hp4 hp5 hp6 hp7 hp8 hp9 hp10 hp11 hp12 hq0 hq1 hq2 hq3 hq4 hq5 hq6 hq7 hq8 hq9 hq10 hq11 hq12 hz0 hz1 hz2 hz3 hz4 hz5 hz6 hz7 hz8 hz9 hz10 hz11 hz12 hx17 hck
      have hps : w17.cell? ⟨cb, 0, none⟩ = _ ∧ w17.cell? ⟨cb, 1, none⟩ = _ ∧ w17.cell? ⟨cb, 2, none⟩ = _ ∧ w17.cell? ⟨cb, 3, none⟩ = _ ∧ w17.cell? ⟨cb, 4, none⟩ = _ ∧ w17.cell? ⟨cb, 5, none⟩ = _ ∧ w17.cell? ⟨cb, 6, none⟩ = _ ∧ w17.cell? ⟨cb, 7, none⟩ = _ ∧ w17.cell? ⟨cb, 8, none⟩ = _ ∧ w17.cell? ⟨cb, 9, none⟩ = _ ∧ w17.cell? ⟨cb, 10, none⟩ = _ ∧ w17.cell? ⟨cb, 11, none⟩ = _ ∧ w17.cell? ⟨cb, 12, none⟩ = _ :=
        ⟨hbc.cell 0, hbc.cell 1, hbc.cell 2, hbc.cell 3, hbc.cell 4, hbc.cell 5, hbc.cell 6, hbc.cell 7, hbc.cell 8, hbc.cell 9, hbc.cell 10, hbc.cell 11, hbc.cell 12⟩
      simp only [List.getElem?_toArray, List.getElem?_cons_zero, List.getElem?_cons_succ] at hps
      obtain ⟨hp0, hp1, hp2, hp3, hp4, hp5, hp6, hp7, hp8, hp9, hp10, hp11, hp12⟩ := hps
      have hqs : w17.cell? ⟨rb, 0, none⟩ = _ ∧ w17.cell? ⟨rb, 1, none⟩ = _ ∧ w17.cell? ⟨rb, 2, none⟩ = _ ∧ w17.cell? ⟨rb, 3, none⟩ = _ ∧ w17.cell? ⟨rb, 4, none⟩ = _ ∧ w17.cell? ⟨rb, 5, none⟩ = _ ∧ w17.cell? ⟨rb, 6, none⟩ = _ ∧ w17.cell? ⟨rb, 7, none⟩ = _ ∧ w17.cell? ⟨rb, 8, none⟩ = _ ∧ w17.cell? ⟨rb, 9, none⟩ = _ ∧ w17.cell? ⟨rb, 10, none⟩ = _ ∧ w17.cell? ⟨rb, 11, none⟩ = _ ∧ w17.cell? ⟨rb, 12, none⟩ = _ :=
        ⟨hbr.cell 0, hbr.cell 1, hbr.cell 2, hbr.cell 3, hbr.cell 4, hbr.cell 5, hbr.cell 6, hbr.cell 7, hbr.cell 8, hbr.cell 9, hbr.cell 10, hbr.cell 11, hbr.cell 12⟩
      simp only [List.getElem?_toArray, List.getElem?_cons_zero, List.getElem?_cons_succ] at hqs
      obtain ⟨hq0, hq1, hq2, hq3, hq4, hq5, hq6, hq7, hq8, hq9, hq10, hq11, hq12⟩ := hqs
      have hzs : w17.frozen? ⟨rb, 0, none⟩ = false ∧ w17.frozen? ⟨rb, 1, none⟩ = false ∧ w17.frozen? ⟨rb, 2, none⟩ = false ∧ w17.frozen? ⟨rb, 3, none⟩ = false ∧ w17.frozen? ⟨rb, 4, none⟩ = false ∧ w17.frozen? ⟨rb, 5, none⟩ = false ∧ w17.frozen? ⟨rb, 6, none⟩ = false ∧ w17.frozen? ⟨rb, 7, none⟩ = false ∧ w17.frozen? ⟨rb, 8, none⟩ = false ∧ w17.frozen? ⟨rb, 9, none⟩ = false ∧ w17.frozen? ⟨rb, 10, none⟩ = false ∧ w17.frozen? ⟨rb, 11, none⟩ = false ∧ w17.frozen? ⟨rb, 12, none⟩ = false :=
        ⟨hbr.free 0, hbr.free 1, hbr.free 2, hbr.free 3, hbr.free 4, hbr.free 5, hbr.free 6, hbr.free 7, hbr.free 8, hbr.free 9, hbr.free 10, hbr.free 11, hbr.free 12⟩
      obtain ⟨hz0, hz1, hz2, hz3, hz4, hz5, hz6, hz7, hz8, hz9, hz10, hz11, hz12⟩ := hzs
      clear hbc hbr
      by_cases hc0 : ck = 0
      case neg =>
        have hcn : (ck != 0) = true := by simpa using hc0
        have HNO := Lib.hid (HRL.out.trans (if_pos hc0)); clear HRL
        dsimp only
        go_wp2_with fail
        obtain ⟨w2, hw2⟩ : ∃ w2, putAll w17 rb 0 [.int .i64 0, .int .i64 0, .int .u64 0, .bool false, .string ⟨#[]⟩, .string ⟨#[]⟩, .slice none 0 0, .int .i64 0, .int .i64 0, .int .i64 0, .int .i64 0, .string ⟨#[]⟩, .slice none 0 0] = w2 := ⟨_, rfl⟩
        obtain ⟨hb2, hx2⟩ := HFIN.out _ true [.int .i64 0, .int .i64 0, .int .u64 0, .bool false, .string ⟨#[]⟩, .string ⟨#[]⟩, .slice none 0 0, .int .i64 0, .int .i64 0, .int .i64 0, .int .i64 0, .string ⟨#[]⟩, .slice none 0 0] w17 HBR17.out rfl rfl HX17.out
        rw [hw2] at hb2 hx2
        simp only [putAll, Nat.zero_add] at hw2
        rw [hw2]
        clear hw2 hp0 hp1 hp2 hp3 hp4 hp5 hp6 hp7 hp8 hp9 hp10 hp11 hp12 hq0 hq1 hq2 hq3 hq4 hq5 hq6 hq7 hq8 hq9 hq10 hq11 hq12 hz0 hz1 hz2 hz3 hz4 hz5 hz6 hz7 hz8 hz9 hz10 hz11 hz12
        have hrs : w2.cell? ⟨rb, 0, none⟩ = _ ∧ w2.cell? ⟨rb, 1, none⟩ = _ ∧ w2.cell? ⟨rb, 2, none⟩ = _ ∧ w2.cell? ⟨rb, 3, none⟩ = _ ∧ w2.cell? ⟨rb, 4, none⟩ = _ ∧ w2.cell? ⟨rb, 5, none⟩ = _ ∧ w2.cell? ⟨rb, 6, none⟩ = _ ∧ w2.cell? ⟨rb, 7, none⟩ = _ ∧ w2.cell? ⟨rb, 8, none⟩ = _ ∧ w2.cell? ⟨rb, 9, none⟩ = _ ∧ w2.cell? ⟨rb, 10, none⟩ = _ ∧ w2.cell? ⟨rb, 11, none⟩ = _ ∧ w2.cell? ⟨rb, 12, none⟩ = _ :=
          ⟨hb2.cell 0, hb2.cell 1, hb2.cell 2, hb2.cell 3, hb2.cell 4, hb2.cell 5, hb2.cell 6, hb2.cell 7, hb2.cell 8, hb2.cell 9, hb2.cell 10, hb2.cell 11, hb2.cell 12⟩
        simp only [List.getElem?_toArray, List.getElem?_cons_zero, List.getElem?_cons_succ] at hrs
        obtain ⟨hr0, hr1, hr2, hr3, hr4, hr5, hr6, hr7, hr8, hr9, hr10, hr11, hr12⟩ := hrs
        refine bodyPost_ret (v := .tuple #[.agg #[.int .i64 0, .int .i64 0, .int .u64 0, .bool false, .string ⟨#[]⟩, .string ⟨#[]⟩, .slice none 0 0, .int .i64 0, .int .i64 0, .int .i64 0, .int .i64 0, .string ⟨#[]⟩, .slice none 0 0], .bool false]) (by simp [results, Try.results19, go_sem, hr0, hr1, hr2, hr3, hr4, hr5, hr6, hr7, hr8, hr9, hr10, hr11, hr12]) rfl ?_
        exact ⟨hx2, .inr ⟨HNO.out, rfl⟩⟩
      subst hc0
      have HRL2 := Lib.hid (HRL.out.trans (if_neg (by simp))); clear HRL
      have hbd := check_bound HCK.out
      dsimp only at hbd
      have HBD2 := Lib.hid hbd; clear hbd
      dsimp only
      go_wp2_with fail
      refine (bytesR29_flat kindI nI who mk name host files lastI daysI dayI nearI tag bl _ _ w17 HFI17.out HBO17.out (by have := HLT2.out; omega) HBD2.out).mono ?_
      rintro e w18 ⟨x, rfl, hox, hx18⟩
      generalize cmdB ⟨kindI, nI, who, mk, name, host, files, lastI, daysI, dayI, nearI, tag, bl⟩ = cb8 at *
      obtain ⟨ax, cx, hxf⟩ := own_form hox
      obtain ⟨nx, hnx⟩ : ∃ nx, nx = cb8.length := ⟨_, rfl⟩
      rw [← hnx] at hxf
      subst hxf
      have HOX := Lib.hid hox; have HX18 := Lib.hid (HX17.out.trans' hx18); have HBC18 := Lib.hid (HBC17.out.ext hx18 (fun s => s)); have HBR18 := Lib.hid (HBR17.out.ext hx18 (fun s => s)); have HOW18 := Lib.hid (own_ext HOW17.out hx18 (fun _ _ s => s)); have HOF18 := Lib.hid (OwnSeq.ext HOF17.out hx18 (fun _ _ s => s) (fun _ _ h => h)); have HBO18 := Lib.hid (HBO17.out.ext0 hx18); have HFI18 := Lib.hid (HFI17.out.ext0 hx18)
      have hbc := HBC18.out; have hbr := HBR18.out
      unfold zeroCells at hbr
      clear hp0 hp1 hp2 hp3 hp4 hp5 hp6 hp7 hp8 hp9 hp10 hp11 hp12 hq0 hq1 hq2 hq3 hq4 hq5 hq6 hq7 hq8 hq9 hq10 hq11 hq12 hz0 hz1 hz2 hz3 hz4 hz5 hz6 hz7 hz8 hz9 hz10 hz11 hz12 hx18 hox hnx
      have hps : w18.cell? ⟨cb, 0, none⟩ = _ ∧ w18.cell? ⟨cb, 1, none⟩ = _ ∧ w18.cell? ⟨cb, 2, none⟩ = _ ∧ w18.cell? ⟨cb, 3, none⟩ = _ ∧ w18.cell? ⟨cb, 4, none⟩ = _ ∧ w18.cell? ⟨cb, 5, none⟩ = _ ∧ w18.cell? ⟨cb, 6, none⟩ = _ ∧ w18.cell? ⟨cb, 7, none⟩ = _ ∧ w18.cell? ⟨cb, 8, none⟩ = _ ∧ w18.cell? ⟨cb, 9, none⟩ = _ ∧ w18.cell? ⟨cb, 10, none⟩ = _ ∧ w18.cell? ⟨cb, 11, none⟩ = _ ∧ w18.cell? ⟨cb, 12, none⟩ = _ :=
        ⟨hbc.cell 0, hbc.cell 1, hbc.cell 2, hbc.cell 3, hbc.cell 4, hbc.cell 5, hbc.cell 6, hbc.cell 7, hbc.cell 8, hbc.cell 9, hbc.cell 10, hbc.cell 11, hbc.cell 12⟩
      simp only [List.getElem?_toArray, List.getElem?_cons_zero, List.getElem?_cons_succ] at hps
      obtain ⟨hp0, hp1, hp2, hp3, hp4, hp5, hp6, hp7, hp8, hp9, hp10, hp11, hp12⟩ := hps
      have hqs : w18.cell? ⟨rb, 0, none⟩ = _ ∧ w18.cell? ⟨rb, 1, none⟩ = _ ∧ w18.cell? ⟨rb, 2, none⟩ = _ ∧ w18.cell? ⟨rb, 3, none⟩ = _ ∧ w18.cell? ⟨rb, 4, none⟩ = _ ∧ w18.cell? ⟨rb, 5, none⟩ = _ ∧ w18.cell? ⟨rb, 6, none⟩ = _ ∧ w18.cell? ⟨rb, 7, none⟩ = _ ∧ w18.cell? ⟨rb, 8, none⟩ = _ ∧ w18.cell? ⟨rb, 9, none⟩ = _ ∧ w18.cell? ⟨rb, 10, none⟩ = _ ∧ w18.cell? ⟨rb, 11, none⟩ = _ ∧ w18.cell? ⟨rb, 12, none⟩ = _ :=
        ⟨hbr.cell 0, hbr.cell 1, hbr.cell 2, hbr.cell 3, hbr.cell 4, hbr.cell 5, hbr.cell 6, hbr.cell 7, hbr.cell 8, hbr.cell 9, hbr.cell 10, hbr.cell 11, hbr.cell 12⟩
      simp only [List.getElem?_toArray, List.getElem?_cons_zero, List.getElem?_cons_succ] at hqs
      obtain ⟨hq0, hq1, hq2, hq3, hq4, hq5, hq6, hq7, hq8, hq9, hq10, hq11, hq12⟩ := hqs
      have hzs : w18.frozen? ⟨rb, 0, none⟩ = false ∧ w18.frozen? ⟨rb, 1, none⟩ = false ∧ w18.frozen? ⟨rb, 2, none⟩ = false ∧ w18.frozen? ⟨rb, 3, none⟩ = false ∧ w18.frozen? ⟨rb, 4, none⟩ = false ∧ w18.frozen? ⟨rb, 5, none⟩ = false ∧ w18.frozen? ⟨rb, 6, none⟩ = false ∧ w18.frozen? ⟨rb, 7, none⟩ = false ∧ w18.frozen? ⟨rb, 8, none⟩ = false ∧ w18.frozen? ⟨rb, 9, none⟩ = false ∧ w18.frozen? ⟨rb, 10, none⟩ = false ∧ w18.frozen? ⟨rb, 11, none⟩ = false ∧ w18.frozen? ⟨rb, 12, none⟩ = false :=
        ⟨hbr.free 0, hbr.free 1, hbr.free 2, hbr.free 3, hbr.free 4, hbr.free 5, hbr.free 6, hbr.free 7, hbr.free 8, hbr.free 9, hbr.free 10, hbr.free 11, hbr.free 12⟩
      obtain ⟨hz0, hz1, hz2, hz3, hz4, hz5, hz6, hz7, hz8, hz9, hz10, hz11, hz12⟩ := hzs
      clear hbc hbr
      dsimp only
      go_wp2_with fail
      refine (same1_any cb8 l _ _ w18 HOX.out.bytes (H.out.ext0 HX18.out)).mono ?_
      rintro e w19 ⟨rfl, rfl⟩
      by_cases hsm : cb8 = l
      · have HYES := Lib.hid (HRL2.out.trans (if_neg (by simpa using hsm))); clear HRL2
        rw [decide_eq_true hsm]
        dsimp only
        go_wp2_with fail
        have HXP0 := putAll_ext rb [.int .i64 kindI, .int .i64 nI, .int .u64 (who : Nat), .bool mk, .string (strB name), .string (strB host), .slice y13 ny13 cy13, .int .i64 lastI, .int .i64 daysI, .int .i64 dayI, .int .i64 nearI, .string (strB tag), .slice ab k cbb] w18 0
        obtain ⟨w2, hw2⟩ : ∃ w2, putAll w18 rb 0 [.int .i64 kindI, .int .i64 nI, .int .u64 (who : Nat), .bool mk, .string (strB name), .string (strB host), .slice y13 ny13 cy13, .int .i64 lastI, .int .i64 daysI, .int .i64 dayI, .int .i64 nearI, .string (strB tag), .slice ab k cbb] = w2 := ⟨_, rfl⟩
        obtain ⟨hb2, hx2⟩ := HFIN.out _ true [.int .i64 kindI, .int .i64 nI, .int .u64 (who : Nat), .bool mk, .string (strB name), .string (strB host), .slice y13 ny13 cy13, .int .i64 lastI, .int .i64 daysI, .int .i64 dayI, .int .i64 nearI, .string (strB tag), .slice ab k cbb] w18 HBR18.out rfl rfl HX18.out
        rw [hw2] at hb2 hx2 HXP0
        have HXP := Lib.hid HXP0; clear HXP0
        simp only [putAll, Nat.zero_add] at hw2
        rw [hw2]
        clear hw2 hp0 hp1 hp2 hp3 hp4 hp5 hp6 hp7 hp8 hp9 hp10 hp11 hp12 hq0 hq1 hq2 hq3 hq4 hq5 hq6 hq7 hq8 hq9 hq10 hq11 hq12 hz0 hz1 hz2 hz3 hz4 hz5 hz6 hz7 hz8 hz9 hz10 hz11 hz12
        have hrs : w2.cell? ⟨rb, 0, none⟩ = _ ∧ w2.cell? ⟨rb, 1, none⟩ = _ ∧ w2.cell? ⟨rb, 2, none⟩ = _ ∧ w2.cell? ⟨rb, 3, none⟩ = _ ∧ w2.cell? ⟨rb, 4, none⟩ = _ ∧ w2.cell? ⟨rb, 5, none⟩ = _ ∧ w2.cell? ⟨rb, 6, none⟩ = _ ∧ w2.cell? ⟨rb, 7, none⟩ = _ ∧ w2.cell? ⟨rb, 8, none⟩ = _ ∧ w2.cell? ⟨rb, 9, none⟩ = _ ∧ w2.cell? ⟨rb, 10, none⟩ = _ ∧ w2.cell? ⟨rb, 11, none⟩ = _ ∧ w2.cell? ⟨rb, 12, none⟩ = _ :=
          ⟨hb2.cell 0, hb2.cell 1, hb2.cell 2, hb2.cell 3, hb2.cell 4, hb2.cell 5, hb2.cell 6, hb2.cell 7, hb2.cell 8, hb2.cell 9, hb2.cell 10, hb2.cell 11, hb2.cell 12⟩
        simp only [List.getElem?_toArray, List.getElem?_cons_zero, List.getElem?_cons_succ] at hrs
        obtain ⟨hr0, hr1, hr2, hr3, hr4, hr5, hr6, hr7, hr8, hr9, hr10, hr11, hr12⟩ := hrs
        refine bodyPost_ret (v := .tuple #[.agg #[.int .i64 kindI, .int .i64 nI, .int .u64 (who : Nat), .bool mk, .string (strB name), .string (strB host), .slice y13 ny13 cy13, .int .i64 lastI, .int .i64 daysI, .int .i64 dayI, .int .i64 nearI, .string (strB tag), .slice ab k cbb], .bool true]) (by simp [results, Try.results19, go_sem, hr0, hr1, hr2, hr3, hr4, hr5, hr6, hr7, hr8, hr9, hr10, hr11, hr12]) rfl ?_
        have hob := own_ext HOW18.out HXP.out (fun j hj s => own_ne_type HOW18.out HBR18.out (by decide) (s ▸ hj))
        exact ⟨hx2, .inl ⟨_, _, _, HYES.out, rfl, OwnSeq.filesW (OwnSeq.ext HOF18.out HXP.out (fun j hj s => by obtain ⟨cs, hb3⟩ := OwnSeq.blk HOF18.out hj; exact Blk.ne_type hb3 HBR18.out (by decide) s) (fun _ _ h => h)) hx2, HBOF.out w2 hob⟩⟩
      · have HNO := Lib.hid (HRL2.out.trans (if_pos (by simpa using hsm))); clear HRL2
        rw [decide_eq_false hsm]
        dsimp only
        go_wp2_with fail
        obtain ⟨w2, hw2⟩ : ∃ w2, putAll w18 rb 0 [.int .i64 0, .int .i64 0, .int .u64 0, .bool false, .string ⟨#[]⟩, .string ⟨#[]⟩, .slice none 0 0, .int .i64 0, .int .i64 0, .int .i64 0, .int .i64 0, .string ⟨#[]⟩, .slice none 0 0] = w2 := ⟨_, rfl⟩
        obtain ⟨hb2, hx2⟩ := HFIN.out _ true [.int .i64 0, .int .i64 0, .int .u64 0, .bool false, .string ⟨#[]⟩, .string ⟨#[]⟩, .slice none 0 0, .int .i64 0, .int .i64 0, .int .i64 0, .int .i64 0, .string ⟨#[]⟩, .slice none 0 0] w18 HBR18.out rfl rfl HX18.out
        rw [hw2] at hb2 hx2
        simp only [putAll, Nat.zero_add] at hw2
        rw [hw2]
        clear hw2 hp0 hp1 hp2 hp3 hp4 hp5 hp6 hp7 hp8 hp9 hp10 hp11 hp12 hq0 hq1 hq2 hq3 hq4 hq5 hq6 hq7 hq8 hq9 hq10 hq11 hq12 hz0 hz1 hz2 hz3 hz4 hz5 hz6 hz7 hz8 hz9 hz10 hz11 hz12
        have hrs : w2.cell? ⟨rb, 0, none⟩ = _ ∧ w2.cell? ⟨rb, 1, none⟩ = _ ∧ w2.cell? ⟨rb, 2, none⟩ = _ ∧ w2.cell? ⟨rb, 3, none⟩ = _ ∧ w2.cell? ⟨rb, 4, none⟩ = _ ∧ w2.cell? ⟨rb, 5, none⟩ = _ ∧ w2.cell? ⟨rb, 6, none⟩ = _ ∧ w2.cell? ⟨rb, 7, none⟩ = _ ∧ w2.cell? ⟨rb, 8, none⟩ = _ ∧ w2.cell? ⟨rb, 9, none⟩ = _ ∧ w2.cell? ⟨rb, 10, none⟩ = _ ∧ w2.cell? ⟨rb, 11, none⟩ = _ ∧ w2.cell? ⟨rb, 12, none⟩ = _ :=
          ⟨hb2.cell 0, hb2.cell 1, hb2.cell 2, hb2.cell 3, hb2.cell 4, hb2.cell 5, hb2.cell 6, hb2.cell 7, hb2.cell 8, hb2.cell 9, hb2.cell 10, hb2.cell 11, hb2.cell 12⟩
        simp only [List.getElem?_toArray, List.getElem?_cons_zero, List.getElem?_cons_succ] at hrs
        obtain ⟨hr0, hr1, hr2, hr3, hr4, hr5, hr6, hr7, hr8, hr9, hr10, hr11, hr12⟩ := hrs
        refine bodyPost_ret (v := .tuple #[.agg #[.int .i64 0, .int .i64 0, .int .u64 0, .bool false, .string ⟨#[]⟩, .string ⟨#[]⟩, .slice none 0 0, .int .i64 0, .int .i64 0, .int .i64 0, .int .i64 0, .string ⟨#[]⟩, .slice none 0 0], .bool false]) (by simp [results, Try.results19, go_sem, hr0, hr1, hr2, hr3, hr4, hr5, hr6, hr7, hr8, hr9, hr10, hr11, hr12]) rfl ?_
        exact ⟨hx2, .inr ⟨HNO.out, rfl⟩⟩
end Go.Proofs.Ytchejnnfbinclaa
end

section
/- The contract of Same (rows of bytes) of the document's answer. -/
namespace Go.Proofs.Ytchejnnfbinclaa
open Go.RowKit Go.My

theorem take_step {α : Type} (ls ks : List α) (d : α) (k : Nat) (h1 : k < ls.length) (h2 : k < ks.length) (h : ls.take k = ks.take k) : ls.take (k + 1) = ks.take (k + 1) ↔ ls.getD k d = ks.getD k d := by
  rw [List.take_add_one, List.take_add_one, h, List.getElem?_eq_getElem h1, List.getElem?_eq_getElem h2, List.getD_eq_getElem?_getD, List.getD_eq_getElem?_getD, List.getElem?_eq_getElem h1, List.getElem?_eq_getElem h2]
  simp only [Option.toList_some, Option.getD_some, List.append_cancel_left_eq, List.cons.injEq, and_true]

set_option maxRecDepth 100000 in
set_option maxHeartbeats 1000000 in
theorem same4_dr (ls ks : List (List UInt8)) (v u : Value) (w : World) (h : IsRows w ls v) (h' : IsRows w ks u) :
    Calls Try.prog 27 #[v, u] w fun e w' => e = .returned (.bool (decide (ls = ks))) ∧ Dr w w' := by
  obtain ⟨f, hr1, he1⟩ := h
  obtain ⟨g, hr2, he2⟩ := h'
  have hr1' := hr1; have hr2' := hr2
  obtain ⟨a, c, rfl, hc1, hc2, -⟩ := hr1
  obtain ⟨b, d, rfl, hc3, hc4, -⟩ := hr2
  have H := Lib.hid (And.intro hr1' (And.intro hr2' (And.intro he1 he2))); clear hr1' hr2' he1 he2
  obtain ⟨m, hm⟩ : ∃ m, m = ls.length := ⟨_, rfl⟩
  obtain ⟨n, hn⟩ : ∃ n, n = ks.length := ⟨_, rfl⟩
  rw [← hm] at hc1 ⊢; rw [← hn] at hc3 ⊢
  have HM := Lib.hid hm; have HN := Lib.hid hn; clear hm hn
  go_enter Try.func27, Try.ntmps27
  by_cases hmn : m = n
  · subst hmn
    go_wp2_with fail
    go_loopw [5] (fun i wr => ∃ k : Nat, i = .int .i64 k ∧ k ≤ m ∧ Dr w wr ∧ ls.take k = ks.take k) (fun i _ => m - (intOf i).toNat)
    case atStart => exact ⟨0, rfl, by omega, Dr.refl _, by simp⟩
    case round =>
      obtain ⟨k, rfl, hk, hdr, ht⟩ := hrel
      have HT := Lib.hid ht; have HDR := Lib.hid hdr
      by_cases hlt : k < m
      · obtain ⟨h1, h2, h3, h4⟩ := H.out
        rw [← HM.out] at h1 h3; rw [← HN.out] at h2 h4
        obtain ⟨b1, o1, rfl, e1⟩ := h1.get k hlt
        obtain ⟨b2, o2, rfl, e2⟩ := h2.get k hlt
        rw [← hdr.cell] at e1 e2
        have h3' := h3 k hlt
        have h4' := h4 k hlt
        have hst := take_step ls ks [] k (by rw [← HM.out]; exact hlt) (by rw [← HN.out]; exact hlt) HT.out
        generalize ls.getD k [] = l1 at *
        generalize ks.getD k [] = l2 at *
        generalize f k = x1 at *
        generalize g k = x2 at *
        have hx1 : ∃ a n c, x1 = .slice a n c := by obtain ⟨a, c, h, -⟩ := h3'; exact ⟨_, _, _, h⟩
        have hx2 : ∃ a n c, x2 = .slice a n c := by obtain ⟨a, c, h, -⟩ := h4'; exact ⟨_, _, _, h⟩
        obtain ⟨a1, n1, c1, rfl⟩ := hx1
        obtain ⟨a2, n2, c2, rfl⟩ := hx2
        have hq : ∀ j, Calls Try.prog 15 #[.slice a1 n1 c1, .slice a2 n2 c2] (wr.drewN j) fun e w'' => e = .returned (.bool (decide (l1 = l2))) ∧ ∃ i, w'' = wr.drewN i := fun j =>
          quiet_of_eq (same1_any l1 l2 _ _ _ ((h3'.ext0 (hdr.ext No)).ext0 ((Dr.mk _ _).ext No)) ((h4'.ext0 (hdr.ext No)).ext0 ((Dr.mk _ _).ext No)))
        have HQ := Lib.hid hq; have HST := Lib.hid hst; clear hq hst h1 h2 h3 h4 h3' h4' hdr ht
        by_cases heq : l1 = l2
        · have hd : decide (l1 = l2) = true := by simpa using heq
          generalize decide (l1 = l2) = r at *
          subst hd
          go_wp2_with fail
          go_quiet ((go_at_call 15; exact HQ.out _))
          go_wp2_with fail
          go_roundw
          case rel => exact ⟨k + 1, by go_num, by omega, HDR.out.more _, HST.out.2 heq⟩
          case measure => simp [intOf]; omega
        · have hd : decide (l1 = l2) = false := by simpa using heq
          generalize decide (l1 = l2) = r at *
          subst hd
          go_wp2_with fail
          go_quiet ((go_at_call 15; exact HQ.out _))
          go_wp2_with fail
          go_ret
          refine ⟨?_, HDR.out.more _⟩
          have : ¬ ls = ks := fun h => heq (HST.out.1 (by rw [h]))
          simp [this]
      · have hkm : k = m := by omega
        subst hkm
        clear hdr ht
        go_wp2_with fail
        go_ret
        refine ⟨?_, HDR.out⟩
        have : ls = ks := by
          have h := HT.out
          rw [List.take_of_length_le (by rw [← HM.out]; exact Nat.le_refl _), List.take_of_length_le (by rw [← HN.out]; exact Nat.le_refl _)] at h
          exact h
        simp [this]
  · have hne : ¬ ((m : Int) = n) := by omega
    go_wp2_with fail
    go_ret
    refine ⟨?_, Dr.refl _⟩
    have : ¬ ls = ks := fun h => hmn (by rw [HM.out, HN.out, h])
    simp [this]

theorem same4_any (ls ks : List (List UInt8)) (v u : Value) (w : World) (h : IsRows w ls v) (h' : IsRows w ks u) :
    Calls Try.prog 27 #[v, u] w fun e w' => e = .returned (.bool (decide (ls = ks))) ∧ Ext No w w' :=
  (same4_dr ls ks v u w h h').mono fun _ _ ⟨h1, h2⟩ => ⟨h1, h2.ext No⟩

end Go.Proofs.Ytchejnnfbinclaa
end

section
/- The contracts of the documents' answers' Same: strings, files. -/
namespace Go.Proofs.Ytchejnnfbinclaa
open Go.RowKit Go.My

set_option maxRecDepth 100000 in
set_option maxHeartbeats 4000000 in
theorem sameStrs_any (ls ks : List (List UInt8)) (v u : Value) (w : World) (h : IsStrs w ls v) (h' : IsStrs w ks u) :
    Calls Try.prog 61 #[v, u] w fun e w' => e = .returned (.bool (decide (ls = ks))) ∧ Dr w w' := by
  have H := Lib.hid (And.intro h h')
  obtain ⟨a, c, rfl, hc1, hc2, -⟩ := h
  obtain ⟨b, d, rfl, hc3, hc4, -⟩ := h'
  obtain ⟨m, hm⟩ : ∃ m, m = ls.length := ⟨_, rfl⟩
  obtain ⟨n, hn⟩ : ∃ n, n = ks.length := ⟨_, rfl⟩
  rw [← hm] at hc1 H ⊢; rw [← hn] at hc3 H ⊢
  have HM := Lib.hid hm; have HN := Lib.hid hn; clear hm hn
  go_enter Try.func61, Try.ntmps61
  by_cases hmn : m = n
  · subst hmn
    go_wp2_with fail
    go_loopw [5] (fun i wr => ∃ k : Nat, i = .int .i64 k ∧ k ≤ m ∧ Dr w wr ∧ ls.take k = ks.take k) (fun i _ => m - (intOf i).toNat)
    case atStart => exact ⟨0, rfl, by omega, Dr.refl _, by simp⟩
    case round =>
      obtain ⟨k, rfl, hk, hdr, ht⟩ := hrel
      have HT := Lib.hid ht; have HDR := Lib.hid hdr
      by_cases hlt : k < m
      · have hltI : (k : Int) < m := by omega
        obtain ⟨b1, o1, rfl, e1⟩ := IsRow.get H.out.1 k hlt
        obtain ⟨b2, o2, rfl, e2⟩ := IsRow.get H.out.2 k hlt
        rw [← hdr.cell] at e1 e2
        unfold strV at e1 e2
        have hst := take_step ls ks [] k (by rw [← HM.out]; exact hlt) (by rw [← HN.out]; exact hlt) HT.out
        have hse := strB_eq (ls.getD k []) (ks.getD k [])
        generalize ls.getD k [] = l1 at *
        generalize ks.getD k [] = l2 at *
        have HST := Lib.hid hst; clear hst hdr ht
        by_cases heq : l1 = l2
        · subst heq
          clear hse
          go_wp2_with fail
          go_quiet (fail)
          go_wp2_with fail
          go_roundw
          case rel => exact ⟨k + 1, by go_num, by omega, HDR.out.more _, HST.out.2 (by trivial)⟩
          case measure => simp [intOf]; omega
        · have hd : decide (l1 = l2) = false := by simpa using heq
          rw [hd] at hse
          have hne : ¬ strB l1 = strB l2 := fun h => heq ((strB_inj _ _).1 h)
          go_wp2_with fail
          go_quiet (fail)
          go_wp2_with fail
          go_ret
          refine ⟨?_, HDR.out.more _⟩
          have : ¬ ls = ks := fun h => heq (HST.out.1 (by rw [h]))
          simp [this]
      · have hkm : k = m := by omega
        subst hkm
        clear hdr ht
        go_wp2_with fail
        go_ret
        refine ⟨?_, HDR.out⟩
        have : ls = ks := by
          have h := HT.out
          rw [List.take_of_length_le (by rw [← HM.out]; exact Nat.le_refl _), List.take_of_length_le (by rw [← HN.out]; exact Nat.le_refl _)] at h
          exact h
        simp [this]
  · have hne : ¬ ((m : Int) = n) := by omega
    go_wp2_with fail
    go_ret
    refine ⟨?_, Dr.refl _⟩
    have : ¬ ls = ks := fun h => hmn (by rw [HM.out, HN.out, h])
    simp [this]

set_option maxRecDepth 100000 in
set_option maxHeartbeats 8000000 in
theorem same17_any (ls ks : List FileL) (v u : Value) (w : World) (h : IsFiles w ls v) (h' : IsFiles w ks u) :
    Calls Try.prog 60 #[v, u] w fun e w' => e = .returned (.bool (decide (ls = ks))) ∧ Dr w w' := by
  have H := Lib.hid (And.intro h h')
  obtain ⟨a, c, rfl, hc1, hc2, -⟩ := h
  obtain ⟨b, d, rfl, hc3, hc4, -⟩ := h'
  obtain ⟨m, hm⟩ : ∃ m, m = ls.length := ⟨_, rfl⟩
  obtain ⟨n, hn⟩ : ∃ n, n = ks.length := ⟨_, rfl⟩
  rw [← hm] at hc1 H ⊢; rw [← hn] at hc3 H ⊢
  have HM := Lib.hid hm; have HN := Lib.hid hn; clear hm hn
  go_enter Try.func60, Try.ntmps60
  by_cases hmn : m = n
  · subst hmn
    go_wp2_with fail
    go_loopw [5] (fun i wr => ∃ k : Nat, i = .int .i64 k ∧ k ≤ m ∧ Dr w wr ∧ ls.take k = ks.take k) (fun i _ => m - (intOf i).toNat)
    case atStart => exact ⟨0, rfl, by omega, Dr.refl _, by simp⟩
    case round =>
      obtain ⟨k, rfl, hk, hdr, ht⟩ := hrel
      have HT := Lib.hid ht; have HDR := Lib.hid hdr
      by_cases hlt : k < m
      · have hltI : (k : Int) < m := by omega
        obtain ⟨b1, o1, ax, nx, cx, rfl, hp1, hd1, hx1, -, -⟩ := H.out.1.get k hlt
        obtain ⟨b2, o2, ay, ny, cy, rfl, hp2, hd2, hy1, -, -⟩ := H.out.2.get k hlt
        rw [← hdr.cell] at hp1 hd1 hp2 hd2
        have hst := take_step ls ks ([], []) k (by rw [← HM.out]; exact hlt) (by rw [← HN.out]; exact hlt) HT.out
        generalize ls.getD k ([], []) = f1 at *
        generalize ks.getD k ([], []) = f2 at *
        obtain ⟨p1, t1⟩ := f1
        obtain ⟨p2, t2⟩ := f2
        simp only at hp1 hd1 hp2 hd2 hx1 hy1
        have hse := strB_eq p1 p2
        have hq : ∀ j, Calls Try.prog 15 #[.slice ax nx cx, .slice ay ny cy] (wr.drewN j) fun e w'' => e = .returned (.bool (decide (t1 = t2))) ∧ ∃ i, w'' = wr.drewN i := fun j =>
          quiet_of_eq (same1_any t1 t2 _ _ _ ((hx1.ext0 (hdr.ext No)).ext0 ((Dr.mk _ _).ext No)) ((hy1.ext0 (hdr.ext No)).ext0 ((Dr.mk _ _).ext No)))
        have HQ := Lib.hid hq; have HST := Lib.hid hst; clear hq hst hx1 hy1 hdr ht
        by_cases heq : p1 = p2
        · subst heq
          clear hse
          by_cases heq2 : t1 = t2
          · have hd : decide (t1 = t2) = true := by simpa using heq2
            generalize decide (t1 = t2) = r at *
            subst hd
            go_wp2_with fail
            go_quiet ((go_at_call 15; exact HQ.out _))
            go_wp2_with fail
            go_roundw
            case rel => exact ⟨k + 1, by go_num, by omega, HDR.out.more _, HST.out.2 (by rw [heq2])⟩
            case measure => simp [intOf]; omega
          · have hd : decide (t1 = t2) = false := by simpa using heq2
            generalize decide (t1 = t2) = r at *
            subst hd
            go_wp2_with fail
            go_quiet ((go_at_call 15; exact HQ.out _))
            go_wp2_with fail
            go_ret
            refine ⟨?_, HDR.out.more _⟩
            have : ¬ ls = ks := fun h => heq2 (Prod.mk.inj (HST.out.1 (by rw [h]))).2
            simp [this]
        · have hd : decide (p1 = p2) = false := by simpa using heq
          rw [hd] at hse
          have hne : ¬ strB p1 = strB p2 := fun h => heq ((strB_inj _ _).1 h)
          go_wp2_with fail
          go_quiet (fail)
          go_wp2_with fail
          go_ret
          refine ⟨?_, HDR.out.more _⟩
          have : ¬ ls = ks := fun h => heq (Prod.mk.inj (HST.out.1 (by rw [h]))).1
          simp [this]
      · have hkm : k = m := by omega
        subst hkm
        clear hdr ht
        go_wp2_with fail
        go_ret
        refine ⟨?_, HDR.out⟩
        have : ls = ks := by
          have h := HT.out
          rw [List.take_of_length_le (by rw [← HM.out]; exact Nat.le_refl _), List.take_of_length_le (by rw [← HN.out]; exact Nat.le_refl _)] at h
          exact h
        simp [this]
  · have hne : ¬ ((m : Int) = n) := by omega
    go_wp2_with fail
    go_ret
    refine ⟨?_, Dr.refl _⟩
    have : ¬ ls = ks := fun h => hmn (by rw [HM.out, HN.out, h])
    simp [this]

end Go.Proofs.Ytchejnnfbinclaa
end

section
/- The contract of the documents' answer's Same of commands. Printed by wip/mksame.py. -/
namespace Go.Proofs.Ytchejnnfbinclaa
open Go.RowKit Go.My

set_option maxRecDepth 100000 in
set_option maxHeartbeats 20000000 in
theorem same29_any (kind n : Int) (who : Nat) (flag : Bool) (name host : List UInt8) (files : List FileL) (last days day within : Int) (tag : List UInt8) (bits : List Bool) (vf vb : Value)
    (kind' n' : Int) (who' : Nat) (flag' : Bool) (name' host' : List UInt8) (files' : List FileL) (last' days' day' within' : Int) (tag' : List UInt8) (bits' : List Bool) (vf' vb' : Value) (w : World)
    (hf : IsFiles w files vf) (hb : IsBools w bits vb) (hf' : IsFiles w files' vf') (hb' : IsBools w bits' vb') :
    Calls Try.prog 21 #[cmdVal ⟨kind, n, who, flag, name, host, files, last, days, day, within, tag, bits⟩ vf vb, cmdVal ⟨kind', n', who', flag', name', host', files', last', days', day', within', tag', bits'⟩ vf' vb'] w fun e w' =>
      Ext No w w' ∧ ∃ t, e = .returned (.bool t) ∧ (t = true ↔ (⟨kind, n, who, flag, name, host, files, last, days, day, within, tag, bits⟩ : CmdI) = ⟨kind', n', who', flag', name', host', files', last', days', day', within', tag', bits'⟩) := by
  obtain ⟨af, nf, cf, hvf⟩ : ∃ a n c, vf = .slice a n c := by obtain ⟨a, c, h, -⟩ := hf; exact ⟨a, _, c, h⟩
  obtain ⟨ab, nb, cb, hvb⟩ : ∃ a n c, vb = .slice a n c := by obtain ⟨a, c, h, -⟩ := hb; exact ⟨a, _, c, h⟩
  obtain ⟨af', nf', cf', hvf'⟩ : ∃ a n c, vf' = .slice a n c := by obtain ⟨a, c, h, -⟩ := hf'; exact ⟨a, _, c, h⟩
  obtain ⟨ab', nb', cb', hvb'⟩ : ∃ a n c, vb' = .slice a n c := by obtain ⟨a, c, h, -⟩ := hb'; exact ⟨a, _, c, h⟩
  subst hvf; subst hvb; subst hvf'; subst hvb'
  have hnb := (IsRow.len hb).1; have hnb' := (IsRow.len hb').1
  have hnl := (IsRow.len hb).2; have hnl' := (IsRow.len hb').2
  have HF := Lib.hid hf; have HF' := Lib.hid hf'; have HBB := Lib.hid hb; have HBB' := Lib.hid hb'; have HNB := Lib.hid hnb; have HNB' := Lib.hid hnb'
  have HX2 : ∀ cs cs' : Array Value, Ext No w ((w.alloc (.cells cs 38)).alloc (.cells cs' 38)) := fun _ _ => ((Ext.refl No w).alloc _).alloc _
  have HXX := Lib.hid HX2
  unfold cmdVal
  simp only
  clear hf hb hf' hb' hnb hnb' HX2
  by_cases h : kind = kind'
  case neg =>
    have hd : (kind != kind') = true := by simpa using h
    go_enter Try.func21, Try.ntmps21
    go_wp2_with fail
    go_ret
    exact ⟨HXX.out _ _, false, rfl, by simp only [Bool.false_eq_true, false_iff]; intro h; exact absurd (congrArg CmdI.kind h) ‹¬ kind = kind'›⟩
  subst h
  by_cases h : n = n'
  case neg =>
    have hd : (n != n') = true := by simpa using h
    go_enter Try.func21, Try.ntmps21
    go_wp2_with fail
    go_ret
    exact ⟨HXX.out _ _, false, rfl, by simp only [Bool.false_eq_true, false_iff]; intro h; exact absurd (congrArg CmdI.n h) ‹¬ n = n'›⟩
  subst h
  by_cases h : who = who'
  case neg =>
    have hd : ((who : Int) != who') = true := by simp; omega
    go_enter Try.func21, Try.ntmps21
    go_wp2_with fail
    go_ret
    exact ⟨HXX.out _ _, false, rfl, by simp only [Bool.false_eq_true, false_iff]; intro h; exact absurd (congrArg CmdI.who h) ‹¬ who = who'›⟩
  subst h
  by_cases h : flag = flag'
  case neg =>
    have hff : flag' = !flag := by cases flag <;> cases flag' <;> simp_all
    subst hff
    cases flag
    all_goals
      go_enter Try.func21, Try.ntmps21
      go_wp2_with fail
      go_ret
      exact ⟨HXX.out _ _, false, rfl, by simp only [Bool.false_eq_true, false_iff]; intro h; have e := congrArg CmdI.flag h; revert e; simp⟩
  subst h
  by_cases h : name = name'
  case neg =>
    have hse := strB_eq name name'; rw [decide_eq_false h] at hse; have hd : ¬ strB name = strB name' := fun e => h ((strB_inj _ _).1 e)
    go_enter Try.func21, Try.ntmps21
    go_wp2_with fail
    go_ret
    exact ⟨HXX.out _ _, false, rfl, by simp only [Bool.false_eq_true, false_iff]; intro h; exact absurd (congrArg CmdI.name h) ‹¬ name = name'›⟩
  subst h
  by_cases h : host = host'
  case neg =>
    have hse := strB_eq host host'; rw [decide_eq_false h] at hse; have hd : ¬ strB host = strB host' := fun e => h ((strB_inj _ _).1 e)
    go_enter Try.func21, Try.ntmps21
    go_wp2_with fail
    go_ret
    exact ⟨HXX.out _ _, false, rfl, by simp only [Bool.false_eq_true, false_iff]; intro h; exact absurd (congrArg CmdI.host h) ‹¬ host = host'›⟩
  subst h
  by_cases h : last = last'
  case neg =>
    have hd : ¬ last = last' := h
    go_enter Try.func21, Try.ntmps21
    go_wp2_with fail
    go_ret
    exact ⟨HXX.out _ _, false, rfl, by simp only [Bool.false_eq_true, false_iff]; intro h; exact absurd (congrArg CmdI.last h) ‹¬ last = last'›⟩
  subst h
  by_cases h : days = days'
  case neg =>
    have hd : ¬ days = days' := h
    go_enter Try.func21, Try.ntmps21
    go_wp2_with fail
    go_ret
    exact ⟨HXX.out _ _, false, rfl, by simp only [Bool.false_eq_true, false_iff]; intro h; exact absurd (congrArg CmdI.days h) ‹¬ days = days'›⟩
  subst h
  by_cases h : day = day'
  case neg =>
    have hd : ¬ day = day' := h
    go_enter Try.func21, Try.ntmps21
    go_wp2_with fail
    go_ret
    exact ⟨HXX.out _ _, false, rfl, by simp only [Bool.false_eq_true, false_iff]; intro h; exact absurd (congrArg CmdI.day h) ‹¬ day = day'›⟩
  subst h
  by_cases h : within = within'
  case neg =>
    have hd : ¬ within = within' := h
    go_enter Try.func21, Try.ntmps21
    go_wp2_with fail
    go_ret
    exact ⟨HXX.out _ _, false, rfl, by simp only [Bool.false_eq_true, false_iff]; intro h; exact absurd (congrArg CmdI.within h) ‹¬ within = within'›⟩
  subst h
  by_cases h : tag = tag'
  case neg =>
    have hse := strB_eq tag tag'; rw [decide_eq_false h] at hse; have hd : ¬ strB tag = strB tag' := fun e => h ((strB_inj _ _).1 e)
    go_enter Try.func21, Try.ntmps21
    go_wp2_with fail
    go_ret
    exact ⟨HXX.out _ _, false, rfl, by simp only [Bool.false_eq_true, false_iff]; intro h; exact absurd (congrArg CmdI.tag h) ‹¬ tag = tag'›⟩
  subst h
  by_cases h : nb = nb'
  case neg =>
    have hd : ¬ ((nb : Int) = nb') := by omega
    go_enter Try.func21, Try.ntmps21
    go_wp2_with fail
    go_ret
    exact ⟨HXX.out _ _, false, rfl, by simp only [Bool.false_eq_true, false_iff]; intro h; exact absurd (congrArg (fun c : CmdI => c.bits.length) h) (by show ¬ bits.length = bits'.length; rw [← HNB.out, ← HNB'.out]; omega)⟩
  subst h
  go_enter Try.func21, Try.ntmps21
  go_wp2_with fail
  obtain ⟨w0, hw0⟩ : ∃ w0, lay w [(#[.int .i64 kind, .int .i64 n, .int .u64 (who : Nat), .bool flag, .string (strB name), .string (strB host), .slice af nf cf, .int .i64 last, .int .i64 days, .int .i64 day, .int .i64 within, .string (strB tag), .slice ab nb cb], 38), (#[.int .i64 kind, .int .i64 n, .int .u64 (who : Nat), .bool flag, .string (strB name), .string (strB host), .slice af' nf' cf', .int .i64 last, .int .i64 days, .int .i64 day, .int .i64 within, .string (strB tag), .slice ab' nb cb'], 38)] = w0 := ⟨_, rfl⟩
  have hx0 : Ext No w w0 := by rw [← hw0]; exact lay_ext _ (Ext.refl _ _)
  have hb0 := lay_at hw0 0 _ _ rfl
  have hb1 := lay_at hw0 1 _ _ rfl
  rw [Nat.add_zero] at hb0
  simp only [lay] at hw0
  rw [hw0]
  have hcs : ∀ wr, Dr w0 wr → wr.cell? ⟨w.heap.size, 12, none⟩ = some (.slice ab nb cb) ∧ wr.cell? ⟨w.heap.size + 1, 12, none⟩ = some (.slice ab' nb cb') ∧ wr.cell? ⟨w.heap.size, 6, none⟩ = some (.slice af nf cf) ∧ wr.cell? ⟨w.heap.size + 1, 6, none⟩ = some (.slice af' nf' cf') := fun wr h =>
    ⟨by rw [h.cell, hb0.cell]; rfl, by rw [h.cell, hb1.cell]; rfl, by rw [h.cell, hb0.cell]; rfl, by rw [h.cell, hb1.cell]; rfl⟩
  have HCS := Lib.hid hcs; have HX0 := Lib.hid hx0
  obtain ⟨pb, hpb⟩ : ∃ pb, w.heap.size = pb := ⟨_, rfl⟩
  obtain ⟨qb, hqb⟩ : ∃ qb, pb + 1 = qb := ⟨_, rfl⟩
  rw [hpb, hqb] at HCS ⊢
  clear hw0 hb0 hb1 hcs hx0 hpb hqb
  go_loopw [5] (fun i wr => ∃ k : Nat, i = .int .i64 k ∧ k ≤ nb ∧ Dr w0 wr ∧ bits.take k = bits'.take k) (fun i _ => nb - (intOf i).toNat)
  case atStart => exact ⟨0, rfl, by omega, Dr.refl _, by simp⟩
  case round =>
    obtain ⟨k, rfl, hk, hdr, ht⟩ := hrel
    have HT := Lib.hid ht; have HDR := Lib.hid hdr
    obtain ⟨hc1, hc2, hc3, hc4⟩ := HCS.out wr hdr
    by_cases hlt : k < nb
    · have hltI : (k : Int) < nb := by omega
      have hdd := hdr.drew
      obtain ⟨hc1', hc2', -, -⟩ := HCS.out _ hdd
      obtain ⟨b1, o1, rfl, e1⟩ := IsRow.get ((HBB.out.ext0 HX0.out).ext0 (hdr.ext No)) k hlt
      obtain ⟨b2, o2, rfl, e2⟩ := IsRow.get ((HBB'.out.ext0 HX0.out).ext0 (hdr.ext No)) k hlt
      unfold boolV at e1 e2
      have hst := take_step bits bits' false k (by rw [← HNB.out]; exact hlt) (by rw [← HNB'.out]; exact hlt) HT.out
      generalize bits.getD k false = t1 at *
      generalize bits'.getD k false = t2 at *
      have HST := Lib.hid hst; clear hst hdr ht hdd hc1' hc2'
      by_cases heq : t1 = t2
      · subst heq
        go_wp2_with fail
        go_quiet (fail)
        go_wp2_with fail
        go_roundw
        case rel => exact ⟨k + 1, by go_num, by omega, HDR.out.more _, HST.out.2 (by trivial)⟩
        case measure => simp [intOf]; omega
      · have hff : t2 = !t1 := by cases t1 <;> cases t2 <;> simp_all
        subst hff
        cases t1
        all_goals
          go_wp2_with fail
          go_quiet (fail)
          go_wp2_with fail
          go_ret
          refine ⟨HX0.out.trans' ((HDR.out.more _).ext No), false, rfl, ?_⟩
          simp only [Bool.false_eq_true, false_iff]
          intro h
          have e : bits = bits' := congrArg CmdI.bits h
          have := HST.out.1 (by rw [e])
          simp at this
    · have hkm : k = nb := by omega
      subst hkm
      have hbe : bits = bits' := by
        have h := HT.out
        rw [List.take_of_length_le (by rw [← HNB.out]; exact Nat.le_refl _), List.take_of_length_le (by rw [← HNB'.out]; exact Nat.le_refl _)] at h
        exact h
      have HBE := Lib.hid hbe
      clear hdr ht hbe
      go_wp2_with fail
      refine (same17_any files files' _ _ wr ((HF.out.ext0 HX0.out).ext0 (HDR.out.ext No)) ((HF'.out.ext0 HX0.out).ext0 (HDR.out.ext No))).mono ?_
      rintro e w2 ⟨rfl, hd2⟩
      have HD2 := Lib.hid hd2; clear hd2
      generalize hdf : decide (files = files') = t
      have HDF := Lib.hid hdf; clear hdf
      dsimp only
      go_wp2_with fail
      go_ret
      refine ⟨(HX0.out.trans' (HDR.out.ext No)).trans' (HD2.out.ext No), t, rfl, ?_⟩
      rw [← HDF.out, decide_eq_true_eq, HBE.out]
      constructor
      · intro h; rw [h]
      · intro h; exact congrArg CmdI.files h

end Go.Proofs.Ytchejnnfbinclaa
end

section
/- The contracts of the documents' answers' Alike, Right. -/
namespace Go.Proofs.Ytchejnnfbinclaa
open Go.RowKit Go.My

set_option maxRecDepth 100000 in
set_option maxHeartbeats 20000000 in
theorem alike29_any (code : Int) (names : List (List UInt8)) (files : List FileL) (done : Bool) (n : Int) (vn vf : Value) (code' : Int) (names' : List (List UInt8)) (files' : List FileL) (done' : Bool) (n' : Int) (vn' vf' : Value) (w : World)
    (hn : IsStrs w names vn) (hf : IsFiles w files vf) (hn' : IsStrs w names' vn') (hf' : IsFiles w files' vf') :
    Calls Try.prog 22 #[ansVal ⟨code, names, files, done, n⟩ vn vf, ansVal ⟨code', names', files', done', n'⟩ vn' vf'] w fun e w' =>
      Ext No w w' ∧ ∃ t, e = .returned (.bool t) ∧ (t = true ↔ (⟨code, names, files, done, n⟩ : AnsI) = ⟨code', names', files', done', n'⟩) := by
  obtain ⟨af, nf, cf, hvf⟩ : ∃ a n c, vf = .slice a n c := by obtain ⟨a, c, h, -⟩ := hf; exact ⟨a, _, c, h⟩
  obtain ⟨an, nn, cn, hvn⟩ : ∃ a n c, vn = .slice a n c := by obtain ⟨a, c, h, -⟩ := hn; exact ⟨a, _, c, h⟩
  obtain ⟨af', nf', cf', hvf'⟩ : ∃ a n c, vf' = .slice a n c := by obtain ⟨a, c, h, -⟩ := hf'; exact ⟨a, _, c, h⟩
  obtain ⟨an', nn', cn', hvn'⟩ : ∃ a n c, vn' = .slice a n c := by obtain ⟨a, c, h, -⟩ := hn'; exact ⟨a, _, c, h⟩
  subst hvf; subst hvn; subst hvf'; subst hvn'
  have HX2 : ∀ cs cs' : Array Value, Ext No w ((w.alloc (.cells cs 52)).alloc (.cells cs' 52)) := fun _ _ => ((Ext.refl No w).alloc _).alloc _
  have HXX := Lib.hid HX2; have HN := Lib.hid hn; have HN' := Lib.hid hn'; have HF := Lib.hid hf; have HF' := Lib.hid hf'
  unfold ansVal
  simp only
  clear hn hn' hf hf' HX2
  by_cases h : code = code'
  case neg =>
    have hd : (code == code') = false := by simpa using h
    go_enter Try.func22, Try.ntmps22
    go_wp2_with fail
    go_ret
    exact ⟨HXX.out _ _, false, rfl, by simp only [Bool.false_eq_true, false_iff]; intro e; exact h (congrArg AnsI.code e)⟩
  subst h
  by_cases h : done = done'
  case neg =>
    have hff : done' = !done := by cases done <;> cases done' <;> simp_all
    subst hff
    cases done
    all_goals
      go_enter Try.func22, Try.ntmps22
      go_wp2_with fail
      go_ret
      exact ⟨HXX.out _ _, false, rfl, by simp only [Bool.false_eq_true, false_iff]; intro e; have e := congrArg AnsI.done e; revert e; simp⟩
  subst h
  by_cases h : n = n'
  case neg =>
    have hd : (n == n') = false := by simpa using h
    cases done
    all_goals
      go_enter Try.func22, Try.ntmps22
      go_wp2_with fail
      go_ret
      exact ⟨HXX.out _ _, false, rfl, by simp only [Bool.false_eq_true, false_iff]; intro e; exact h (congrArg AnsI.n e)⟩
  subst h
  have hdd : (done == done) = true := by simp
  go_enter Try.func22, Try.ntmps22
  go_wp2_with fail
  obtain ⟨w0, hw0⟩ : ∃ w0, lay w [(#[.int .i64 code, .slice an nn cn, .slice af nf cf, .bool done, .int .i64 n], 52), (#[.int .i64 code, .slice an' nn' cn', .slice af' nf' cf', .bool done, .int .i64 n], 52)] = w0 := ⟨_, rfl⟩
  have hx0 : Ext No w w0 := by rw [← hw0]; exact lay_ext _ (Ext.refl _ _)
  have hb0 := lay_at hw0 0 _ _ rfl
  have hb1 := lay_at hw0 1 _ _ rfl
  rw [Nat.add_zero] at hb0
  simp only [lay] at hw0
  rw [hw0]
  have HX0 := Lib.hid hx0; have HB0 := Lib.hid hb0; have HB1 := Lib.hid hb1
  clear hw0 hx0 hb0 hb1
  refine (sameStrs_any names names' _ _ w0 (HN.out.ext0 HX0.out) (HN'.out.ext0 HX0.out)).mono ?_
  rintro e w1 ⟨rfl, hd1⟩
  have hc2 := HB0.out.cell 2; have hc3 := HB1.out.cell 2
  simp only [List.getElem?_toArray, List.getElem?_cons_zero, List.getElem?_cons_succ] at hc2 hc3
  rw [← hd1.cell] at hc2 hc3
  have HD1 := Lib.hid hd1; clear hd1
  by_cases hne : names = names'
  · rw [decide_eq_true hne]
    dsimp only
    go_wp2_with fail
    refine (same17_any files files' _ _ w1 ((HF.out.ext0 HX0.out).ext0 (HD1.out.ext No)) ((HF'.out.ext0 HX0.out).ext0 (HD1.out.ext No))).mono ?_
    rintro e w2 ⟨rfl, hd2⟩
    have HD2 := Lib.hid hd2; clear hd2
    generalize hdf : decide (files = files') = t
    have HDF := Lib.hid hdf; clear hdf
    dsimp only
    go_wp2_with fail
    go_ret
    refine ⟨(HX0.out.trans' (HD1.out.ext No)).trans' (HD2.out.ext No), t, rfl, ?_⟩
    rw [← HDF.out, decide_eq_true_eq, hne]
    constructor
    · intro h; rw [h]
    · intro h; exact congrArg AnsI.files h
  · rw [decide_eq_false hne]
    dsimp only
    go_wp2_with fail
    go_ret
    exact ⟨HX0.out.trans' (HD1.out.ext No), false, rfl, by simp only [Bool.false_eq_true, false_iff]; intro e; exact hne (congrArg AnsI.names e)⟩

end Go.Proofs.Ytchejnnfbinclaa
end

section
/- The contract of the documents' answer's Right. Printed by wip/mkright.py. -/
namespace Go.Proofs.Ytchejnnfbinclaa
open Go.RowKit Go.My

def RightP (a : AnsI) : Prop := 0 ≤ a.code ∧ a.code ≤ 65535 ∧ a.files.length ≤ 512 ∧ (∀ i, i < a.names.length → (a.names.getD i []).length ≤ 120) ∧ ∀ i, i < a.files.length → (a.files.getD i ([], [])).1.length ≤ 120 ∧ (a.files.getD i ([], [])).2.length ≤ 1048576

set_option maxRecDepth 100000 in
set_option maxHeartbeats 20000000 in
theorem rightR_any (code : Int) (names : List (List UInt8)) (files : List FileL) (done : Bool) (n : Int) (vn vf : Value) (w : World) (hn : IsStrs w names vn) (hf : IsFiles w files vf) :
    Calls Try.prog 33 #[ansVal ⟨code, names, files, done, n⟩ vn vf] w fun e w' => Ext No w w' ∧ ∃ t, e = .returned (.bool t) ∧ (t = true ↔ RightP ⟨code, names, files, done, n⟩) := by
  obtain ⟨af, nf, cf, hvf⟩ : ∃ a n c, vf = .slice a n c := by obtain ⟨a, c, h, -⟩ := hf; exact ⟨a, _, c, h⟩
  obtain ⟨an, nn, cn, hvn⟩ : ∃ a n c, vn = .slice a n c := by obtain ⟨a, c, h, -⟩ := hn; exact ⟨a, _, c, h⟩
  subst hvf; subst hvn
  have hnn := IsRow.len hn
  have hnf := hf.len
  have hnn2 := hnn.2; have hnf2 := hnf.2
  have HNN := Lib.hid hnn.1; have HNF := Lib.hid hnf.1
  have HX2 : ∀ cs : Array Value, Ext No w (w.alloc (.cells cs 52)) := fun _ => (Ext.refl No w).alloc _
  have HXX := Lib.hid HX2; have HN := Lib.hid hn; have HF := Lib.hid hf
  obtain ⟨P, hP⟩ : ∃ P, RightP ⟨code, names, files, done, n⟩ = P := ⟨_, rfl⟩
  rw [hP]
  have HP := Lib.hid hP
  unfold ansVal
  simp only
  clear hn hf HX2 hnn hnf hP
  have HNO := Lib.hid (show ∀ t : Bool, t = false → ¬ RightP ⟨code, names, files, done, n⟩ → (t = true ↔ P) from fun t h1 h2 => by rw [h1, ← HP.out]; simp only [Bool.false_eq_true, false_iff]; exact h2)
  by_cases h : code < 0
  · have hd : decide (code < 0) = true := by simpa using h
    go_enter Try.func33, Try.ntmps33
    go_wp2_with fail
    go_ret
    exact ⟨HXX.out _, false, rfl, HNO.out _ rfl (fun h => by have := h.1; dsimp only at this; omega)⟩
  have hd1 : decide (code < 0) = false := by simpa using h
  have h1 : 0 ≤ code := by omega
  clear h
  by_cases h : 65535 < code
  · have hd : decide (65535 < code) = true := by simpa using h
    go_enter Try.func33, Try.ntmps33
    go_wp2_with fail
    go_ret
    exact ⟨HXX.out _, false, rfl, HNO.out _ rfl (fun h => by have := h.2.1; dsimp only at this; omega)⟩
  have hd2 : decide (65535 < code) = false := by simpa using h
  have h2 : code ≤ 65535 := by omega
  clear h
  by_cases h : 512 < nf
  · have hd : (512 : Int) < nf := by omega
    go_enter Try.func33, Try.ntmps33
    go_wp2_with fail
    go_ret
    exact ⟨HXX.out _, false, rfl, HNO.out _ rfl (fun e => by have := e.2.2.1; dsimp only at this; have := HNF.out; omega)⟩
  have hd3 : decide ((512 : Int) < nf) = false := by simp; omega
  have h3 : nf ≤ 512 := by omega
  clear h
  go_enter Try.func33, Try.ntmps33
  go_wp2_with fail
  clear hd1 hd2 hd3
  obtain ⟨w0, hw0⟩ : ∃ w0, w.alloc (.cells #[.int .i64 code, .slice an nn cn, .slice af nf cf, .bool done, .int .i64 n] 52) = w0 := ⟨_, rfl⟩
  have hb0 := Blk.new w #[.int .i64 code, .slice an nn cn, .slice af nf cf, .bool done, .int .i64 n] 52
  have hx0 : Ext No w w0 := by rw [← hw0]; exact (Ext.refl No w).alloc _
  rw [hw0] at hb0 ⊢
  obtain ⟨pb, hpb⟩ : ∃ pb, w.heap.size = pb := ⟨_, rfl⟩
  rw [hpb] at hb0 ⊢
  have hc1 := hb0.cell 1; have hc2 := hb0.cell 2
  simp only [List.getElem?_toArray, List.getElem?_cons_zero, List.getElem?_cons_succ] at hc1 hc2
  have HX := Lib.hid hx0; have HN0 := Lib.hid (HN.out.ext0 hx0); have HF0 := Lib.hid (HF.out.ext0 hx0)
  clear hx0 hw0 hb0 hpb
  go_loopw [3] (fun i wr => ∃ k : Nat, i = .int .i64 k ∧ k ≤ nn ∧ wr = w0 ∧ ∀ j, j < k → (names.getD j []).length ≤ 120) (fun i _ => nn - (intOf i).toNat)
  case atStart => exact ⟨0, rfl, by omega, rfl, fun j hj => by omega⟩
  case round =>
    obtain ⟨k, rfl, hk, rfl, hall⟩ := hrel
    have HALL := Lib.hid hall; clear hall
    by_cases hlt : k < nn
    · have hltI : (k : Int) < nn := by omega
      obtain ⟨b, off, rfl, hcs⟩ := IsRow.get HN0.out k hlt
      unfold strV at hcs
      obtain ⟨x, hx⟩ : ∃ x, names.getD k [] = x := ⟨_, rfl⟩
      rw [hx] at hcs
      have HXE := Lib.hid hx; clear hx
      go_wp2_with fail
      refine (longR_any x _).mono ?_
      rintro e w' ⟨rfl, rfl⟩
      by_cases g : 120 < x.length
      · rw [decide_eq_true g]
        dsimp only
        go_wp2_with fail
        go_ret
        exact ⟨HX.out, false, rfl, HNO.out _ rfl (fun h => by have := h.2.2.2.1 k (by have := HNN.out; dsimp only; omega); dsimp only at this; rw [HXE.out] at this; omega)⟩
      · rw [decide_eq_false g]
        dsimp only
        go_wp2_with fail
        go_roundw
        case rel => exact ⟨k + 1, by go_num, by omega, by trivial, fun j hj => by
          by_cases hjk : j = k
          · subst hjk; rw [HXE.out]; omega
          · exact HALL.out j (by omega)⟩
        case measure => simp [intOf]; omega
    · have hkn : k = nn := by omega
      subst hkn
      go_wp2_with fail
      go_loopw [4] (fun i w2 => ∃ q : Nat, i = .int .i64 q ∧ q ≤ nf ∧ w2 = wr ∧ ∀ j, j < q → (files.getD j ([], [])).1.length ≤ 120 ∧ (files.getD j ([], [])).2.length ≤ 1048576) (fun i _ => nf - (intOf i).toNat)
      case atStart => exact ⟨0, rfl, by omega, rfl, fun j hj => by omega⟩
      case round =>
        obtain ⟨q, rfl, hq, rfl, hall⟩ := hrel
        have HALL2 := Lib.hid hall; clear hall
        by_cases hlt : q < nf
        · have hltI : (q : Int) < nf := by omega
          obtain ⟨b, off, ax, nx, cx, rfl, hp, hd, -, -, hnx⟩ := HF0.out.get q hlt
          obtain ⟨f, hff⟩ : ∃ f, files.getD q ([], []) = f := ⟨_, rfl⟩
          rw [hff] at hp hnx
          obtain ⟨path, data⟩ := f
          simp only at hp hnx
          have HFE := Lib.hid hff; have HNX := Lib.hid hnx; clear hff hnx
          go_wp2_with fail
          refine (longR_any path _).mono ?_
          rintro e w' ⟨rfl, rfl⟩
          by_cases g : 120 < path.length
          · rw [decide_eq_true g]
            dsimp only
            go_wp2_with fail
            go_ret
            exact ⟨HX.out, false, rfl, HNO.out _ rfl (fun h => by have := (h.2.2.2.2 q (by have := HNF.out; dsimp only; omega)).1; dsimp only at this; rw [HFE.out] at this; dsimp only at this; omega)⟩
          rw [decide_eq_false g]
          by_cases g2 : 1048576 < nx
          · have g2i : (1048576 : Int) < nx := by omega
            dsimp only
            go_wp2_with fail
            go_ret
            exact ⟨HX.out, false, rfl, HNO.out _ rfl (fun h => by have := (h.2.2.2.2 q (by have := HNF.out; dsimp only; omega)).2; dsimp only at this; rw [HFE.out] at this; dsimp only at this; have := HNX.out; omega)⟩
          have g2i : decide ((1048576 : Int) < nx) = false := by simp; omega
          dsimp only
          go_wp2_with fail
          go_roundw
          case rel => exact ⟨q + 1, by go_num, by omega, by trivial, fun j hj => by
            by_cases hjk : j = q
            · subst hjk; rw [HFE.out]; have := HNX.out; dsimp only; omega
            · exact HALL2.out j (by omega)⟩
          case measure => simp [intOf]; omega
        · have hqn : q = nf := by omega
          subst hqn
          go_wp2_with fail
          go_ret
          refine ⟨HX.out, true, rfl, ?_⟩
          rw [← HP.out]
          simp only [true_iff]
          exact ⟨h1, h2, by dsimp only; have := HNF.out; omega, fun i hi => HALL.out i (by have := HNN.out; dsimp only at hi; omega), fun i hi => HALL2.out i (by have := HNF.out; dsimp only at hi; omega)⟩

end Go.Proofs.Ytchejnnfbinclaa
end
