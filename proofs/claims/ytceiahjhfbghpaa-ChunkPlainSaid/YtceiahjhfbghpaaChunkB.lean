/- The contract of chunk.First. -/
import Derived.Test.YtceiahjhfbghpaaChunkA
namespace Go.Proofs.Ytceiahjhfbghpaa
open Go.RowKit Go.My

attribute [local go_sem] w64_xor w64_add w64_mul w32_xor w32_and w32_self w64_self

/-- what the chunker has pushed -/
structure Run1 (w wr : World) (cb wb lb tb : Nat) (p : Prm) (l : List UInt8) (st : WS) : Prop where
  chk : Chk wr cb wb lb tb p st
  ext : Ext (fun k => k = wb ∨ k = lb) w wr
  good : Roll.Good (fun c => mixN p.sd c.toNat) p.wd l st.buf st.pos st.full st.sum

theorem Chk.ext {w w' : World} {cb wb lb tb : Nat} {p : Prm} {st : WS} {S : Nat → Prop} (h : Chk w cb wb lb tb p st) (x : Ext S w w') (h1 : ¬ S cb) (h2 : ¬ S wb) (h3 : ¬ S lb) (h4 : ¬ S tb) : Chk w' cb wb lb tb p st :=
  ⟨h.head.ext x h1, h.win.ext x h2 h3, h.tab.ext x h4, h.buf⟩
theorem Chk.ne {w : World} {cb wb lb tb : Nat} {p : Prm} {st : WS} (h : Chk w cb wb lb tb p st) : cb ≠ wb ∧ cb ≠ lb :=
  ⟨Blk.ne_type h.head h.win.head (by decide), Blk.ne_type h.head h.win.row (by decide)⟩
theorem Chk.step {w w' : World} {cb wb lb tb : Nat} {p : Prm} {st st' : WS} (h : Chk w cb wb lb tb p st) (x : Ext (fun k => k = wb ∨ k = lb) w w') (hw : Win w' wb lb tb st') (hb : st'.buf.length = st.buf.length) : Chk w' cb wb lb tb p st' := by
  have h1 := h.ne
  have h2 := Tab.ne_win h.win h.tab
  exact ⟨h.head.ext x (by omega), hw, h.tab.ext x (by omega), by rw [hb]; exact h.buf⟩
theorem Run1.push {w wr w2 : World} {cb wb lb tb : Nat} {p : Prm} {l : List UInt8} {st : WS} (h : Run1 w wr cb wb lb tb p l st) (hn : 0 < p.wd) (c : UInt8)
    (hw : Win w2 wb lb tb (st.push p.sd c)) (he : Ext (fun k => k = wb ∨ k = lb) wr w2) : Run1 w w2 cb wb lb tb p (l ++ [c]) (st.push p.sd c) where
  chk := h.chk.step he hw (by simp [WS.push])
  ext := h.ext.trans' he
  good := by
    have g := h.good.push (fun c => mixN p.sd c.toNat) hn c
    have hl := h.good.len
    unfold WS.push WS.sum2 WS.sum1
    rw [hl]; exact g

theorem and_mask (x : BitVec 32) (b : Nat) (hb : b ≤ 20) : (w32 (x &&& maskW b) == 0) = decide (x.toNat % 2 ^ b = 0) := by
  have := mask_nat x b hb
  unfold maskW
  rw [Bool.eq_iff_iff, beq_iff_eq, decide_eq_true_eq, w32_def, this]
  omega

set_option maxRecDepth 100000 in
set_option maxHeartbeats 8000000 in
theorem first_any (cb wb lb tb : Nat) (p : Prm) (hp : p.Ok) (st : WS) (l : List UInt8) (v : Value) (w : World) (hc : Chk w cb wb lb tb p st) (hv : IsBytes w l v) (hm : l.length ≤ 9223372036854775807)
    (hvb : ∀ k, v.ownBlock = some k → 0 < l.length → k ≠ wb ∧ k ≠ lb) :
    Calls Try.prog 14 #[.pointer (some ⟨cb, 0, none⟩), v] w fun e w' => ∃ st', e = .returned (.int .i64 (firstLen p l)) ∧ Chk w' cb wb lb tb p st' ∧ Ext (fun k => k = wb ∨ k = lb) w w' := by
  have HV := Lib.hid hv
  obtain ⟨m, hm'⟩ : ∃ m, m = l.length := ⟨_, rfl⟩
  obtain ⟨a, cap, rfl, hc1, hc2, -⟩ := hv
  rw [← hm'] at hc1 hm hvb ⊢
  have HM := Lib.hid hm'; have HVB := Lib.hid hvb; clear hm' hvb
  have hc5 := hc.head.cell 5
  have hc1' := hc.head.cell 1
  simp only [List.getElem?_toArray, List.getElem?_cons_succ, List.getElem?_cons_zero] at hc5 hc1'
  have HC := Lib.hid hc; clear hc
  have HP := Lib.hid hp; clear hp
  go_enter Try.func14, Try.ntmps14
  go_wp2_with fail
  refine (reset_any wb lb tb st w HC.out.win).mono ?_
  rintro e w1 ⟨rfl, hw1, hx1⟩
  have hk1 : Chk w1 cb wb lb tb p { st with pos := 0, full := false, sum := 0#32 } := HC.out.step hx1 hw1 rfl
  have hr1 : Run1 w w1 cb wb lb tb p [] { st with pos := 0, full := false, sum := 0#32 } := ⟨hk1, hx1, Roll.Good.start _ p.wd HP.out.wd _ HC.out.buf⟩
  have hd1 := hk1.head.cell 1
  simp only [List.getElem?_toArray, List.getElem?_cons_succ, List.getElem?_cons_zero] at hd1
  have HR1 := Lib.hid hr1; clear hr1 hk1 hx1 hw1 hc5 hc1'
  by_cases hmx : m ≤ p.mx
  · have HMX := Lib.hid hmx
    have hMm : m ≤ m := by omega
    have hfl : firstLen p l = scan (endAt p l) 0 m := by unfold firstLen; rw [← HM.out, show min m p.mx = m by omega]
    have HMm := Lib.hid hMm; have HFL := Lib.hid hfl; clear hfl
    have hMc : m ≤ cap := by omega
    go_wp2_with fail
    clear hd1
    go_loopw [5, 6, 7, 24] (fun _ _ _ i wr => ∃ (k : Nat) (st' : WS), k ≤ m ∧ i = .int .i64 k ∧ Run1 w wr cb wb lb tb p (l.take k) st' ∧ firstLen p l = scan (endAt p l) k (m - k)) (fun _ _ _ i _ => m - (intOf i).toNat)
    case atStart => exact ⟨0, _, by omega, rfl, by rw [List.take_zero]; exact HR1.out, HFL.out⟩
    case round =>
      clear HR1
      obtain ⟨k, st', hk, rfl, hr, hs⟩ := hrel
      have HR := Lib.hid hr; have HS := Lib.hid hs; clear hr hs
      have hd5 := HR.out.chk.head.cell 5
      have hd1 := HR.out.chk.head.cell 1
      simp only [List.getElem?_toArray, List.getElem?_cons_succ, List.getElem?_cons_zero] at hd5 hd1
      by_cases hlt : k < m
      · have hbk := HV.out.extP HR.out.ext (by intro h0 j hj h; have := HVB.out j (by rw [HM.out]; exact hj) (by rw [HM.out]; exact h0); omega)
        rw [← HM.out] at hbk
        obtain ⟨b1, off, rfl, hcc⟩ := hbk.get k (by omega)
        clear hbk
        rw [show byt l k = .int .u8 ((l.getD k 0).toNat : Int) from rfl] at hcc
        generalize hg : l.getD k 0 = x at *
        have HG := Lib.hid hg; clear hg
        have HCC := Lib.hid (show k + 1 ≤ 9223372036854775807 by omega)
        go_wp2_with fail
        refine (push_any p.sd wb lb tb st' x wr HR.out.chk.win HR.out.chk.tab).mono ?_
        rintro e w2 ⟨he, hw2, hx2⟩
        subst he
        have hnew := HR.out.push HP.out.wd x hw2 hx2
        rw [show l.take k ++ [x] = l.take (k + 1) by rw [take_snoc' l k (by rw [← HM.out]; omega), HG.out]] at hnew
        have hsum : endAt p l (k + 1) = (decide (p.mn ≤ k + 1) && (w32 ((st'.push p.sd x).sum &&& maskW p.bt) == 0)) := by
          unfold endAt; rw [and_mask _ _ HP.out.bt, hnew.good.sum, ← rollTo_H]
        generalize (st'.push p.sd x).sum = sm at *
        clear hd5 hd1 hcc hw2 hx2
        have hd6 := hnew.chk.head.cell 6
        have hd0 := hnew.chk.head.cell 0
        have hd1 := hnew.chk.head.cell 1
        simp only [List.getElem?_toArray, List.getElem?_cons_succ, List.getElem?_cons_zero] at hd6 hd0 hd1
        have HN := Lib.hid hnew; have HSM := Lib.hid hsum; clear hnew hsum HR
        by_cases hmn : p.mn ≤ k + 1
        · have hb1 : decide ((p.mn : Int) ≤ (k : Int) + 1) = true := by simp; omega
          by_cases hz : (w32 (sm &&& maskW p.bt) == 0) = true
          · have hres : firstLen p l = k + 1 := by rw [HS.out]; exact scan_yes _ _ _ (by rw [HSM.out, hz]; simpa using hmn) (by omega)
            have HRES := Lib.hid hres; clear hres
            go_wp2_with fail
            go_ret
            rw [HRES.out]
            exact ⟨_, rfl, HN.out.chk, HN.out.ext⟩
          · have hz' : (w32 (sm &&& maskW p.bt) == 0) = false := by simpa using hz
            have hres : firstLen p l = scan (endAt p l) (k + 1) (m - (k + 1)) := by rw [HS.out, scan_no _ _ _ (by rw [HSM.out, hz']; simp) (by omega), show m - k - 1 = m - (k + 1) by omega]
            have HRES := Lib.hid hres; clear hres hz
            go_wp2_with fail
            go_roundw
            case rel => exact ⟨k + 1, _, by omega, by go_num, HN.out, HRES.out⟩
            case measure => simp [intOf]; omega
        · have hb1 : decide ((p.mn : Int) ≤ (k : Int) + 1) = false := by simp; omega
          have hres : firstLen p l = scan (endAt p l) (k + 1) (m - (k + 1)) := by rw [HS.out, scan_no _ _ _ (by rw [HSM.out]; simp [hmn]) (by omega), show m - k - 1 = m - (k + 1) by omega]
          have HRES := Lib.hid hres; clear hres
          go_wp2_with fail
          go_roundw
          case rel => exact ⟨k + 1, _, by omega, by go_num, HN.out, HRES.out⟩
          case measure => simp [intOf]; omega
      · have hkm : k = m := by omega
        subst k
        have hres : firstLen p l = m := by rw [HS.out, Nat.sub_self]; rfl
        have HRES := Lib.hid hres; clear hres
        go_wp2_with fail
        go_ret
        rw [HRES.out]
        exact ⟨_, rfl, HR.out.chk, HR.out.ext⟩
  · have hmx2 : p.mx ≤ m := by omega
    have hmx3 : decide ((m : Int) ≤ p.mx) = false := by simp; omega
    have hMm : p.mx ≤ m := by omega
    have hfl : firstLen p l = scan (endAt p l) 0 p.mx := by unfold firstLen; rw [← HM.out, show min m p.mx = p.mx by omega]
    have HMm := Lib.hid hMm; have HFL := Lib.hid hfl; clear hfl
    have hMc : p.mx ≤ cap := by omega
    go_wp2_with fail
    clear hd1
    go_loopw [5, 6, 7, 24] (fun _ _ _ i wr => ∃ (k : Nat) (st' : WS), k ≤ p.mx ∧ i = .int .i64 k ∧ Run1 w wr cb wb lb tb p (l.take k) st' ∧ firstLen p l = scan (endAt p l) k (p.mx - k)) (fun _ _ _ i _ => p.mx - (intOf i).toNat)
    case atStart => exact ⟨0, _, by omega, rfl, by rw [List.take_zero]; exact HR1.out, HFL.out⟩
    case round =>
      clear HR1
      obtain ⟨k, st', hk, rfl, hr, hs⟩ := hrel
      have HR := Lib.hid hr; have HS := Lib.hid hs; clear hr hs
      have hd5 := HR.out.chk.head.cell 5
      have hd1 := HR.out.chk.head.cell 1
      simp only [List.getElem?_toArray, List.getElem?_cons_succ, List.getElem?_cons_zero] at hd5 hd1
      by_cases hlt : k < p.mx
      · have hbk := HV.out.extP HR.out.ext (by intro h0 j hj h; have := HVB.out j (by rw [HM.out]; exact hj) (by rw [HM.out]; exact h0); omega)
        rw [← HM.out] at hbk
        obtain ⟨b1, off, rfl, hcc⟩ := hbk.get k (by omega)
        clear hbk
        rw [show byt l k = .int .u8 ((l.getD k 0).toNat : Int) from rfl] at hcc
        generalize hg : l.getD k 0 = x at *
        have HG := Lib.hid hg; clear hg
        have HCC := Lib.hid (show k + 1 ≤ 9223372036854775807 by omega)
        go_wp2_with fail
        refine (push_any p.sd wb lb tb st' x wr HR.out.chk.win HR.out.chk.tab).mono ?_
        rintro e w2 ⟨he, hw2, hx2⟩
        subst he
        have hnew := HR.out.push HP.out.wd x hw2 hx2
        rw [show l.take k ++ [x] = l.take (k + 1) by rw [take_snoc' l k (by rw [← HM.out]; omega), HG.out]] at hnew
        have hsum : endAt p l (k + 1) = (decide (p.mn ≤ k + 1) && (w32 ((st'.push p.sd x).sum &&& maskW p.bt) == 0)) := by
          unfold endAt; rw [and_mask _ _ HP.out.bt, hnew.good.sum, ← rollTo_H]
        generalize (st'.push p.sd x).sum = sm at *
        clear hd5 hd1 hcc hw2 hx2
        have hd6 := hnew.chk.head.cell 6
        have hd0 := hnew.chk.head.cell 0
        have hd1 := hnew.chk.head.cell 1
        simp only [List.getElem?_toArray, List.getElem?_cons_succ, List.getElem?_cons_zero] at hd6 hd0 hd1
        have HN := Lib.hid hnew; have HSM := Lib.hid hsum; clear hnew hsum HR
        by_cases hmn : p.mn ≤ k + 1
        · have hb1 : decide ((p.mn : Int) ≤ (k : Int) + 1) = true := by simp; omega
          by_cases hz : (w32 (sm &&& maskW p.bt) == 0) = true
          · have hres : firstLen p l = k + 1 := by rw [HS.out]; exact scan_yes _ _ _ (by rw [HSM.out, hz]; simpa using hmn) (by omega)
            have HRES := Lib.hid hres; clear hres
            go_wp2_with fail
            go_ret
            rw [HRES.out]
            exact ⟨_, rfl, HN.out.chk, HN.out.ext⟩
          · have hz' : (w32 (sm &&& maskW p.bt) == 0) = false := by simpa using hz
            have hres : firstLen p l = scan (endAt p l) (k + 1) (p.mx - (k + 1)) := by rw [HS.out, scan_no _ _ _ (by rw [HSM.out, hz']; simp) (by omega), show p.mx - k - 1 = p.mx - (k + 1) by omega]
            have HRES := Lib.hid hres; clear hres hz
            go_wp2_with fail
            go_roundw
            case rel => exact ⟨k + 1, _, by omega, by go_num, HN.out, HRES.out⟩
            case measure => simp [intOf]; omega
        · have hb1 : decide ((p.mn : Int) ≤ (k : Int) + 1) = false := by simp; omega
          have hres : firstLen p l = scan (endAt p l) (k + 1) (p.mx - (k + 1)) := by rw [HS.out, scan_no _ _ _ (by rw [HSM.out]; simp [hmn]) (by omega), show p.mx - k - 1 = p.mx - (k + 1) by omega]
          have HRES := Lib.hid hres; clear hres
          go_wp2_with fail
          go_roundw
          case rel => exact ⟨k + 1, _, by omega, by go_num, HN.out, HRES.out⟩
          case measure => simp [intOf]; omega
      · have hkm : k = p.mx := by omega
        subst k
        have hres : firstLen p l = p.mx := by rw [HS.out, Nat.sub_self]; rfl
        have HRES := Lib.hid hres; clear hres
        go_wp2_with fail
        go_ret
        rw [HRES.out]
        exact ⟨_, rfl, HR.out.chk, HR.out.ext⟩

end Go.Proofs.Ytceiahjhfbghpaa
