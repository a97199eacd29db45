/- The contracts of the document's answer: power, First, Right. -/
import Derived.Test.YtceiahjhfbghpaaChunkF
import Derived.Test.YtceiahjhfbghpaaRolC
namespace Go.Proofs.Ytceiahjhfbghpaa
open Go.RowKit Go.My

attribute [local go_sem] w64_self w32_self

set_option maxRecDepth 100000 in
set_option maxHeartbeats 1000000 in
theorem power_any (n : Nat) (w : World) (hn : n ≤ 20) :
    Calls Try.prog 25 #[.int .i64 n] w fun e w' => e = .returned (.int .u32 ((2 ^ n : Nat) : Int)) ∧ w = w' := by
  go_enter Try.func25, Try.ntmps25
  have HN := Lib.hid hn; clear hn
  go_wp2_with fail
  go_loop [3, 4] (fun p i => ∃ k q : Nat, k ≤ n ∧ q = 2 ^ k ∧ p = .int .u32 q ∧ i = .int .i64 k) (fun _ i => n - (intOf i).toNat)
  case atStart => exact ⟨0, 1, by omega, rfl, rfl, rfl⟩
  case round =>
    obtain ⟨k, q, hk, hq, rfl, rfl⟩ := hrel
    have hq2 : q ≤ 2 ^ 20 := by rw [hq]; exact Nat.pow_le_pow_right (by decide) (by have := HN.out; omega)
    have hn := HN.out
    by_cases hlt : k < n
    · have HQ := Lib.hid hq; clear hq
      go_wp2_with fail
      go_round
      case rel => exact ⟨k + 1, 2 * q, by omega, by rw [HQ.out, Nat.pow_succ]; omega, by go_num, by go_num⟩
      case measure => simp [intOf]; omega
    · have : k = n := by omega
      subst this
      have HQ := Lib.hid hq; clear hq
      go_wp2_with fail
      go_ret
      rw [HQ.out]
      exact ⟨rfl, rfl⟩


/-- what Last hands back -/
def lastV (b off m cap n : Nat) : Value := if n < m then .slice (some ⟨b, off + (m - n), none⟩) (m - (m - n)) (cap - (m - n)) else .slice (some ⟨b, off, none⟩) m cap
theorem last_bytes (l : List UInt8) (b off m cap n : Nat) (w : World) (hv : IsBytes w l (.slice (some ⟨b, off, none⟩) m cap)) : IsBytes w (Roll.lastN n l) (lastV b off m cap n) := by
  have hm := hv.len
  unfold lastV
  split
  · unfold Roll.lastN
    rw [← hm]
    exact hv.drop (m - n) (by omega)
  · rw [Roll.lastN_short n l (by omega)]; exact hv
set_option maxRecDepth 100000 in
set_option maxHeartbeats 400000 in
theorem last_q (b off m cap n : Nat) (w : World) (h1 : 1 ≤ n) (hn : n ≤ 64) (hmc : m ≤ cap) (hc : cap ≤ 9223372036854775807) :
    Calls Try.prog 24 #[.slice (some ⟨b, off, none⟩) m cap, .int .i64 n] w fun e w' => e = .returned (lastV b off m cap n) ∧ w = w' := by
  by_cases hlt : n < m
  · have hl : lastV b off m cap n = .slice (some ⟨b, off + (m - n), none⟩) (m - (m - n)) (cap - (m - n)) := by unfold lastV; rw [if_pos hlt]
    have HLV := Lib.hid hl; clear hl
    go_enter Try.func24, Try.ntmps24
    go_wp2
    go_ret
    rw [HLV.out]
    exact ⟨rfl, rfl⟩
  · have hl : lastV b off m cap n = .slice (some ⟨b, off, none⟩) m cap := by unfold lastV; rw [if_neg hlt]
    have HLV := Lib.hid hl; clear hl
    go_enter Try.func24, Try.ntmps24
    go_wp2
    go_ret
    rw [HLV.out]
    exact ⟨rfl, rfl⟩

theorem take8 (a : Option Addr) (k len cap : Nat) (hk : k ≤ cap) (w : World) : (Instr.sliceAt 25 (.slice a len cap) none (some (.int .i64 k)) none).run Try.prog w = .ok (.slice a k cap) w :=
  run_takeS Try.underlying25 size8 a .i64 k len cap hk w
theorem take8s (a : Option Addr) (k len cap : Nat) (hk : k + 1 ≤ cap) (w : World) : (Instr.sliceAt 25 (.slice a len cap) none (some (.int .i64 ((k : Int) + 1))) none).run Try.prog w = .ok (.slice a (k + 1) cap) w := take8 a (k + 1) len cap hk w
attribute [local go_sem] take8 take8s
def mdv (x : BitVec 32) (q : Nat) : Int := ((x.toNat % q : Nat) : Int)
theorem mdv_def (x : BitVec 32) (q : Nat) : mdv x q = ((x.toNat % q : Nat) : Int) := rfl
theorem tmod_mdv (x : BitVec 32) (q : Nat) : (w32 x).tmod (q : Int) = mdv x q := by rw [w32_def]; rfl
attribute [irreducible] mdv
attribute [local go_sem] tmod_mdv
theorem power_q (n q : Nat) (w : World) (hn : n ≤ 20) (hq : q = 2 ^ n) :
    Calls Try.prog 25 #[.int .i64 n] w fun e w' => e = .returned (.int .u32 q) ∧ w = w' := by subst hq; exact power_any n w hn
theorem drewIs {w : World} {l : List UInt8} {v : Value} (h : IsBytes w l v) : IsBytes w.drew l v := h.ext0 (Ext.refl No w).drew

set_option maxRecDepth 100000 in
set_option maxHeartbeats 4000000 in
theorem refFirst_any (p : Prm) (hp : p.Ok) (l : List UInt8) (v : Value) (w : World) (hv : IsBytes w l v) (hl : l.length ≤ 1099511627776) :
    Calls Try.prog 19 #[prmVal p.mn p.mx p.bt p.wd p.sd, v] w fun e w' => e = .returned (.int .i64 (firstLen p l)) ∧ Ext No w w' := by
  obtain ⟨m, hm⟩ : ∃ m, m = l.length := ⟨_, rfl⟩
  have HV := Lib.hid hv
  obtain ⟨a, cap, rfl, hc1, hc2, -⟩ := hv
  rw [← hm] at hc1 hl HV ⊢
  have HM := Lib.hid hm; have HP := Lib.hid hp; have HL := Lib.hid hl; clear hm hp hl
  obtain ⟨w0, hw0⟩ : ∃ w0, lay w [(#[.int .i64 p.mn, .int .i64 p.mx, .int .i64 p.bt, .int .i64 p.wd, .int .u64 (w64 p.sd)], 31)] = w0 := ⟨_, rfl⟩
  have hx : Ext No w w0 := by rw [← hw0]; exact lay_ext _ (Ext.refl _ _)
  have hb := lay_at hw0 0 _ _ rfl
  rw [Nat.add_zero] at hb
  have hd0 := hb.cell 0; have hd1 := hb.cell 1; have hd2 := hb.cell 2; have hd3 := hb.cell 3; have hd4 := hb.cell 4
  simp only [List.getElem?_toArray, List.getElem?_cons_succ, List.getElem?_cons_zero] at hd0 hd1 hd2 hd3 hd4
  simp only [lay] at hw0
  have HW0 := Lib.hid hw0; have HX := Lib.hid hx; have HD := Lib.hid (And.intro hd0 (And.intro hd1 (And.intro hd2 (And.intro hd3 hd4)))); clear hw0 hx hb hd0 hd1 hd2 hd3 hd4
  unfold prmVal
  go_enter Try.func19, Try.ntmps19
  go_wp2_with fail
  rw [HW0.out]; clear HW0
  have hv0 := HV.out.ext0 HX.out
  have HV0 := Lib.hid hv0; clear hv0 HV
  generalize w.heap.size = pb at *
  go_loopw [5] (fun i wr => ∃ k : Nat, i = .int .i64 ((k : Int) + 1) ∧ k < p.mx ∧ k ≤ m ∧ Dr w0 wr ∧ firstLen p l = scan (endAt p l) k (min m p.mx - k)) (fun i _ => m + 1 - (intOf i).toNat)
  case atStart => exact ⟨0, rfl, by have := HP.out.mn; have := HP.out.mx; omega, by omega, Dr.refl _, by rw [HM.out]; rfl⟩
  case round =>
    obtain ⟨k, rfl, hkx, hkm, hdr, hs⟩ := hrel
    obtain ⟨hd0, hd1, hd2, hd3, hd4⟩ := HD.out
    have hml := HL.out
    rw [← hdr.cell] at hd0 hd1 hd2 hd3 hd4
    have hv := HV0.out.ext0 (hdr.ext No)
    have HVr := Lib.hid hv; have HS := Lib.hid hs; have HDr := Lib.hid hdr; clear hv hs hdr
    by_cases hlt : k < m
    · have hb1 : decide ((k : Int) + 1 ≤ m) = true := by simp; omega
      by_cases hmx : k + 1 = p.mx
      · have hmi : (k : Int) + 1 = (p.mx : Int) := by omega
        have hres : firstLen p l = k + 1 := by
          rw [HS.out, show min m p.mx - k = 1 by omega]
          have h1 := scan_le (endAt p l) k 1
          have h2 := scan_pos (endAt p l) k 1 (by omega)
          omega
        have HRES := Lib.hid hres; clear hres
        go_wp2_with fail
        go_ret
        rw [HRES.out]
        exact ⟨by go_num, HX.out.trans' (HDr.out.ext No)⟩
      · have hmi : ((k : Int) + 1 == (p.mx : Int)) = false := by simp; omega
        have hmi2 : ¬ ((k : Int) + 1 = (p.mx : Int)) := by omega
        go_wp2_with fail
        have hb : IsBytes wr (l.take (k + 1)) (.slice a (k + 1) cap) := HVr.out.take (k + 1) (by omega)
        have HB := Lib.hid hb
        have HBT := Lib.hid (show p.bt ≤ 20 from HP.out.bt); have HWD := Lib.hid (show 1 ≤ p.wd ∧ p.wd ≤ 64 from ⟨HP.out.wd, HP.out.wd2⟩)
        have hkc : k + 1 ≤ cap := by omega
        clear hb
        obtain ⟨q, hq⟩ : ∃ q, q = 2 ^ p.bt := ⟨_, rfl⟩
        have hq0 : 0 < q := by rw [hq]; exact Nat.pos_of_ne_zero (by simp)
        have hq1 : q ≠ 0 := by omega
        have HQ := Lib.hid hq; clear hq
        by_cases hmn : p.mn ≤ k + 1
        · have hb2 : decide ((p.mn : Int) ≤ (k : Int) + 1) = true := by simp; omega
          obtain ⟨b, off, rfl, -⟩ := IsRow.get HB.out 0 (by omega)
          generalize hlv : lastV b off (k + 1) cap p.wd = lv
          have hlb : IsBytes wr (Roll.lastN p.wd (l.take (k + 1))) lv := by rw [← hlv]; exact last_bytes _ b off (k + 1) cap p.wd wr HB.out
          have hq1 : ∀ j, Calls Try.prog 24 #[.slice (some ⟨b, off, none⟩) (k + 1) cap, .int .i64 p.wd] (wr.drewN j) fun e w'' => e = .returned lv ∧ ∃ i, w'' = wr.drewN i := fun j => by
            rw [← hlv]; exact quiet_of_eq (last_q b off (k + 1) cap p.wd _ HWD.out.1 HWD.out.2 hkc hc2)
          have hq2 : ∀ j, Calls Try.prog 23 #[.int .u64 (w64 p.sd), lv] (wr.drewN j) fun e w'' => e = .returned (.int .u32 (w32 (rollTo p.sd (Roll.lastN p.wd (l.take (k + 1)))))) ∧ ∃ i, w'' = wr.drewN i := fun j =>
            quiet_of_eq (refSum_v p.sd _ lv _ (hlb.ext0 ((Dr.mk _ _).ext No)))
          have hq3 : ∀ j, Calls Try.prog 25 #[.int .i64 p.bt] (wr.drewN j) fun e w'' => e = .returned (.int .u32 q) ∧ ∃ i, w'' = wr.drewN i := fun j => quiet_of_eq (power_q p.bt q _ HBT.out HQ.out)
          generalize hz : rollTo p.sd (Roll.lastN p.wd (l.take (k + 1))) = z at *
          have HQ1 := Lib.hid hq1; have HQ2 := Lib.hid hq2; have HQ3 := Lib.hid hq3; have HZ := Lib.hid hz
          clear hq1 hq2 hq3 hlb hlv hz
          go_quiet ((first | (go_at_call 24; exact HQ1.out _) | (go_at_call 23; exact HQ2.out _) | (go_at_call 25; exact HQ3.out _)))
          by_cases hz0 : z.toNat % q = 0
          · have hmd : mdv z q = 0 := by rw [mdv_def, hz0]; rfl
            have hres : firstLen p l = k + 1 := by
              rw [HS.out]
              refine scan_yes _ _ _ ?_ (by omega)
              unfold endAt
              rw [HZ.out, ← HQ.out, hz0]
              simpa using hmn
            have HRES := Lib.hid hres; clear hres hz0
            go_wp2_with fail
            go_ret
            rw [HRES.out]
            exact ⟨by go_num, HX.out.trans' (HDr.out.ext No) |>.drewN _⟩
          · have hmd : (mdv z q == 0) = false := by rw [mdv_def]; simp; omega
            have hmd2 : ¬ (mdv z q = 0) := by rw [mdv_def]; omega
            have hres : firstLen p l = scan (endAt p l) (k + 1) (min m p.mx - (k + 1)) := by
              rw [HS.out, scan_no _ _ _ ?_ (by omega), show min m p.mx - k - 1 = min m p.mx - (k + 1) by omega]
              unfold endAt
              rw [HZ.out, ← HQ.out]
              simp [hz0]
            have HRES := Lib.hid hres; clear hres hz0
            go_wp2_with fail
            go_roundw
            case rel => exact ⟨k + 1, by go_num, by omega, by omega, HDr.out.more _, HRES.out⟩
            case measure => simp [intOf]; omega
        · have hb2 : decide ((p.mn : Int) ≤ (k : Int) + 1) = false := by simp; omega
          have hres : firstLen p l = scan (endAt p l) (k + 1) (min m p.mx - (k + 1)) := by
            rw [HS.out, scan_no _ _ _ ?_ (by omega), show min m p.mx - k - 1 = min m p.mx - (k + 1) by omega]
            unfold endAt
            simp [hmn]
          have HRES := Lib.hid hres; clear hres
          go_quiet (fail)
          go_wp2_with fail
          go_roundw
          case rel => exact ⟨k + 1, by go_num, by omega, by omega, HDr.out.more _, HRES.out⟩
          case measure => simp [intOf]; omega
    · have hkm' : k = m := by omega
      subst hkm'
      have hb1 : decide ((k : Int) + 1 ≤ k) = false := by simp; omega
      have hres : firstLen p l = k := by rw [HS.out, show min k p.mx - k = 0 by omega]; rfl
      have HRES := Lib.hid hres; clear hres
      go_wp2_with fail
      go_ret
      rw [HRES.out]
      exact ⟨rfl, HX.out.trans' (HDr.out.ext No)⟩

end Go.Proofs.Ytceiahjhfbghpaa
