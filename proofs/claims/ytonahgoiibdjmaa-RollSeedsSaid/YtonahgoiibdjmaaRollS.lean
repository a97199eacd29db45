/- The walk of coldstorelaw08.RollSeeds. -/
import Derived.Test.YtonahgoiibdjmaaRollG
import Derived.Deep.RegionLaw
namespace Go.Proofs.Ytonahgoiibdjmaa
open Go.RowKit Go.My

set_option maxRecDepth 100000 in
set_option maxHeartbeats 1000000 in
theorem seeds_some (s : BitVec 64) (l : List UInt8) (v : Value) (n : Int) (w : World) (hv : IsBytes w l v) (hl : l.length ≤ 64) :
    Calls Try.prog 6 #[.int .u64 (w64 s), v, .int .i64 n] w fun e w' => e = .returned (.bool true) ∧ Ext No w w' := by
  have HV := Lib.hid hv
  obtain ⟨a, cap, rfl, hc1, hc2, -⟩ := hv
  obtain ⟨m, hm⟩ : ∃ m, m = l.length := ⟨_, rfl⟩
  rw [← hm] at hc1 hl HV ⊢
  have HM := Lib.hid hm; clear hm
  go_enter Try.func6, Try.ntmps6
  go_wp2_with fail
  refine (alive_any w).mono ?_
  rintro e w1 ⟨rfl, he1⟩
  have HE1 := Lib.hid he1; clear he1
  go_wp2_with fail
  refine (make_any s w1).mono ?_
  rintro e w2 ⟨rfl, hw2⟩
  have ht2 : Tab w2 w1.heap.size s := by rw [hw2]; exact Tab.mk
  have he2 : Ext No w w2 := HE1.out.trans' (by rw [hw2]; exact (Ext.refl No w1).alloc _)
  clear hw2 HE1
  generalize w1.heap.size = xb at *
  have HT2 := Lib.hid ht2; have HE2 := Lib.hid he2; clear ht2 he2
  go_wp2_with fail
  refine (make_any s w2).mono ?_
  rintro e w3 ⟨rfl, hw3⟩
  have e23 : Ext No w2 w3 := by rw [hw3]; exact (Ext.refl No w2).alloc _
  have ht3 : Tab w3 w2.heap.size s := by rw [hw3]; exact Tab.mk
  have hx3 := HT2.out.ext0 e23
  have he3 := HE2.out.trans' e23
  clear hw3 e23 HT2 HE2
  generalize w2.heap.size = yb at *
  have HX3 := Lib.hid hx3; have HT3 := Lib.hid ht3; have HE3 := Lib.hid he3; clear ht3 he3 hx3
  go_wp2_with fail
  go_loop [9, 25] (fun _ i => ∃ k : Nat, k ≤ 256 ∧ i = .int .i64 k) (fun _ i => 256 - (intOf i).toNat)
  case atStart => exact ⟨0, by omega, rfl⟩
  case round =>
    obtain ⟨k, hk, rfl⟩ := hrel
    by_cases hlt : k < 256
    · go_wp2_with fail
      refine (tabAt_nat s xb k hlt _ HX3.out).mono ?_
      rintro e w8 ⟨rfl, rfl⟩
      go_wp2_with fail
      refine (tabAt_nat s yb k hlt _ HT3.out).mono ?_
      rintro e w8 ⟨rfl, rfl⟩
      go_wp2_with fail
      go_round
      case rel => exact ⟨k + 1, by omega, by go_num⟩
      case measure => simp [intOf]; omega
    · obtain rfl : k = 256 := by omega
      go_wp2_with fail
      refine (window_yes xb 64 w3 (by decide) (by decide)).mono ?_
      rintro e w4 ⟨rfl, hw4, he4⟩
      have hrel : SumsRel w w4 (w3.heap.size + 1) w3.heap.size xb s 64 [] ⟨List.replicate 64 0, 0, false, 0#32⟩ :=
        ⟨hw4, HX3.out.ext0 he4, HE3.out.trans' he4, Roll.Good.start _ 64 (by omega) _ (by simp)⟩
      have hty : Tab w4 yb s := HT3.out.ext0 he4
      have hb : (w.heap.size ≤ w3.heap.size + 1 ∧ w.heap.size ≤ w3.heap.size) ∧ yb ≠ w3.heap.size + 1 ∧ yb ≠ w3.heap.size := by
        have := HE3.out.size; have := Blk.lt (T := 42) (cs := mixTo s 256) HT3.out; omega
      clear HX3 HT3 HE3 hw4 he4
      generalize w3.heap.size + 1 = wb at *
      generalize w3.heap.size = lb at *
      have HR := Lib.hid hrel; have HY := Lib.hid hty; have HB := Lib.hid hb; clear hrel hty hb
      go_wp2_with fail
      go_loopw [12, 13, 45] (fun _ _ i wr => ∃ (k : Nat) (st : WS), k ≤ m ∧ i = .int .i64 k ∧ SumsRel w wr wb lb xb s 64 (l.take k) st ∧ Tab wr yb s) (fun _ _ i _ => m - (intOf i).toNat)
      case atStart => exact ⟨0, _, by omega, rfl, by rw [List.take_zero]; exact HR.out, HY.out⟩
      case round =>
        clear HR HY hk hlt
        obtain ⟨k, st, hk, rfl, hr, hy⟩ := hrel
        have HR := Lib.hid hr; have HY := Lib.hid hy; clear hr hy
        by_cases hlt : k < m
        · obtain ⟨b1, off, rfl, hcc⟩ := (HV.out.ext0 HR.out.ext).get k hlt
          generalize hg : l.getD k 0 = c at *
          have HG := Lib.hid hg; clear hg
          have hpush : Calls Try.prog 16 #[.pointer (some ⟨wb, 0, none⟩), .int .u8 c.toNat] wr.drew fun e w' =>
              e = .returned (.int .u32 (w32 (rollTo s (l.take (k + 1))))) ∧ SumsRel w w' wb lb xb s 64 (l.take (k + 1)) (st.push s c) ∧ Tab w' yb s := by
            have hd : Dr wr wr.drew := ⟨1, rfl⟩
            have hr1 := HR.out.dr hd
            have hy1 := HY.out.ext0 (hd.ext No)
            refine (push_any s wb lb xb st c _ hr1.win hr1.tab).mono ?_
            rintro e w6 ⟨he, hw6, he6⟩
            have h6 := hr1.push (by omega) HB.out.1 c hw6 he6
            have hsn : l.take k ++ [c] = l.take (k + 1) := by rw [take_snoc' l k (by rw [← HM.out]; exact hlt), HG.out]
            rw [hsn] at h6
            refine ⟨?_, h6, hy1.ext he6 (by have := HB.out; omega)⟩
            rw [he, h6.good.sum, Roll.lastN_short 64 _ (by rw [List.length_take]; omega), rollTo_H]
          have HP := Lib.hid hpush; clear hpush
          generalize hgr : rollTo s (l.take (k + 1)) = R at *
          have HGR := Lib.hid hgr; clear hgr
          have HLT := Lib.hid (show k + 1 ≤ m by omega)
          have hz1 : IntKind.i64.wrap ((k : Int) + 1) = (k : Int) + 1 := IntWalk.i64_in _ (by omega)
          have hz2 : 0 ≤ (k : Int) + 1 := by omega
          have hz3 : ((k : Int) + 1).toNat = k + 1 := by omega
          have hz4 : ((k : Int) + 1 ≤ (cap : Int)) := by omega
          go_wp2_with fail
          go_cut [59] (fun t wx => t = .bool false ∧ ∃ st', SumsRel w wx wb lb xb s 64 (l.take (k + 1)) st' ∧ Tab wx yb s)
          case first =>
            clear hlt hk hc1 hc2 hl
            go_region_with (first
              | (go_at_call 16; refine HP.out.mono ?_; rintro e w6 ⟨rfl, hr6, hy6⟩; have HR6 := Lib.hid hr6; have HY6 := Lib.hid hy6; clear hr6 hy6)
              | (go_at_call 12; have hx6 := tabSum_v s yb (l.take (k + 1)) _ _ HY6.out ((HV.out.ext0 HR6.out.ext).take (k + 1) HLT.out); rw [HGR.out] at hx6; refine hx6.mono ?_; clear hx6; rintro e w7 ⟨rfl, hd7⟩; have HR7 := Lib.hid (HR6.out.dr hd7); have HY7 := Lib.hid (HY6.out.ext0 (hd7.ext No)); clear hd7))
            all_goals
              go_wp2_with fail
              go_meet
              exact ⟨rfl, _, HR7.out, HY7.out⟩
          case rest =>
            obtain ⟨rfl, st', hr, hy⟩ := hcut
            clear HR HY hz1 hz2 hz3 hz4
            have HR := Lib.hid hr; have HY := Lib.hid hy; clear hr hy
            go_wp2_with fail
            go_roundw
            case rel => exact ⟨k + 1, _, by omega, by go_num, HR.out, HY.out⟩
            case measure => simp [intOf]; omega
        · obtain rfl : k = m := by omega
          clear hk hlt
          by_cases h1 : n < 1
          · go_wp2_with fail
            refine (window_no xb n wr (.inl h1)).mono ?_
            rintro e w5 ⟨rfl, rfl⟩
            go_wp2_with fail
            go_ret
            exact ⟨rfl, HR.out.ext⟩
          · by_cases h2 : 64 < n
            · have hb : decide (n ≤ 64) = false := by simp; omega
              have hb1 : decide (1 ≤ n) = true := by simp; omega
              go_wp2_with fail
              refine (window_no xb n wr (.inr h2)).mono ?_
              rintro e w5 ⟨rfl, rfl⟩
              go_wp2_with fail
              go_ret
              exact ⟨rfl, HR.out.ext⟩
            · obtain ⟨n', rfl⟩ := Int.eq_ofNat_of_zero_le (by omega : 0 ≤ n)
              have hb : decide (n' ≤ 64) = true := by simp; omega
              have hb1 : decide (1 ≤ n') = true := by simp; omega
              go_wp2_with fail
              refine (window_yes xb n' wr (by omega) (by omega)).mono ?_
              rintro e w5 ⟨rfl, hw5, he5⟩
              have he := HR.out.ext.trans' he5
              clear hw5 he5
              go_wp2_with fail
              go_ret
              exact ⟨rfl, he⟩

set_option maxRecDepth 100000 in
set_option maxHeartbeats 1000000 in
theorem seeds_fr (s : BitVec 64) (l : List UInt8) (v : Value) (n : Int) (w : World) (hv : IsBytes w l v) (_ : -9223372036854775808 ≤ n) (_ : n ≤ 9223372036854775807) :
    Calls Try.prog 6 #[.int .u64 (w64 s), v, .int .i64 n] w fun e w' => e = .returned (.bool true) ∧ Ext No w w' := by
  by_cases hl : l.length ≤ 64
  · exact seeds_some s l v n w hv hl
  · obtain ⟨a, cap, rfl, hc1, hc2, -⟩ := hv
    generalize l.length = m at *
    go_enter Try.func6, Try.ntmps6
    go_wp2_with fail
    refine (alive_any w).mono ?_
    rintro e w1 ⟨rfl, he1⟩
    go_wp2_with fail
    go_ret
    exact ⟨rfl, he1⟩

end Go.Proofs.Ytonahgoiibdjmaa
