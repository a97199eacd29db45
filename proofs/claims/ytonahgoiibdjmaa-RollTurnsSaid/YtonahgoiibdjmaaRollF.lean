/- The walk of coldstorelaw08.RollLast. -/
import Derived.Test.YtonahgoiibdjmaaRollE
namespace Go.Proofs.Ytonahgoiibdjmaa
open Go.RowKit Go.My

theorem and63 (n : Int) : bits .and .i64 n 63 = n % 64 := i64_mask n 6 (by decide)
attribute [local go_sem] and63

theorem Win.lt {w : World} {wb lb tb : Nat} {st : WS} (h : Win w wb lb tb st) : wb < w.heap.size ∧ lb < w.heap.size := ⟨h.head.lt, h.row.lt⟩

theorem SumsRel.keep {w wr w2 : World} {wb lb tb : Nat} {s : BitVec 64} {n : Nat} {l : List UInt8} {st : WS} (h : SumsRel w wr wb lb tb s n l st) {S : Nat → Prop} (he : Ext S wr w2)
    (h1 : ¬ S wb) (h2 : ¬ S lb) (h3 : ¬ S tb) (h4 : ∀ i, i < w.heap.size → S i → No i) : SumsRel w w2 wb lb tb s n l st :=
  ⟨h.win.ext he h1 h2, h.tab.ext he h3, h.ext.trans he (fun _ _ x => x) h4, h.good⟩

/-- three windows, each apart from the others -/
structure Three (w wr : World) (tb xb xl yb yl zb zl : Nat) (s : BitVec 64) (n : Nat) (lx ly lz : List UInt8) (sx sy sz : WS) : Prop where
  x : SumsRel w wr xb xl tb s n lx sx
  y : SumsRel w wr yb yl tb s n ly sy
  z : SumsRel w wr zb zl tb s n lz sz

structure Apart (w : World) (tb xb xl yb yl zb zl : Nat) : Prop where
  x : w.heap.size ≤ xb ∧ w.heap.size ≤ xl
  y : w.heap.size ≤ yb ∧ w.heap.size ≤ yl
  z : w.heap.size ≤ zb ∧ w.heap.size ≤ zl
  xy : xb ≠ yb ∧ xb ≠ yl ∧ xl ≠ yb ∧ xl ≠ yl
  xz : xb ≠ zb ∧ xb ≠ zl ∧ xl ≠ zb ∧ xl ≠ zl
  yz : yb ≠ zb ∧ yb ≠ zl ∧ yl ≠ zb ∧ yl ≠ zl

section
variable {w wr w2 : World} {tb xb xl yb yl zb zl : Nat} {s : BitVec 64} {n : Nat} {lx ly lz : List UInt8} {sx sy sz : WS}
theorem Three.pushX (h : Three w wr tb xb xl yb yl zb zl s n lx ly lz sx sy sz) (a : Apart w tb xb xl yb yl zb zl) (hn : 0 < n) (c : UInt8)
    (hw : Win w2 xb xl tb (sx.push s c)) (he : Ext (fun k => k = xb ∨ k = xl) wr w2) : Three w w2 tb xb xl yb yl zb zl s n (lx ++ [c]) ly lz (sx.push s c) sy sz := by
  have t := Tab.ne_win h.x.win h.x.tab
  have a1 := a.xy; have a2 := a.xz; have a3 := a.x
  exact ⟨h.x.push hn a.x c hw he, h.y.keep he (by omega) (by omega) (by omega) (by intro i hi x; omega), h.z.keep he (by omega) (by omega) (by omega) (by intro i hi x; omega)⟩
theorem Three.pushY (h : Three w wr tb xb xl yb yl zb zl s n lx ly lz sx sy sz) (a : Apart w tb xb xl yb yl zb zl) (hn : 0 < n) (c : UInt8)
    (hw : Win w2 yb yl tb (sy.push s c)) (he : Ext (fun k => k = yb ∨ k = yl) wr w2) : Three w w2 tb xb xl yb yl zb zl s n lx (ly ++ [c]) lz sx (sy.push s c) sz := by
  have t := Tab.ne_win h.y.win h.y.tab
  have a1 := a.xy; have a2 := a.yz; have a3 := a.y
  exact ⟨h.x.keep he (by omega) (by omega) (by omega) (by intro i hi x; omega), h.y.push hn a.y c hw he, h.z.keep he (by omega) (by omega) (by omega) (by intro i hi x; omega)⟩
theorem Three.pushZ (h : Three w wr tb xb xl yb yl zb zl s n lx ly lz sx sy sz) (a : Apart w tb xb xl yb yl zb zl) (hn : 0 < n) (c : UInt8)
    (hw : Win w2 zb zl tb (sz.push s c)) (he : Ext (fun k => k = zb ∨ k = zl) wr w2) : Three w w2 tb xb xl yb yl zb zl s n lx ly (lz ++ [c]) sx sy (sz.push s c) := by
  have t := Tab.ne_win h.z.win h.z.tab
  have a1 := a.xz; have a2 := a.yz; have a3 := a.z
  exact ⟨h.x.keep he (by omega) (by omega) (by omega) (by intro i hi x; omega), h.y.keep he (by omega) (by omega) (by omega) (by intro i hi x; omega), h.z.push hn a.z c hw he⟩
theorem Three.resetZ (h : Three w wr tb xb xl yb yl zb zl s n lx ly lz sx sy sz) (a : Apart w tb xb xl yb yl zb zl) (hn : 0 < n)
    (hw : Win w2 zb zl tb { sz with pos := 0, full := false, sum := 0#32 }) (he : Ext (fun k => k = zb ∨ k = zl) wr w2) :
    Three w w2 tb xb xl yb yl zb zl s n lx ly [] sx sy { sz with pos := 0, full := false, sum := 0#32 } := by
  have t := Tab.ne_win h.z.win h.z.tab
  have a1 := a.xz; have a2 := a.yz; have a3 := a.z
  exact ⟨h.x.keep he (by omega) (by omega) (by omega) (by intro i hi x; omega), h.y.keep he (by omega) (by omega) (by omega) (by intro i hi x; omega),
    ⟨hw, h.z.tab.ext he (by omega), h.z.ext.trans he (fun _ _ x => x) (by intro i hi x; omega), Roll.Good.start _ n hn _ h.z.good.len⟩⟩
end

set_option maxRecDepth 100000 in
set_option maxHeartbeats 1000000 in
theorem last_long (s : BitVec 64) (n : Int) (l1 l2 : List UInt8) (v1 v2 : Value) (w : World) (hv1 : IsBytes w l1 v1) (hv2 : IsBytes w l2 v2) (hl : 300 < l1.length ∨ 300 < l2.length) :
    Calls Try.prog 4 #[.int .u64 (w64 s), .int .i64 n, v1, v2] w fun e w' => e = .returned (.bool true) ∧ Ext No w w' := by
  obtain ⟨a, cap, rfl, hc1, hc2, hr⟩ := hv1
  obtain ⟨a', cap', rfl, hc1', hc2', hr'⟩ := hv2
  generalize l1.length = m at *
  generalize l2.length = m' at *
  by_cases h1 : 300 < m
  · clear hl
    go_enter Try.func4, Try.ntmps4
    go_wp2_with fail
    refine (alive_any w).mono ?_
    rintro e w1 ⟨rfl, he1⟩
    go_wp2_with fail
    go_ret
    exact ⟨rfl, he1⟩
  · have h2 : 300 < m' := by omega
    clear hl
    go_enter Try.func4, Try.ntmps4
    go_wp2_with fail
    refine (alive_any w).mono ?_
    rintro e w1 ⟨rfl, he1⟩
    go_wp2_with fail
    go_ret
    exact ⟨rfl, he1⟩

set_option maxRecDepth 100000 in
set_option maxHeartbeats 2000000 in
theorem last_some (s : BitVec 64) (n0 : Int) (l1 l2 : List UInt8) (v1 v2 : Value) (w : World) (hv1 : IsBytes w l1 v1) (hv2 : IsBytes w l2 v2) (hl1 : l1.length ≤ 300) (hl2 : l2.length ≤ 300) :
    Calls Try.prog 4 #[.int .u64 (w64 s), .int .i64 n0, v1, v2] w fun e w' => e = .returned (.bool true) ∧ Ext No w w' := by
  have HV1 := Lib.hid hv1
  have HV2 := Lib.hid hv2
  obtain ⟨a, cap, rfl, hc1, hc2, -⟩ := hv1
  obtain ⟨a', cap', rfl, hc1', hc2', -⟩ := hv2
  obtain ⟨m, hm⟩ : ∃ m, m = l1.length := ⟨_, rfl⟩
  obtain ⟨m', hm'⟩ : ∃ m, m = l2.length := ⟨_, rfl⟩
  rw [← hm] at hc1 hl1 HV1 ⊢
  rw [← hm'] at hc1' hl2 HV2 ⊢
  have HM := Lib.hid hm; clear hm
  have HM' := Lib.hid hm'; clear hm'
  obtain ⟨n, hn⟩ : ∃ n : Nat, 1 + n0 % 64 = (n : Int) := ⟨(1 + n0 % 64).toNat, by omega⟩
  have hn1 : 1 ≤ n := by omega
  have hn2 : n ≤ 64 := by omega
  go_enter Try.func4, Try.ntmps4
  go_wp2_with fail
  refine (alive_any w).mono ?_
  rintro e w1 ⟨rfl, he1⟩
  have HE1 := Lib.hid he1; clear he1
  go_wp2_with fail
  refine (make_any s w1).mono ?_
  rintro e w2 ⟨rfl, hw2⟩
  have ht2 : Tab w2 w1.heap.size s := by rw [hw2]; exact Tab.mk
  have he2 : Ext No w w2 := HE1.out.trans' (by rw [hw2]; exact (Ext.refl No w1).alloc _)
  clear hw2 HE1
  generalize w1.heap.size = tb at *
  have HT2 := Lib.hid ht2; have HE2 := Lib.hid he2; clear ht2 he2
  go_wp2_with fail
  clear hn
  refine (window_yes tb n w2 hn1 hn2).mono ?_
  rintro e w3 ⟨rfl, hx, hw3⟩
  have hrx : SumsRel w w3 (w2.heap.size + 1) w2.heap.size tb s n [] ⟨List.replicate n 0, 0, false, 0#32⟩ :=
    ⟨hx, HT2.out.ext0 hw3, HE2.out.trans' hw3, Roll.Good.start _ n (by omega) _ (by simp)⟩
  have bx : w.heap.size ≤ w2.heap.size ∧ w.heap.size ≤ w2.heap.size + 1 := by have := HE2.out.size; omega
  have bx' := hx.lt
  clear HT2 HE2 hw3 hx
  generalize w2.heap.size + 1 = xb at *
  generalize w2.heap.size = xl at *
  have HRX := Lib.hid hrx; clear hrx
  have BX := Lib.hid bx; have BX' := Lib.hid bx'; clear bx bx'
  go_wp2_with fail
  refine (window_yes tb n w3 hn1 hn2).mono ?_
  rintro e w4 ⟨rfl, hy, hw4⟩
  have hrx := HRX.out.keep hw4 (fun x => x) (fun x => x) (fun x => x) (fun _ _ x => x)
  have hry : SumsRel w w4 (w3.heap.size + 1) w3.heap.size tb s n [] ⟨List.replicate n 0, 0, false, 0#32⟩ :=
    ⟨hy, hrx.tab, hrx.ext, Roll.Good.start _ n (by omega) _ (by simp)⟩
  have bxy : (xb ≠ w3.heap.size + 1 ∧ xb ≠ w3.heap.size ∧ xl ≠ w3.heap.size + 1 ∧ xl ≠ w3.heap.size) ∧ w.heap.size ≤ w3.heap.size + 1 ∧ w.heap.size ≤ w3.heap.size := by
    have := BX.out; have := BX'.out; omega
  have by' := hy.lt
  have bx4 := hrx.win.lt
  clear hw4 hy HRX BX'
  generalize w3.heap.size + 1 = yb at *
  generalize w3.heap.size = yl at *
  have HRX := Lib.hid hrx; have HRY := Lib.hid hry; clear hrx hry
  have BXY := Lib.hid bxy; have BY' := Lib.hid (And.intro by' bx4); clear bxy by' bx4
  go_wp2_with fail
  refine (window_yes tb n w4 hn1 hn2).mono ?_
  rintro e w5 ⟨rfl, hz, hw5⟩
  have hrx := HRX.out.keep hw5 (fun x => x) (fun x => x) (fun x => x) (fun _ _ x => x)
  have hry := HRY.out.keep hw5 (fun x => x) (fun x => x) (fun x => x) (fun _ _ x => x)
  have hrz : SumsRel w w5 (w4.heap.size + 1) w4.heap.size tb s n [] ⟨List.replicate n 0, 0, false, 0#32⟩ :=
    ⟨hz, hrx.tab, hrx.ext, Roll.Good.start _ n (by omega) _ (by simp)⟩
  have hap : Apart w tb xb xl yb yl (w4.heap.size + 1) w4.heap.size := by
    have := BX.out; have := BXY.out; have := BY'.out
    exact ⟨by omega, by omega, by omega, by omega, by omega, by omega⟩
  have h3 : Three w w5 tb xb xl yb yl (w4.heap.size + 1) w4.heap.size s n [] [] [] _ _ _ := ⟨hrx, hry, hrz⟩
  clear hw5 hz HRX HRY BX BXY BY' hrx hry hrz
  generalize w4.heap.size + 1 = zb at *
  generalize w4.heap.size = zl at *
  have H3 := Lib.hid h3; have HAP := Lib.hid hap; clear h3 hap
  go_wp2_with fail
  go_loopw [17, 58] (fun _ i wr => ∃ (k : Nat) (sx sy sz : WS), k ≤ m ∧ i = .int .i64 k ∧ Three w wr tb xb xl yb yl zb zl s n (l1.take k) [] (l1.take k) sx sy sz) (fun _ i _ => m - (intOf i).toNat)
  case atStart => exact ⟨0, _, _, _, by omega, rfl, by rw [List.take_zero]; exact H3.out⟩
  case round =>
    clear H3
    obtain ⟨k, sx, sy, sz, hk, rfl, h3⟩ := hrel
    have H3 := Lib.hid h3; clear h3
    by_cases hlt : k < m
    · obtain ⟨b1, off, rfl, hcc⟩ := (HV1.out.ext0 H3.out.x.ext).get k hlt
      generalize hg : l1.getD k 0 = c at *
      have HG := Lib.hid hg; clear hg
      go_wp2_with fail
      refine (push_any s xb xl tb sx c wr H3.out.x.win H3.out.x.tab).mono ?_
      rintro e w6 ⟨rfl, hw6, he6⟩
      have h3 := H3.out.pushX HAP.out (by omega) c hw6 he6
      clear H3 hw6 he6 hcc
      have H3 := Lib.hid h3; clear h3
      go_wp2_with fail
      refine (push_any s zb zl tb sz c w6 H3.out.z.win H3.out.z.tab).mono ?_
      rintro e w7 ⟨rfl, hw7, he7⟩
      have h3 := H3.out.pushZ HAP.out (by omega) c hw7 he7
      clear H3 hw7 he7
      have hsn : l1.take k ++ [c] = l1.take (k + 1) := by rw [take_snoc' l1 k (by rw [← HM.out]; exact hlt), HG.out]
      rw [hsn] at h3
      have H3 := Lib.hid h3; clear h3 hsn
      go_wp2_with fail
      go_roundw
      case rel => exact ⟨k + 1, _, _, _, by omega, by go_num, H3.out⟩
      case measure => simp [intOf]; omega
    · obtain rfl : k = m := by omega
      rw [HM.out, List.take_length] at H3
      go_wp2_with fail
      refine (reset_any zb zl tb sz wr H3.out.z.win).mono ?_
      rintro e w6 ⟨rfl, hw6, he6⟩
      have h3 := H3.out.resetZ HAP.out (by omega) hw6 he6
      clear H3 hw6 he6
      have H3 := Lib.hid h3; clear h3
      go_wp2_with fail
      go_loopw [18, 19, 20, 21, 22, 73] (fun _ _ _ _ _ i wr => ∃ (k : Nat) (sx sy sz : WS), k ≤ m' ∧ i = .int .i64 k ∧ Three w wr tb xb xl yb yl zb zl s n (l1 ++ l2.take k) (l2.take k) (l2.take k) sx sy sz) (fun _ _ _ _ _ i _ => m' - (intOf i).toNat)
      case atStart => exact ⟨0, _, _, _, by omega, rfl, by rw [List.take_zero, List.append_nil]; exact H3.out⟩
      case round =>
        clear H3
        obtain ⟨k, sx, sy, sz, hk, rfl, h3⟩ := hrel
        have H3 := Lib.hid h3; clear h3
        by_cases hlt : k < m'
        · obtain ⟨b1, off, rfl, hcc⟩ := (HV2.out.ext0 H3.out.x.ext).get k hlt
          generalize hg : l2.getD k 0 = c at *
          have HG := Lib.hid hg; clear hg
          go_wp2_with fail
          refine (push_any s xb xl tb sx c _ H3.out.x.win H3.out.x.tab).mono ?_
          rintro e w6 ⟨rfl, hw6, he6⟩
          have h3 := H3.out.pushX HAP.out (by omega) c hw6 he6
          clear H3 hw6 he6 hcc
          have H3 := Lib.hid h3; clear h3
          go_wp2_with fail
          refine (push_any s yb yl tb sy c w6 H3.out.y.win H3.out.y.tab).mono ?_
          rintro e w7 ⟨rfl, hw7, he7⟩
          have h3 := H3.out.pushY HAP.out (by omega) c hw7 he7
          clear H3 hw7 he7
          have H3 := Lib.hid h3; clear h3
          go_wp2_with fail
          refine (push_any s zb zl tb sz c w7 H3.out.z.win H3.out.z.tab).mono ?_
          rintro e w8 ⟨rfl, hw8, he8⟩
          have h3 := H3.out.pushZ HAP.out (by omega) c hw8 he8
          clear H3 hw8 he8
          have hsn : l2.take k ++ [c] = l2.take (k + 1) := by rw [take_snoc' l2 k (by rw [← HM'.out]; exact hlt), HG.out]
          rw [List.append_assoc, hsn] at h3
          have hyz : (sy.push s c).sum = (sz.push s c).sum := by rw [h3.y.good.sum, h3.z.good.sum]
          have hxy : n ≤ k + 1 → (sx.push s c).sum = (sy.push s c).sum := by
            intro hnk
            rw [h3.x.good.sum, h3.y.good.sum, Roll.lastN_append n l1 _ (by rw [List.length_take, ← HM'.out]; omega)]
          have H3 := Lib.hid h3; clear h3 hsn
          rw [hyz]
          by_cases hnk : n ≤ k + 1
          · rw [hxy hnk, hyz]
            clear hxy hyz
            have hnk' : ((k : Int) + 1 ≥ (n : Int)) := by omega
            go_wp2_with fail
            go_roundw
            case rel => exact ⟨k + 1, _, _, _, by omega, by go_num, H3.out⟩
            case measure => simp [intOf]; omega
          · clear hxy hyz
            go_wp2_with fail
            go_roundw
            case rel => exact ⟨k + 1, _, _, _, by omega, by go_num, H3.out⟩
            case measure => simp [intOf]; omega
        · obtain rfl : k = m' := by omega
          rw [HM'.out, List.take_length] at H3
          by_cases hnk : n ≤ k
          · obtain ⟨b1, off, rfl, -⟩ := (HV2.out.ext0 H3.out.x.ext).get 0 (by omega)
            obtain ⟨R, hR1, hR2⟩ : ∃ R, sx.sum = R ∧ rollTo s (l2.drop (k - n)) = R := by
              refine ⟨_, rfl, ?_⟩
              rw [H3.out.x.good.sum, Roll.lastN_append n l1 l2 (by rw [← HM'.out]; exact hnk), rollTo_H]
              unfold Roll.lastN
              rw [← HM'.out]
            have hc1 : ∀ j, Calls Try.prog 14 #[.pointer (some ⟨xb, 0, none⟩)] (wr.drewN j) fun e w'' => e = .returned (.int .u32 (w32 R)) ∧ ∃ i, w'' = wr.drewN i := fun j => by
              rw [← hR1]; exact quiet_of_eq (winSum_any xb xl tb sx _ (H3.out.x.win.ext ((Dr.mk _ _).ext No) (fun x => x) (fun x => x)))
            have hc2 : ∀ j, Calls Try.prog 12 #[.pointer (some ⟨tb, 0, none⟩), .slice (some ⟨b1, off + (k - n), none⟩) (k - (k - n)) (cap' - (k - n))] (wr.drewN j) fun e w'' => e = .returned (.int .u32 (w32 R)) ∧ ∃ i, w'' = wr.drewN i := fun j => by
              rw [← hR2]; exact quiet_of_Dr (tabSum_v s tb _ _ _ (H3.out.x.tab.ext0 ((Dr.mk _ _).ext No)) (((HV2.out.ext0 H3.out.x.ext).drop (k - n) (by omega)).ext0 ((Dr.mk _ _).ext No)))
            have HC1 := Lib.hid hc1
            have HC2 := Lib.hid hc2
            clear hc1 hc2 hR1 hR2
            have hd : decide (k < n) = false := by simp; omega
            go_wp2_with fail
            go_quiet ((first | (go_at_call 14; exact HC1.out _) | (go_at_call 12; exact HC2.out _)))
            go_wp2_with fail
            go_ret
            exact ⟨rfl, H3.out.x.ext.drewN _⟩
          · have hd : decide (k < n) = true := by simp; omega
            go_wp2_with fail
            go_quiet (fail)
            go_wp2_with fail
            go_ret
            exact ⟨rfl, H3.out.x.ext.drewN _⟩

theorem last_fr (s : BitVec 64) (n0 : Int) (l1 : List UInt8) (v1 : Value) (l2 : List UInt8) (v2 : Value) (w : World) (_ : -9223372036854775808 ≤ n0) (_ : n0 ≤ 9223372036854775807) (hv1 : IsBytes w l1 v1) (hv2 : IsBytes w l2 v2) :
    Calls Try.prog 4 #[.int .u64 (w64 s), .int .i64 n0, v1, v2] w fun e w' => e = .returned (.bool true) ∧ Ext No w w' := by
  by_cases h : 300 < l1.length ∨ 300 < l2.length
  · exact last_long s n0 l1 l2 v1 v2 w hv1 hv2 h
  · exact last_some s n0 l1 l2 v1 v2 w hv1 hv2 (by omega) (by omega)

end Go.Proofs.Ytonahgoiibdjmaa
