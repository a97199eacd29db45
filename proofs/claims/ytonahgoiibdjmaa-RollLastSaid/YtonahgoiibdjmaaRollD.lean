/- The walk of coldstorelaw08.alive: the document's example holds. -/
import Derived.Test.YtonahgoiibdjmaaRollC
namespace Go.Proofs.Ytonahgoiibdjmaa
open Go.RowKit Go.My

theorem mix12 : (w32 (mixN 7#64 1) == w32 (mixN 7#64 2)) = false := by
  rw [beq_eq_false_iff_ne]
  intro h
  exact absurd (w32_inj h) (by decide +kernel)
theorem roll5 : rollTo 7#64 [5] = mixN 7#64 5 := by rw [rollTo_H, Roll.H_one]; rfl
theorem lit7 : (7 : Int) = w64 7#64 := by rw [w64_def]; rfl
theorem lit0 : (0 : Int) = w32 0#32 := by rw [w32_def]; rfl
theorem Tab.mk {w : World} {s : BitVec 64} : Tab (w.alloc (.cells (mixTo s 256) 42)) w.heap.size s := Blk.new w _ _
theorem Tab.ext0 {w w' : World} {b : Nat} {s : BitVec 64} (h : Tab w b s) (e : Ext No w w') : Tab w' b s := h.ext e (fun x => x)

set_option maxRecDepth 100000 in
set_option maxHeartbeats 1000000 in
theorem alive_any (w : World) : Calls Try.prog 7 #[] w fun e w' => e = .returned (.bool true) ∧ Ext No w w' := by
  have hmake : ∀ w : World, Calls Try.prog 8 #[.int .u64 7] w fun e w' => e = .returned (.pointer (some ⟨w.heap.size, 0, none⟩)) ∧ w' = w.alloc (.cells (mixTo 7#64 256) 42) := by
    intro w; rw [lit7]; exact make_any 7#64 w
  have hat : ∀ (w : World) (b : Nat) (c : UInt8), Tab w b 7#64 → Calls Try.prog 10 #[.pointer (some ⟨b, 0, none⟩), .int .u8 c.toNat] w fun e w' => e = .returned (.int .u32 (w32 (mixN 7#64 c.toNat))) ∧ w = w' := fun w b c h => tabAt_any 7#64 b c w h
  have h12 := mix12
  have HMK := Lib.hid hmake
  have HAT := Lib.hid hat
  clear hmake hat
  go_enter Try.func7, Try.ntmps7
  go_wp2_with fail
  refine (HMK.out _).mono ?_
  rintro e w1 ⟨rfl, hw1⟩
  have ht1 : Tab w1 w.heap.size 7#64 := by rw [hw1]; exact Tab.mk
  have he1 : Ext No w w1 := by rw [hw1]; exact (Ext.refl No w).alloc _
  clear hw1
  generalize w.heap.size = tb at *
  have HT1 := Lib.hid ht1; have HE1 := Lib.hid he1; clear ht1 he1
  go_wp2_with fail
  refine (HAT.out w1 tb 1 HT1.out).mono ?_
  rintro e w2 ⟨rfl, rfl⟩
  go_wp2_with fail
  refine (HAT.out w1 tb 2 HT1.out).mono ?_
  rintro e w2 ⟨rfl, rfl⟩
  go_wp2_with fail
  have hr5 : Rd (w1.alloc (.cells #[.int .u8 5] 5)) (some ⟨w1.heap.size, 0, none⟩) (byt [5]) ([5] : List UInt8).length :=
    Rd.of_blk (Blk.new w1 _ _) (by intro i hi; have : i = 0 := by simpa using hi
                                   subst this; rfl)
  have hT5 : Tab (w1.alloc (.cells #[.int .u8 5] 5)) tb 7#64 := HT1.out.ext0 ((Ext.refl No w1).alloc _)
  have HX := Lib.hid (tabSum_any 7#64 tb _ 1 [5] _ hT5 (by simp) hr5)
  clear hr5 hT5
  refine HX.out.mono ?_
  rintro e w2 ⟨rfl, hw2⟩
  rw [roll5]
  have he2 : Ext No w w2 := HE1.out.trans' (((Ext.refl No w1).alloc _).trans' (hw2.ext No))
  have ht2 : Tab w2 tb 7#64 := HT1.out.ext0 (((Ext.refl No w1).alloc _).trans' (hw2.ext No))
  clear hw2 HX HE1 HT1
  have HT2 := Lib.hid ht2; have HE2 := Lib.hid he2; clear ht2 he2
  go_wp2_with fail
  refine (HAT.out w2 tb 5 HT2.out).mono ?_
  rintro e w3 ⟨rfl, rfl⟩
  go_wp2_with fail
  refine (window_yes tb 1 w2 (by decide) (by decide)).mono ?_
  rintro e w3 ⟨rfl, hwin, hw3⟩
  have ht3 := HT2.out.ext0 hw3
  have he3 := HE2.out.trans' hw3
  have hs2 : w.heap.size ≤ w2.heap.size := HE2.out.size
  have hs3 : w.heap.size ≤ w2.heap.size + 1 := by omega
  clear HT2 HE2 hw3
  have HT3 := Lib.hid ht3; have HE3 := Lib.hid he3; have HW3 := Lib.hid hwin; clear ht3 he3 hwin
  generalize w2.heap.size + 1 = wb at *
  generalize w2.heap.size = lb at *
  have hsub : ∀ i, i < w.heap.size → (i = wb ∨ i = lb) → No i := by intro i hi h; omega
  have HS := Lib.hid hsub; clear hsub hs2 hs3
  go_wp2_with fail
  refine (window_no tb 0 w3 (by omega)).mono ?_
  rintro e w4 ⟨rfl, rfl⟩
  go_wp2_with fail
  refine (push_any 7#64 wb lb tb _ 3 w3 HW3.out HT3.out).mono ?_
  rintro e w4 ⟨rfl, hw4, he4⟩
  have ht4 := HT3.out.ext he4 (by rintro (h | h); exact (Tab.ne_win HW3.out HT3.out).1 h; exact (Tab.ne_win HW3.out HT3.out).2 h)
  have he4' := HE3.out.trans he4 (fun _ _ x => x) HS.out
  clear HT3 HE3 HW3 he4
  have HT4 := Lib.hid ht4; have HE4 := Lib.hid he4'; have HW4 := Lib.hid hw4; clear ht4 he4' hw4
  go_wp2_with fail
  refine (push_any 7#64 wb lb tb _ 5 w4 HW4.out HT4.out).mono ?_
  rintro e w5 ⟨rfl, hw5, he5⟩
  have ht5 := HT4.out.ext he5 (by rintro (h | h); exact (Tab.ne_win HW4.out HT4.out).1 h; exact (Tab.ne_win HW4.out HT4.out).2 h)
  have he5' := HE4.out.trans he5 (fun _ _ x => x) HS.out
  clear HT4 HE4 HW4 he5
  have hsum : ((WS.push ⟨List.replicate 1 0, 0, false, 0#32⟩ 7#64 3).push 7#64 5).sum = mixN 7#64 5 := by decide +kernel
  rw [hsum]
  have HT5 := Lib.hid ht5; have HE5 := Lib.hid he5'; have HW5 := Lib.hid hw5; clear ht5 he5' hw5 hsum
  go_wp2_with fail
  refine (reset_any wb lb tb _ w5 HW5.out).mono ?_
  rintro e w6 ⟨rfl, hw6, he6⟩
  have ht6 := HT5.out.ext he6 (by rintro (h | h); exact (Tab.ne_win HW5.out HT5.out).1 h; exact (Tab.ne_win HW5.out HT5.out).2 h)
  have he6' := HE5.out.trans he6 (fun _ _ x => x) HS.out
  clear HT5 HE5 HW5 he6
  have HT6 := Lib.hid ht6; have HE6 := Lib.hid he6'; have HW6 := Lib.hid hw6; clear ht6 he6' hw6
  go_wp2_with fail
  refine (HAT.out w6 tb 5 HT6.out).mono ?_
  rintro e w7 ⟨rfl, rfl⟩
  go_wp2_with fail
  refine (winSum_any wb lb tb _ w6 HW6.out).mono ?_
  rintro e w7 ⟨rfl, rfl⟩
  rw [← lit0]
  go_wp2_with fail
  go_ret
  exact ⟨rfl, HE6.out⟩

end Go.Proofs.Ytonahgoiibdjmaa
