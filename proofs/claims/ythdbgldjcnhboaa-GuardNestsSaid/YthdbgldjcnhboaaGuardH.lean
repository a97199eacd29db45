/- The walk of coldstorelaw01.GuardNests: the fuse, and the law. -/
import Derived.Test.YthdbgldjcnhboaaGuardG
import Derived.Test.YthdbgldjcnhboaaBv
namespace Go.Proofs.Ythdbgldjcnhboaa
open Go.RowKit Go.My

structure Fused (w : World) (pb fb : Nat) : Prop where
  ptr : Var w pb (.pointer (some ⟨fb, 0, none⟩)) 36
  fuse : Var w fb (.int .i64 0) 47
theorem Fused.ext {w w' : World} {pb fb : Nat} (h : Fused w pb fb) (x : Ext No w w') : Fused w' pb fb := ⟨h.ptr.ext x (fun x => x), h.fuse.ext x (fun x => x)⟩

set_option maxRecDepth 100000 in
set_option maxHeartbeats 400000 in
theorem nests21_any (pb fb bb : Nat) (w : World) (h : Fused w pb fb) :
    Calls Try.prog 23 #[.pointer (some ⟨pb, 0, none⟩), .pointer (some ⟨bb, 0, none⟩)] w (Blows No fb w (fun _ => True)) := by
  have hc := Var.get h.ptr
  have HF := Lib.hid h.fuse
  clear h
  go_enter Try.func23, Try.ntmps23
  go_wp2_with fail
  refine (step_zero fb w HF.out).mono ?_
  rintro e w2 ⟨rfl, rfl⟩
  exact ⟨rfl, [], rfl, by simp, Ext.refl No w, trivial⟩

set_option maxRecDepth 100000 in
set_option maxHeartbeats 400000 in
theorem through1_any (tb vb pb fb bb : Nat) (d : Int) (hd : 1 ≤ d) (hd8 : d ≤ 8) (w : World) (ht : Var w tb (.int .i64 d) 3) (hv : Var w vb (.func (.func 23) #[] #[.pointer (some ⟨pb, 0, none⟩), .pointer (some ⟨bb, 0, none⟩)]) 1)
    (hc : Calls Try.prog 22 #[.int .i64 (d - 1), .func (.func 23) #[] #[.pointer (some ⟨pb, 0, none⟩), .pointer (some ⟨bb, 0, none⟩)]] w (Blows No fb w (fun _ => True))) :
    Calls Try.prog 41 #[.pointer (some ⟨tb, 0, none⟩), .pointer (some ⟨vb, 0, none⟩)] w (Blows No fb w (fun _ => True)) := by
  have c1 := Var.get ht
  have c2 := Var.get hv
  have HC := Lib.hid hc
  clear ht hv hc
  go_enter Try.func41, Try.ntmps41
  go_wp2_with fail
  refine HC.out.mono ?_
  rintro e w2 ⟨older, rfl, hgo, hx, -⟩
  exact ⟨rfl, older, rfl, hgo, hx, trivial⟩

set_option maxRecDepth 100000 in
set_option maxHeartbeats 400000 in
theorem through_any (pb fb bb : Nat) (d : Nat) : ∀ (w : World), d ≤ 8 → Fused w pb fb →
    Calls Try.prog 22 #[.int .i64 d, .func (.func 23) #[] #[.pointer (some ⟨pb, 0, none⟩), .pointer (some ⟨bb, 0, none⟩)]] w (Blows No fb w (fun _ => True)) := by
  have hmf := mkf
  induction d with
  | zero =>
    intro w hd h
    have hx : Ext No w ((w.alloc (.cells #[.int .i64 ((0 : Nat) : Int)] 3)).alloc (.cells #[.func (.func 23) #[] #[.pointer (some ⟨pb, 0, none⟩), .pointer (some ⟨bb, 0, none⟩)]] 1)) := ((Ext.refl No w).alloc _).alloc _
    have hcall := nests21_any pb fb bb _ (h.ext hx)
    have HC := Lib.hid hcall; have HX := Lib.hid hx
    clear h hcall hx
    go_enter Try.func22, Try.ntmps22
    go_wp2_with fail
    refine HC.out.mono ?_
    rintro e w2 ⟨older, rfl, hgo, hx, -⟩
    exact ⟨rfl, older, rfl, hgo, HX.out.trans' hx, trivial⟩
  | succ d ih =>
    intro w hd h
    obtain ⟨w1, hw1⟩ : ∃ w1, (w.alloc (.cells #[.int .i64 ((d + 1 : Nat) : Int)] 3)).alloc (.cells #[.func (.func 23) #[] #[.pointer (some ⟨pb, 0, none⟩), .pointer (some ⟨bb, 0, none⟩)]] 1) = w1 := ⟨_, rfl⟩
    have hx : Ext No w w1 := by rw [← hw1]; exact ((Ext.refl No w).alloc _).alloc _
    have ht : Var w1 w.heap.size (.int .i64 ((d : Int) + 1)) 3 := by rw [← hw1]; exact (Blk.new w _ _).alloc _
    have hv : Var w1 (w.heap.size + 1) (.func (.func 23) #[] #[.pointer (some ⟨pb, 0, none⟩), .pointer (some ⟨bb, 0, none⟩)]) 1 := by
      rw [← hw1]; have := Blk.new (w.alloc (.cells #[.int .i64 ((d + 1 : Nat) : Int)] 3)) #[.func (.func 23) #[] #[.pointer (some ⟨pb, 0, none⟩), .pointer (some ⟨bb, 0, none⟩)]] 1
      rw [World.size_alloc] at this; exact this
    have h1 := h.ext hx
    have hrun := run_blown No fb 41 #[.pointer (some ⟨w.heap.size, 0, none⟩), .pointer (some ⟨w.heap.size + 1, 0, none⟩)] w1 (fun _ => True) (fun w => by kernel_rfl)
      (through1_any w.heap.size (w.heap.size + 1) pb fb bb ((d : Int) + 1) (by omega) (by omega) _ (ht.alloc _) (hv.alloc _) (by
        rw [show (d : Int) + 1 - 1 = d by omega]
        exact ih _ (by omega) (h1.ext ((Ext.refl No w1).alloc _))))
    rw [← hw1] at hrun hx
    have HR := Lib.hid hrun; have HX := Lib.hid hx
    clear hrun hx ht hv h1 h hw1 ih
    rw [show ((d + 1 : Nat) : Int) = (d : Int) + 1 from rfl] at HR HX ⊢
    have hb : ((d : Int) + 1 == 0) = false := by rw [beq_eq_false_iff_ne]; omega
    go_enter Try.func22, Try.ntmps22
    go_wp2_with fail
    refine HR.out.mono ?_
    rintro e w2 ⟨older, rfl, hgo, hx, -⟩
    exact ⟨rfl, older, rfl, hgo, HX.out.trans' hx, trivial⟩

set_option maxRecDepth 100000 in
set_option maxHeartbeats 400000 in
theorem nests2_any (tb pb fb bb : Nat) (d : Nat) (hd : d ≤ 8) (w : World) (ht : Var w tb (.int .i64 d) 3) (h : Fused w pb fb) :
    Calls Try.prog 21 #[.pointer (some ⟨tb, 0, none⟩), .pointer (some ⟨pb, 0, none⟩), .pointer (some ⟨bb, 0, none⟩)] w (Blows No fb w (fun _ => True)) := by
  have hmf := mkf
  have c1 := Var.get ht
  have HC := Lib.hid (through_any pb fb bb d w hd h)
  clear ht h
  go_enter Try.func21, Try.ntmps21
  go_wp2_with fail
  refine HC.out.mono ?_
  rintro e w2 ⟨older, rfl, hgo, hx, -⟩
  exact ⟨rfl, older, rfl, hgo, hx, trivial⟩

theorem get_ints (l : List Int) (i : Nat) (h : i < l.length) : (l.map (Value.int .i64)).getD i undef = int64 l i := by
  rw [int64_def]; simp [List.getD_eq_getElem?_getD, List.getElem?_eq_getElem h]
theorem and7 (n : Int) : bits .and .i64 n 7 = n % 8 := i64_mask n 3 (by decide)
attribute [local go_sem] and7

set_option maxRecDepth 100000 in
set_option maxHeartbeats 3000000 in
theorem guardNests_any (l : List Int) (d0 : Int) (v : Value) (w : World) (hl : IsRow w (int64 l) l.length v) (hm : l.length ≤ 9223372036854775807) :
    Calls Try.prog 4 #[v, .int .i64 d0] w fun e w' => e = .returned (.bool true) ∧ Ext No w w' := by
  have hmf := mkf
  obtain ⟨m, hm'⟩ : ∃ m, m = l.length := ⟨_, rfl⟩
  rw [← hm'] at hl hm
  have HL := Lib.hid hl
  have hvlt : 0 < m → ∀ k, v.ownBlock = some k → k < w.heap.size := fun h0 k hk => hl.lt h0 hk
  obtain ⟨a, cap, hv, hc1, hc2, -⟩ := hl
  have HM := Lib.hid hm'; have HVL := Lib.hid hvlt; have HVV := Lib.hid hv; clear hm' hvlt hv
  obtain ⟨d, hd⟩ : ∃ d : Nat, 1 + d0 % 8 = (d : Int) := ⟨(1 + d0 % 8).toNat, by omega⟩
  have hd8 : d ≤ 8 := by omega
  go_enter Try.func4, Try.ntmps4
  go_wp2_with fail
  obtain ⟨w1, hw1⟩ : ∃ w1, (w.alloc (.cells #[v] 22)).alloc (.cells #[.int .i64 d0] 3) = w1 := ⟨_, rfl⟩
  have hl1 : Var w1 w.heap.size v 22 := by rw [← hw1]; exact (Blk.new w _ _).alloc _
  have hd1 : Var w1 (w.heap.size + 1) (.int .i64 d0) 3 := by rw [← hw1]; have := Blk.new (w.alloc (.cells #[v] 22)) #[.int .i64 d0] 3; rw [World.size_alloc] at this; exact this
  have hx1 : Ext No w w1 := by rw [← hw1]; exact ((Ext.refl No w).alloc _).alloc _
  have hs1 : w1.heap.size = w.heap.size + 2 := by rw [← hw1]; simp
  rw [hw1]; clear hw1
  obtain ⟨lb, hlb⟩ : ∃ lb, w.heap.size = lb := ⟨_, rfl⟩
  rw [hlb] at hl1 hd1 hs1 ⊢
  have HLB := Lib.hid hlb; clear hlb
  refine (alive_any w1).mono ?_
  rintro e w2 ⟨rfl, hx2⟩
  have hl2 := hl1.ext hx2 (fun x => x)
  have hd2 := hd1.ext hx2 (fun x => x)
  have hx2' := hx1.trans' hx2
  have hs2 : lb + 2 ≤ w2.heap.size := by have := hx2.size; omega
  clear hl1 hd1 hx1 hs1 hx2
  have hlc := Var.get hl2
  rw [HVV.out] at hlc
  have hdc := Var.get hd2
  have hdz := hd2.free 0
  have HL2 := Lib.hid hl2; have HD2 := Lib.hid hd2; have HX2 := Lib.hid hx2'; clear hl2 hd2 hx2'
  by_cases hlong : 100 < m
  · clear hd
    go_wp2_with fail
    go_ret
    exact ⟨rfl, HX2.out⟩
  · go_wp2_with fail
    clear hd
    obtain ⟨w3, hw3⟩ : ∃ w3, w2.setCell ⟨lb + 1, 0, none⟩ (.int .i64 d) = w3 := ⟨_, rfl⟩
    have hl3 : Var w3 lb v 22 := by rw [← hw3]; exact HL2.out.set_other _ _ (by simp)
    have hd3 : Var w3 (lb + 1) (.int .i64 d) 3 := by rw [← hw3]; exact Var.put HD2.out _
    have hx3 : Ext No w w3 := by rw [← hw3]; exact HX2.out.setCell _ _ (fun h => by have := HLB.out; simp at h; omega)
    have hs3 : w3.heap.size = w2.heap.size := by rw [← hw3]; simp
    rw [hw3, ← hs3]
    clear hw3 HL2 HD2 HX2 hlc hdc hdz
    obtain ⟨w4, hw4⟩ : ∃ w4, (w3.alloc (.cells #[] 3)).alloc (.cells #[.slice (some ⟨w3.heap.size, 0, none⟩) 0 0] 22) = w4 := ⟨_, rfl⟩
    have hx4 : Ext No w3 w4 := by rw [← hw4]; exact ((Ext.refl No w3).alloc _).alloc _
    have hv4 : Var w4 (w3.heap.size + 1) (.slice (some ⟨w3.heap.size, 0, none⟩) 0 0) 22 := by
      rw [← hw4]; have := Blk.new (w3.alloc (.cells #[] 3)) #[.slice (some ⟨w3.heap.size, 0, none⟩) 0 0] 22; rw [World.size_alloc] at this; exact this
    have ho4 : w4.ownsRow w3.heap.size 3 1 (.slice (some ⟨w3.heap.size, 0, none⟩) 0 0) 0 [] := by
      rw [← hw4]; exact (World.ownsRow_made w3 #[] 0 (Nat.le_refl _) (by unfold maxLen; omega) rfl).alloc _
    have hs4 : w4.heap.size = w3.heap.size + 2 := by rw [← hw4]; simp
    rw [hw4]; clear hw4
    have hl4 := hl3.ext hx4 (fun x => x)
    have hd4 := hd3.ext hx4 (fun x => x)
    have hx4' := hx3.trans' hx4
    have hw3s : lb + 2 ≤ w3.heap.size := by omega
    clear hl3 hd3 hx3 hx4 hs3
    generalize w3.heap.size = B at *
    have hb1 : Var (w4.alloc (.cells #[.int .i64 0] 26)) w4.heap.size (.int .i64 0) 26 := Blk.new w4 _ _
    have hlB := HLB.out
    have hbody := nests1_any B w4.heap.size lb (B + 1) l v (w4.alloc (.cells #[.int .i64 0] 26)) (by rw [← HM.out]; exact (HL.out.ext0 hx4').ext0 ((Ext.refl No w4).alloc _)) (by rw [← HM.out]; omega) (hl4.alloc _)
      ⟨Ext.refl _ _, hb1, _, hv4.alloc _, by rw [List.take_zero]; exact ho4.alloc _⟩ (by rw [← HM.out]; intro h0 j hj; have := HVL.out h0 j hj; omega) (by rw [World.size_alloc]; omega)
    have hrun := run_ext (fun j => j = B + 1 ∨ (B ≤ j ∧ j ≠ w4.heap.size)) 16 #[.pointer (some ⟨lb, 0, none⟩), .pointer (some ⟨B + 1, 0, none⟩)] w4
      (fun n w' => n = 0 ∧ ∃ v, Var w' (B + 1) v 22 ∧ w'.ownsRow B 3 1 v m (l.map (Value.int .i64)) ∧ Var w' w4.heap.size (.int .i64 0) 26) (fun w => by kernel_rfl) (by omega)
      (fun n w1 h => by
        obtain ⟨rfl, v, h1, h2, h3⟩ := h
        exact ⟨rfl, v, h1.set_other _ _ (by simp; omega), own_ext h2 ((Ext.refl (fun j => j = w4.heap.size) w1).setCell _ _ (fun _ => rfl)) (fun j hj e => by subst e; exact own_ne_type h2 h3 (by decide) hj), Var.put h3 _⟩)
      (hbody.mono (by
        rintro e w' ⟨n, he, hx, rfl, hs⟩
        refine ⟨0, he, hx, rfl, ?_⟩
        obtain ⟨v, h1, h2⟩ := hs.row
        rw [List.take_length] at h2
        exact ⟨v, h1, by rw [HM.out]; exact h2, hs.cell⟩))
    clear hbody hb1
    have HR := Lib.hid hrun; have HX4 := Lib.hid hx4'; have HB4 := Lib.hid (And.intro hw3s hs4); have HHL := Lib.hid hl4
    have HD4 := Lib.hid hd4
    clear hrun hx4' hv4 ho4 hl4 hd4 hlB hc1 hc2
    refine HR.out.mono ?_
    clear HR
    rintro e w5 ⟨n, rfl, hx5, rfl, vs, hvs, hows, -⟩
    have hlc := Var.get (HHL.out.ext hx5 (by have := HB4.out; omega))
    have hd5 := HD4.out.ext hx5 (by have := HB4.out; omega)
    have hx5' : Ext No w w5 := HX4.out.trans hx5 (fun _ _ x => x) (by intro i hi h; have := HB4.out; have := HLB.out; omega)
    have hsc := Var.get hvs
    have hsame := sameInts_any l vs v w5 (by rw [← HM.out]; exact (IsRow.of_own hows).congr (fun i hi => get_ints l i (by rw [← HM.out]; exact hi))) (by rw [← HM.out]; exact HL.out.ext0 hx5') (by rw [← HM.out]; exact hm)
    have HSM := Lib.hid hsame; have HX5 := Lib.hid hx5'; have HD5 := Lib.hid hd5; have HVV5 := Lib.hid hlc
    clear hx5 hx5' hsame hvs hows hd5 HX4 HHL HD4
    go_wp2_with fail
    clear hsc hlc
    refine HSM.out.mono ?_
    clear HSM
    rintro e w6 ⟨rfl, hdr⟩
    have hx6 := hdr.ext No
    have hd6 := HD5.out.ext hx6 (fun x => x)
    have hx6' := HX5.out.trans' hx6
    have HX6 := Lib.hid hx6'; have HD6 := Lib.hid hd6
    clear hdr hx6 hd6 hx6' HX5 HD5 HVV5
    go_wp2_with fail
    refine (newFuse_any 0 (by decide) w6).mono ?_
    rintro e w7 ⟨rfl, hw7⟩
    have hf7 : Var w7 w6.heap.size (.int .i64 0) 47 := by rw [hw7]; exact Blk.new w6 _ _
    have hx67 : Ext No w6 w7 := by rw [hw7]; exact (Ext.refl No w6).alloc _
    have hs7 : w7.heap.size = w6.heap.size + 1 := by rw [hw7]; simp
    clear hw7
    have hd7 := HD6.out.ext hx67 (fun x => x)
    have hx7 := HX6.out.trans' hx67
    generalize w6.heap.size = fb at *
    have HF7 := Lib.hid hf7; have HD7 := Lib.hid hd7; have HX7 := Lib.hid hx7
    clear hf7 hd7 hx7 hx67 HX6 HD6
    go_wp2_with fail
    obtain ⟨w8, hw8⟩ : ∃ w8, (w7.alloc (.cells #[.pointer (some ⟨fb, 0, none⟩)] 36)).alloc (.cells #[.int .i64 0] 3) = w8 := ⟨_, rfl⟩
    have hp8 : Var w8 w7.heap.size (.pointer (some ⟨fb, 0, none⟩)) 36 := by rw [← hw8]; exact (Blk.new w7 _ _).alloc _
    have hb8 : Var w8 (w7.heap.size + 1) (.int .i64 0) 3 := by
      rw [← hw8]; have := Blk.new (w7.alloc (.cells #[.pointer (some ⟨fb, 0, none⟩)] 36)) #[.int .i64 0] 3; rw [World.size_alloc] at this; exact this
    have hx78 : Ext No w7 w8 := by rw [← hw8]; exact ((Ext.refl No w7).alloc _).alloc _
    rw [hw8]; clear hw8
    have hf8 := HF7.out.ext hx78 (fun x => x)
    have hd8 := HD7.out.ext hx78 (fun x => x)
    have hx8 := HX7.out.trans' hx78
    generalize w7.heap.size = pb at *
    have hxa : Ext No w8 ((w8.alloc (.cells #[.pointer (some ⟨fb, 0, none⟩)] 36)).alloc (.cells #[.bool false] 4)) := ((Ext.refl No w8).alloc _).alloc _
    have hcatch := catch_blown No fb 21 #[.pointer (some ⟨lb + 1, 0, none⟩), .pointer (some ⟨pb, 0, none⟩), .pointer (some ⟨pb + 1, 0, none⟩)] w8
      (fun _ => True) (fun w => by kernel_rfl) (fun _ _ h => h)
      (nests2_any (lb + 1) pb fb (pb + 1) d (by assumption) _ (hd8.ext hxa (fun x => x)) ⟨hp8.ext hxa (fun x => x), hf8.ext hxa (fun x => x)⟩)
    subst hs7
    have HC := Lib.hid hcatch; have HX8 := Lib.hid hx8; have HB8 := Lib.hid hb8
    clear hcatch hx8 hb8 hp8 hf8 hd8 hxa hx78 HF7 HD7 HX7
    refine HC.out.mono ?_
    clear HC
    rintro e w9 ⟨rfl, hx9, -⟩
    have hbc := Var.get (HB8.out.ext hx9 (fun x => x))
    have HX9 := Lib.hid (HX8.out.trans' hx9)
    clear hx9 HX8 HB8
    go_wp2_with fail
    go_ret
    exact ⟨rfl, HX9.out⟩

theorem guardNests_fr (l : List Int) (v : Value) (d0 : Int) (w : World) (hl : IsRow w (int64 l) l.length v) (hm : l.length ≤ 9223372036854775807) (_ : ∀ n ∈ l, -9223372036854775808 ≤ n ∧ n ≤ 9223372036854775807)
    (_ : -9223372036854775808 ≤ d0) (_ : d0 ≤ 9223372036854775807) :
    Calls Try.prog 4 #[v, .int .i64 d0] w fun e w' => e = .returned (.bool true) ∧ Ext No w w' := guardNests_any l d0 v w hl hm

end Go.Proofs.Ythdbgldjcnhboaa
