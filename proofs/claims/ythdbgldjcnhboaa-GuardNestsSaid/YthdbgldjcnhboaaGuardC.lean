/- The walk of coldstorelaw01.alive, and of the reference's First and SameInts. -/
import Derived.Test.YthdbgldjcnhboaaGuardB
namespace Go.Proofs.Ythdbgldjcnhboaa
open Go.RowKit Go.My

/-- a variable of its own that a closure holds: a block of one cell -/
abbrev Var (w : World) (b : Nat) (v : Value) (T : TypeId) : Prop := Blk w b #[v] T
theorem Var.get {w : World} {b : Nat} {v : Value} {T : TypeId} (h : Var w b v T) : w.cell? ⟨b, 0, none⟩ = some v := by rw [h.cell]; rfl
theorem Var.put {w : World} {b : Nat} {v : Value} {T : TypeId} (h : Var w b v T) (u : Value) : Var (w.setCell ⟨b, 0, none⟩ u) b u T := h.set 0 u

set_option maxRecDepth 100000 in
set_option maxHeartbeats 800000 in
theorem alive1_any (pb nb fb : Nat) (w : World) (hp : Var w pb (.pointer (some ⟨fb, 0, none⟩)) 36) (hn : Var w nb (.int .i64 0) 3) (hf : Var w fb (.int .i64 2) 47)
    (hd : pb ≠ nb ∧ pb ≠ fb ∧ nb ≠ fb) :
    Calls Try.prog 34 #[.pointer (some ⟨pb, 0, none⟩), .pointer (some ⟨nb, 0, none⟩)] w
      (Blows (fun k => k = nb ∨ k = fb) fb w (fun w' => Var w' nb (.int .i64 2) 3 ∧ Var w' fb (.int .i64 0) 47)) := by
  have HP := Lib.hid hp; have HN := Lib.hid hn; have HF := Lib.hid hf; clear hp hn hf
  obtain ⟨d1, d2, d3⟩ := hd
  go_enter Try.func34, Try.ntmps34
  go_wp2_with fail
  go_loopw [2] (fun i wr => ∃ k : Nat, k ≤ 2 ∧ i = .int .i64 k ∧ Ext (fun k => k = nb ∨ k = fb) w wr ∧ Var wr nb (.int .i64 k) 3 ∧ Var wr fb (.int .i64 (2 - k : Int)) 47) (fun i _ => 2 - (intOf i).toNat)
  case atStart => exact ⟨0, by omega, rfl, Ext.refl _ w, HN.out, HF.out⟩
  case round =>
    clear HN HF
    obtain ⟨k, hk, rfl, he, hn, hf⟩ := hrel
    have hp := HP.out.ext he (by omega)
    have hpc := Var.get hp
    have HE := Lib.hid he; have HN := Lib.hid hn; have HF := Lib.hid hf; clear he hn hf hp
    by_cases hlt : k < 2
    · go_wp2_with fail
      refine (step_pos fb (2 - k) (by omega) (by omega) wr HF.out).mono ?_
      rintro e w2 ⟨rfl, rfl⟩
      have hn2 := HN.out.set_other ⟨fb, 0, none⟩ (.int .i64 (2 - k - 1 : Int)) d3
      have hnc := Var.get hn2
      have hnf := hn2.free 0
      have HN2 := Lib.hid hn2; clear hn2 HN
      go_wp2_with fail
      go_roundw
      case rel =>
        refine ⟨k + 1, by omega, by go_num, (HE.out.setCell _ _ (fun _ => .inr rfl)).setCell _ _ (fun _ => .inl rfl), ?_, ?_⟩
        · have := Var.put HN2.out (.int .i64 (k + 1 : Int)); exact this
        · have := (HF.out.set 0 (.int .i64 (2 - k - 1 : Int))).set_other ⟨nb, 0, none⟩ (.int .i64 (k + 1 : Int)) d3.symm
          rw [show (2 : Int) - ((k + 1 : Nat) : Int) = 2 - k - 1 by omega]
          exact this
      case measure => simp [intOf]; omega
    · obtain rfl : k = 2 := by omega
      go_wp2_with fail
      refine (step_zero fb wr HF.out).mono ?_
      rintro e w2 ⟨rfl, rfl⟩
      exact ⟨rfl, [], rfl, by simp, HE.out, HN.out, HF.out⟩

set_option maxRecDepth 100000 in
set_option maxHeartbeats 400000 in
theorem alive2_any (S : Nat → Prop) (w : World) : Calls Try.prog 35 #[] w (Body S w (fun n _ => n = 21)) := by
  go_enter Try.func35, Try.ntmps35
  go_wp2_with fail
  refine (must_no 21 (by decide) w).mono ?_
  rintro e w2 ⟨rfl, rfl⟩
  exact ⟨rfl, 21, .inr ⟨rfl, by decide⟩, Ext.refl S w, rfl⟩
set_option maxRecDepth 100000 in
set_option maxHeartbeats 400000 in
theorem alive3_any (db : Nat) (w : World) (v : Value) (hd : Var w db v 3) : Calls Try.prog 36 #[.pointer (some ⟨db, 0, none⟩)] w (Body (fun k => k = db) w (fun n w' => n = 0 ∧ Var w' db (.int .i64 7) 3)) := by
  have hc := Var.get hd
  have hz := hd.free 0
  have HD := Lib.hid hd; clear hd
  go_enter Try.func36, Try.ntmps36
  go_wp2_with fail
  refine (valueI_ok 7 w).mono ?_
  rintro e w2 ⟨rfl, rfl⟩
  go_wp2_with fail
  go_end0
  exact ⟨0, .inl ⟨rfl, rfl⟩, (Ext.refl _ w).setCell _ _ (fun _ => rfl), rfl, Var.put HD.out _⟩
set_option maxRecDepth 100000 in
set_option maxHeartbeats 400000 in
theorem alive4_any (w : World) : Calls Try.prog 37 #[] w fun e w' => e = .returned (.int .i64 0) ∧ w = w' := by
  go_enter Try.func37, Try.ntmps37
  go_wp2_with fail
  go_ret
  exact ⟨rfl, rfl⟩
set_option maxRecDepth 100000 in
set_option maxHeartbeats 400000 in
theorem alive5_any (w : World) : Calls Try.prog 38 #[] w fun e w' => e = .returned (.int .i64 22) ∧ w = w' := by
  go_enter Try.func38, Try.ntmps38
  go_wp2_with fail
  go_ret
  exact ⟨rfl, rfl⟩

theorem neq_nil_fuse (a : Addr) (w : World) : (binOp .eql 36 (.pointer (some a)) (.pointer none)).run Try.prog w = .ok (.bool false) w := by kernel_rfl

set_option maxRecDepth 100000 in
set_option maxHeartbeats 2000000 in
theorem alive_any (w : World) : Calls Try.prog 7 #[] w fun e w' => e = .returned (.bool true) ∧ Ext No w w' := by
  have hmf := mkf
  go_enter Try.func7, Try.ntmps7
  go_wp2_with fail
  refine (newFuse_any 2 (by decide) w).mono ?_
  rintro e w1 ⟨rfl, hw1⟩
  have hf1 : Var w1 w.heap.size (.int .i64 2) 47 := by rw [hw1]; exact Blk.new w _ _
  have he1 : Ext No w w1 := by rw [hw1]; exact (Ext.refl No w).alloc _
  have hs : w1.heap.size = w.heap.size + 1 := by rw [hw1]; simp
  clear hw1
  obtain ⟨fb, hfb⟩ : ∃ fb, fb = w.heap.size := ⟨_, rfl⟩
  rw [← hfb] at hf1 hs ⊢
  have HF1 := Lib.hid hf1; have HE1 := Lib.hid he1; have HS := Lib.hid hs; have HFB := Lib.hid hfb; clear hf1 he1 hs hfb
  go_wp2_with fail
  have hv2 := (Blk.new w1 #[.pointer (some ⟨fb, 0, none⟩)] 36)
  have hf2 := HF1.out.alloc (.cells #[.pointer (some ⟨fb, 0, none⟩)] 36)
  have he2 := HE1.out.alloc (.cells #[.pointer (some ⟨fb, 0, none⟩)] 36)
  refine (left_any fb 2 _ hf2).mono ?_
  rintro e w2 ⟨rfl, hw2⟩
  rw [hw2] at hv2 hf2 he2
  have hpb : w1.heap.size = fb + 1 := by have := HS.out; have := HFB.out; omega
  rw [hpb] at hv2 ⊢
  have hs2 : w2.heap.size = fb + 2 := by rw [← hw2, World.size_alloc, hpb]
  clear hw2 HF1 HE1 HS hpb
  have hpc := Var.get hv2
  have hpl : fb + 1 < w2.heap.size := by omega
  have HV2 := Lib.hid hv2; have HF2 := Lib.hid hf2; have HE2 := Lib.hid he2; have HS2 := Lib.hid hs2; clear hv2 hf2 he2 hs2
  go_wp2_with fail
  obtain ⟨w3, hw3⟩ : ∃ w3, w2.alloc (.cells #[.int .i64 0] 3) = w3 := ⟨_, rfl⟩
  have hn3 : Var w3 (fb + 2) (.int .i64 0) 3 := by rw [← hw3, ← HS2.out]; exact Blk.new w2 _ _
  have hp3 : Var w3 (fb + 1) (.pointer (some ⟨fb, 0, none⟩)) 36 := by rw [← hw3]; exact HV2.out.alloc _
  have hf3 : Var w3 fb (.int .i64 2) 47 := by rw [← hw3]; exact HF2.out.alloc _
  have he3 : Ext No w w3 := by rw [← hw3]; exact HE2.out.alloc _
  have hs3 : w3.heap.size = fb + 3 := by rw [← hw3, World.size_alloc, HS2.out]
  rw [hw3, HS2.out]
  clear hw3 hpc hpl HV2 HF2 HE2 HS2
  have hcatch := catch_blown (fun k => k = fb + 2 ∨ k = fb) fb 34 #[.pointer (some ⟨fb + 1, 0, none⟩), .pointer (some ⟨fb + 2, 0, none⟩)] w3
    (fun w' => Var w' (fb + 2) (.int .i64 2) 3 ∧ Var w' fb (.int .i64 0) 47) (fun w => by kernel_rfl) (by intro k hk; omega)
    (alive1_any (fb + 1) (fb + 2) fb _ ((hp3.alloc _).alloc _) ((hn3.alloc _).alloc _) ((hf3.alloc _).alloc _) (by omega))
  have HC := Lib.hid hcatch; clear hcatch
  have HP3 := Lib.hid hp3; have HE3 := Lib.hid he3; have HS3 := Lib.hid hs3; clear hp3 hf3 he3 hs3 hn3
  refine HC.out.mono ?_
  clear HC
  rintro e w4 ⟨rfl, hx4, w4', ⟨hn4', hf4'⟩, hx4'⟩
  have hn4 := hn4'.ext hx4' (by rw [HS3.out]; omega)
  have hf4 := hf4'.ext hx4' (by rw [HS3.out]; omega)
  have hp4 := HP3.out.ext hx4 (by omega)
  have he4 : Ext No w w4 := HE3.out.trans hx4 (fun _ _ x => x) (by intro i hi x; have := HFB.out; omega)
  have hs4 : fb + 3 ≤ w4.heap.size := by rw [← HS3.out]; exact hx4.size
  clear hx4 hx4' hn4' hf4' HP3 HE3 HS3
  have HN4 := Lib.hid hn4; have HF4 := Lib.hid hf4; have HP4 := Lib.hid hp4; have HE4 := Lib.hid he4; have HS4 := Lib.hid hs4; clear hn4 hf4 hp4 he4 hs4
  go_wp2_with fail
  have hr := run_ext No 35 #[] w4 (fun n _ => n = 21) (fun w => by kernel_rfl) (fun x => x) (fun n w1 h => h) (alive2_any No _)
  have HR := Lib.hid hr; clear hr
  refine HR.out.mono ?_
  clear HR
  rintro e w5 ⟨n, rfl, hx5, rfl⟩
  have hn5 := HN4.out.ext hx5 (fun x => x)
  have hf5 := HF4.out.ext hx5 (fun x => x)
  have hp5 := HP4.out.ext hx5 (fun x => x)
  have he5 := HE4.out.trans' hx5
  have hs5 : fb + 3 ≤ w5.heap.size := Nat.le_trans HS4.out hx5.size
  clear hx5 HN4 HF4 HP4 HE4 HS4
  have HN5 := Lib.hid hn5; have HF5 := Lib.hid hf5; have HP5 := Lib.hid hp5; have HE5 := Lib.hid he5; have HS5 := Lib.hid hs5; clear hn5 hf5 hp5 he5 hs5
  go_wp2_with fail
  obtain ⟨w6, hw6⟩ : ∃ w6, w5.alloc (.cells #[.int .i64 0] 3) = w6 := ⟨_, rfl⟩
  have hd6 : Var w6 w5.heap.size (.int .i64 0) 3 := by rw [← hw6]; exact Blk.new w5 _ _
  have hx6 : Ext No w5 w6 := by rw [← hw6]; exact (Ext.refl No w5).alloc _
  have hs6 : w5.heap.size < w6.heap.size := by rw [← hw6, World.size_alloc]; omega
  rw [hw6]
  clear hw6
  have hn6 := HN5.out.ext hx6 (fun x => x)
  have hf6 := HF5.out.ext hx6 (fun x => x)
  have hp6 := HP5.out.ext hx6 (fun x => x)
  have he6 := HE5.out.trans' hx6
  have hs5 := HS5.out
  clear hx6 HN5 HF5 HP5 HE5 HS5
  generalize w5.heap.size = db at *
  have hr := run_ext (fun k => k = db) 36 #[.pointer (some ⟨db, 0, none⟩)] w6 (fun n w' => n = 0 ∧ Var w' db (.int .i64 7) 3) (fun w => by kernel_rfl) (by omega)
    (fun n w1 h => ⟨h.1, h.2.set_other _ _ (by simp; omega)⟩) (alive3_any db _ _ (hd6.alloc _))
  have HR := Lib.hid hr; clear hr hd6
  have HN6 := Lib.hid hn6; have HF6 := Lib.hid hf6; have HP6 := Lib.hid hp6; have HE6 := Lib.hid he6; have HS6 := Lib.hid (And.intro hs5 hs6); clear hn6 hf6 hp6 he6 hs5 hs6
  refine HR.out.mono ?_
  clear HR
  rintro e w7 ⟨n, rfl, hx7, rfl, hd7⟩
  have hn7 := HN6.out.ext hx7 (by have := HS6.out; omega)
  have hf7 := HF6.out.ext hx7 (by have := HS6.out; omega)
  have hp7 := HP6.out.ext hx7 (by have := HS6.out; omega)
  have he7 : Ext No w w7 := HE6.out.trans hx7 (fun _ _ x => x) (by intro i hi x; have := HFB.out; have := HS6.out; omega)
  clear hx7 HN6 HF6 HP6 HE6 HS6
  have HN7 := Lib.hid hn7; have HF7 := Lib.hid hf7; have HP7 := Lib.hid hp7; have HE7 := Lib.hid he7; have HD7 := Lib.hid hd7; clear hn7 hf7 hp7 he7 hd7
  go_wp2_with fail
  obtain ⟨w8, hw8⟩ : ∃ w8, w7.alloc (.cells #[.func (.func 37) #[] #[], .func (.func 38) #[] #[]] 31) = w8 := ⟨_, rfl⟩
  have hx8 : Ext No w7 w8 := by rw [← hw8]; exact (Ext.refl No w7).alloc _
  have hb8 := Blk.new w7 #[.func (.func 37) #[] #[], .func (.func 38) #[] #[]] 31
  rw [hw8] at hb8 ⊢
  clear hw8
  have hn8 := HN7.out.ext hx8 (fun x => x)
  have hf8 := HF7.out.ext hx8 (fun x => x)
  have hp8 := HP7.out.ext hx8 (fun x => x)
  have hd8 := HD7.out.ext hx8 (fun x => x)
  have he8 := HE7.out.trans' hx8
  clear hx8 HN7 HF7 HP7 HE7 HD7
  generalize w7.heap.size = sb at *
  have hall := all_any 2 (.slice (some ⟨sb, 0, none⟩) 2 2) (fun i => if i = 0 then 37 else 38) (fun _ => #[]) [0, 22] (fun _ w' => w8 = w') w8 rfl
    (fun i w => by by_cases h : i = 0 <;> simp only [h, if_true, if_false] <;> kernel_rfl)
    (fun i w' h => ⟨_, 2, rfl, by omega, by omega, by
      subst h
      refine Rd.of_blk hb8 ?_
      intro i hi
      rcases (by omega : i = 0 ∨ i = 1) with rfl | rfl <;> rfl⟩)
    (fun i w' hi h => by
      subst h
      rcases (by omega : i = 0 ∨ i = 1) with rfl | rfl
      · exact alive4_any _
      · exact alive5_any _) rfl
  rw [show firstN [0, 22] = 1 from by decide, show firstE [0, 22] = 22 from by decide] at hall
  have HA := Lib.hid hall; clear hall hb8
  have HN8 := Lib.hid hn8; have HF8 := Lib.hid hf8; have HP8 := Lib.hid hp8; have HE8 := Lib.hid he8; have HD8 := Lib.hid hd8; clear hn8 hf8 hp8 he8 hd8
  refine HA.out.mono ?_
  clear HA
  rintro e w9 ⟨rfl, rfl⟩
  have c1 := Var.get HN8.out
  have c2 := Var.get HP8.out
  have c3 := Var.get HD8.out
  go_wp2_with fail
  refine (left_any fb 0 w8 HF8.out).mono ?_
  rintro e w9 ⟨rfl, rfl⟩
  go_wp2_with fail
  refine (run_nil w8).mono ?_
  rintro e w9 ⟨rfl, hx9⟩
  go_wp2_with fail
  go_ret
  exact ⟨rfl, HE8.out.trans' hx9⟩

end Go.Proofs.Ythdbgldjcnhboaa
