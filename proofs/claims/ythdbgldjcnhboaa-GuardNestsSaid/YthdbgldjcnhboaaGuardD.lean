/- The walk of coldstorelaw01.GuardLast. -/
import Derived.Test.YthdbgldjcnhboaaGuardC
namespace Go.Proofs.Ythdbgldjcnhboaa
open Go.RowKit Go.My

/-- guard.Must by cases -/
theorem must_any (S : Nat → Prop) (n : Int) (w : World) : Calls Try.prog 11 #[.int .i64 n] w (Body S w (fun m w' => m = n ∧ w = w')) := by
  by_cases h : n = 0
  · subst h
    exact (must_ok w).mono fun e w' ⟨he, hw⟩ => ⟨0, .inl ⟨he, rfl⟩, hw ▸ Ext.refl S w, rfl, hw⟩
  · exact (must_no n h w).mono fun e w' ⟨he, hw⟩ => ⟨n, .inr ⟨he, h⟩, hw ▸ Ext.refl S w, rfl, hw⟩

set_option maxRecDepth 100000 in
set_option maxHeartbeats 400000 in
theorem last1_any (S : Nat → Prop) (eb : Nat) (n : Int) (w : World) (h : Var w eb (.int .i64 n) 3) :
    Calls Try.prog 29 #[.pointer (some ⟨eb, 0, none⟩)] w (Body S w (fun m _ => m = n)) := by
  have hc := Var.get h
  clear h
  go_enter Try.func29, Try.ntmps29
  go_wp2_with fail
  refine (must_any S n w).mono ?_
  rintro e w2 ⟨m, he, -, hm, rfl⟩
  subst hm
  clear hc
  rcases he with ⟨rfl, rfl⟩ | ⟨rfl, hn0⟩
  · go_wp2_with fail
    go_end0
    exact ⟨0, .inl ⟨rfl, rfl⟩, Ext.refl S w, rfl⟩
  · exact ⟨rfl, m, .inr ⟨rfl, hn0⟩, Ext.refl S w, rfl⟩
set_option maxRecDepth 100000 in
set_option maxHeartbeats 400000 in
theorem last31_any (S : Nat → Prop) (eb : Nat) (n : Int) (w : World) (h : Var w eb (.int .i64 n) 3) :
    Calls Try.prog 32 #[.pointer (some ⟨eb, 0, none⟩)] w (Body S w (fun m _ => m = n)) := by
  have hc := Var.get h
  clear h
  go_enter Try.func32, Try.ntmps32
  go_wp2_with fail
  refine (must_any S n w).mono ?_
  rintro e w2 ⟨m, he, -, hm, rfl⟩
  subst hm
  clear hc
  rcases he with ⟨rfl, rfl⟩ | ⟨rfl, hn0⟩
  · go_wp2_with fail
    go_end0
    exact ⟨0, .inl ⟨rfl, rfl⟩, Ext.refl S w, rfl⟩
  · exact ⟨rfl, m, .inr ⟨rfl, hn0⟩, Ext.refl S w, rfl⟩
set_option maxRecDepth 100000 in
set_option maxHeartbeats 400000 in
theorem last2_any (nb fb : Nat) (n : Int) (w : World) (h : Var w nb (.int .i64 0) 3) (h2 : Var w fb (.int .i64 n) 3) (hne : fb ≠ nb) :
    Calls Try.prog 30 #[.pointer (some ⟨nb, 0, none⟩), .pointer (some ⟨fb, 0, none⟩)] w (Body (fun k => k = nb) w (fun m w' => m = n ∧ Var w' nb (.int .i64 1) 3)) := by
  have hc := Var.get h
  have hz := h.free 0
  have hc2 := Var.get h2
  have HH := Lib.hid h
  clear h h2
  go_enter Try.func30, Try.ntmps30
  go_wp2_with fail
  refine (must_any No n _).mono ?_
  rintro e w2 ⟨m, he, -, hm, rfl⟩
  subst hm
  clear hc hc2 hz
  have hx : Ext (fun k => k = nb) w (w.setCell ⟨nb, 0, none⟩ (.int .i64 1)) := (Ext.refl _ w).setCell _ _ (fun _ => rfl)
  rcases he with ⟨rfl, rfl⟩ | ⟨rfl, hn0⟩
  · go_wp2_with fail
    go_end0
    exact ⟨0, .inl ⟨rfl, rfl⟩, hx, rfl, Var.put HH.out _⟩
  · exact ⟨rfl, m, .inr ⟨rfl, hn0⟩, hx, rfl, Var.put HH.out _⟩
set_option maxRecDepth 100000 in
set_option maxHeartbeats 400000 in
theorem last3_any (eb ib fb : Nat) (n m : Int) (w : World) (h : Var w eb (.int .i64 n) 3) (h2 : Var w fb (.int .i64 m) 3) (h3 : Var w ib (.int .i64 0) 26) (hne : fb ≠ ib) :
    Calls Try.prog 31 #[.pointer (some ⟨eb, 0, none⟩), .pointer (some ⟨ib, 0, none⟩), .pointer (some ⟨fb, 0, none⟩)] w (Body (fun k => k = ib) w (fun r w' => r = m ∧ Var w' ib (.int .i64 n) 26)) := by
  have HH := Lib.hid h; have HH2 := Lib.hid h2; have HH3 := Lib.hid h3
  clear h h2 h3
  have hmf := mkf
  go_enter Try.func31, Try.ntmps31
  go_wp2_with fail
  refine (run_ext No 32 #[.pointer (some ⟨eb, 0, none⟩)] w (fun r _ => r = n) (fun w => by kernel_rfl) (fun x => x) (fun _ _ h => h) (last31_any No eb n _ (HH.out.alloc _))).mono ?_
  rintro e w2 ⟨r, rfl, hx2, rfl⟩
  have hi := HH3.out.ext hx2 (fun x => x)
  have hf := HH2.out.ext hx2 (fun x => x)
  have hic := Var.get hi
  have hiz := hi.free 0
  have hfc := Var.get hf
  have HI := Lib.hid hi; have HX := Lib.hid hx2; clear hi hf hx2
  go_wp2_with fail
  refine (must_any No m _).mono ?_
  rintro e w3 ⟨q, he, -, hm, rfl⟩
  subst hm
  clear hic hiz hfc
  have hx := (HX.out.mono (T := fun k => k = ib) (fun _ _ h => h.elim)).setCell ⟨ib, 0, none⟩ (.int .i64 r) (fun _ => rfl)
  rcases he with ⟨rfl, rfl⟩ | ⟨rfl, hn0⟩
  · go_wp2_with fail
    go_end0
    exact ⟨0, .inl ⟨rfl, rfl⟩, hx, rfl, Var.put HI.out _⟩
  · exact ⟨rfl, q, .inr ⟨rfl, hn0⟩, hx, rfl, Var.put HI.out _⟩

def FinPost (S : Nat → Prop) (rb : Nat) (n : Int) (Q : Int → World → Prop) (w : World) (e : Ending) (w' : World) : Prop :=
  ∃ m : Int, e = .returned (.tuple #[]) ∧ Ext (fun k => S k ∨ k = rb) w w' ∧
      Var w' rb (.int .i64 (if n = 0 then m else n)) 26 ∧ ∃ w1, Q m w1 ∧ (w' = w1 ∨ w' = w1.setCell ⟨rb, 0, none⟩ (.int .i64 m))

set_option maxRecDepth 100000 in
set_option maxHeartbeats 400000 in
theorem fin1_any (lb rb : Nat) (u : FrameMode) (K : FuncId) (cap : Array Value) (n : Int) (S : Nat → Prop) (Q : Int → World → Prop) (w : World)
    (hl : Var w lb (.func (.func K) #[] cap) 1) (hr : Var w rb (.int .i64 n) 26) (hS : ¬ S rb)
    (hrun : Calls Try.prog 9 #[.func (.func K) #[] cap] w (Ran S w Q)) :
    CallsD Try.prog 42 #[.pointer (some ⟨lb, 0, none⟩), .pointer (some ⟨rb, 0, none⟩)] u w fun e u' w' => u' = u ∧ FinPost S rb n Q w e w' := by
  have hlc := Var.get hl
  have HR := Lib.hid hr; have HRUN := Lib.hid hrun
  clear hl hr hrun
  go_enter_d Try.func42, Try.ntmps42
  go_wp2_with fail
  refine HRUN.out.mono ?_
  rintro e w2 ⟨m, rfl, hx2, hq⟩
  have hr2 := HR.out.ext hx2 hS
  have hrc := Var.get hr2
  have hrz := hr2.free 0
  have HR2 := Lib.hid hr2; have HX := Lib.hid hx2; have HQ := Lib.hid hq; clear hr2 hx2 hq
  by_cases hn : n = 0
  · subst hn
    go_wp2_with fail
    go_end0
    exact ⟨m, rfl, (HX.out.mono (fun _ _ h => .inl h)).setCell _ _ (fun _ => .inr rfl), by rw [if_pos rfl]; exact Var.put HR2.out _, w2, HQ.out, .inr rfl⟩
  · have hb : (n == 0) = false := by simpa using hn
    have HN := Lib.hid hn; clear hn
    go_wp2_with fail
    go_end0
    exact ⟨m, rfl, HX.out.mono (fun _ _ h => .inl h), by rw [if_neg HN.out]; exact HR2.out, w2, HQ.out, .inl rfl⟩

def FinallyPost (S1 S2 : Nat → Prop) (Q1 Q2 : Int → World → Prop) (w : World) (e : Ending) (w' : World) : Prop :=
  ∃ n m : Int, e = .returned (.int .i64 (if n = 0 then m else n)) ∧ Ext (fun k => S1 k ∨ S2 k) w w' ∧ (∃ w3, Q1 n w3) ∧ ∃ w1, Q2 m w1 ∧ (w' = w1 ∨ w' = w1.setCell ⟨w.heap.size + 1, 0, none⟩ (.int .i64 m))

set_option maxRecDepth 100000 in
set_option maxHeartbeats 400000 in
theorem finally_any (S1 S2 : Nat → Prop) (Q1 Q2 : Int → World → Prop) (K1 K2 : FuncId) (cap1 cap2 : Array Value) (w w2 : World)
    (hw2 : w2 = (w.alloc (.cells #[.func (.func K2) #[] cap2] 1)).alloc (.cells #[.int .i64 0] 26))
    (hS1 : ∀ k, w.heap.size ≤ k → ¬ S1 k) (hS2 : ∀ k, w.heap.size ≤ k → ¬ S2 k)
    (h1 : Calls Try.prog 9 #[.func (.func K1) #[] cap1] w2 (Ran S1 w2 Q1))
    (h2 : ∀ n w3, Ext S1 w2 w3 → Q1 n w3 → Calls Try.prog 9 #[.func (.func K2) #[] cap2] (w3.setCell ⟨w.heap.size + 1, 0, none⟩ (.int .i64 n)) (Ran S2 (w3.setCell ⟨w.heap.size + 1, 0, none⟩ (.int .i64 n)) Q2)) :
    Calls Try.prog 28 #[.func (.func K1) #[] cap1, .func (.func K2) #[] cap2] w (FinallyPost S1 S2 Q1 Q2 w) := by
  have hmf := mkf
  subst hw2
  have H1 := Lib.hid h1; have H2 := Lib.hid h2; clear h1 h2
  go_enter_defers Try.func28, Try.ntmps28
  go_wp2_with fail
  refine H1.out.mono ?_
  rintro e w3 ⟨n, rfl, hx3, hq⟩
  have hl := ((Blk.new w #[.func (.func K2) #[] cap2] 1).alloc (.cells #[.int .i64 0] 26)).ext hx3 (hS1 _ (by omega))
  have hr := (Blk.new (w.alloc (.cells #[.func (.func K2) #[] cap2] 1)) #[.int .i64 0] 26).ext hx3 (hS1 _ (by simp))
  rw [World.size_alloc] at hr
  have hrc := Var.get hr
  have hrz := hr.free 0
  have hx0 : Ext S1 w w3 := ((Ext.refl S1 w).alloc (.cells #[.func (.func K2) #[] cap2] 1)).alloc (.cells #[.int .i64 0] 26) |>.trans' hx3
  have HL := Lib.hid hl; have HR := Lib.hid hr; have HX0 := Lib.hid hx0; have HC2 := Lib.hid (H2.out n w3 hx3 hq); have HQ := Lib.hid hq; clear hl hr hx3 hx0 hq H1 H2
  go_wp2_with fail
  refine leaves_cons (f := 42) (args := #[.pointer (some ⟨w.heap.size, 0, none⟩), .pointer (some ⟨w.heap.size + 1, 0, none⟩)]) (by simp) (by simp [go_sem]) ?_
  refine (fin1_any w.heap.size (w.heap.size + 1) _ K2 cap2 n S2 Q2 _ (HL.out.set_other _ _ (by simp)) (HR.out.set 0 _) (hS2 _ (by omega)) HC2.out).mono ?_
  rintro e u' w'' ⟨rfl, m, rfl, hx, hv, w1, hq1, hw1⟩
  simp only []
  refine ⟨.int .i64 (if n = 0 then m else n), ?_, n, m, rfl, ?_, ⟨w3, HQ.out⟩, w1, hq1, hw1⟩
  · have hc := Var.get hv
    simp [results, Try.results28, go_sem, hc]
  · refine (HX0.out.setCell ⟨w.heap.size + 1, 0, none⟩ (.int .i64 n) (fun h => by simp at h; omega)).trans hx (fun _ _ h => .inl h) (fun i hi h => ?_)
    rcases h with h | h
    · exact .inr h
    · omega

set_option maxRecDepth 100000 in
set_option maxHeartbeats 1000000 in
theorem guardLast_any (n m : Int) (w : World) :
    Calls Try.prog 6 #[.int .i64 n, .int .i64 m] w fun e w' => e = .returned (.bool true) ∧ Ext No w w' := by
  have hmf := mkf
  go_enter Try.func6, Try.ntmps6
  go_wp2_with fail
  obtain ⟨w1, hw1⟩ : ∃ w1, (w.alloc (.cells #[.int .i64 n] 3)).alloc (.cells #[.int .i64 m] 3) = w1 := ⟨_, rfl⟩
  have he1 : Var w1 w.heap.size (.int .i64 n) 3 := by rw [← hw1]; exact (Blk.new w _ _).alloc _
  have hf1 : Var w1 (w.heap.size + 1) (.int .i64 m) 3 := by rw [← hw1]; have := Blk.new (w.alloc (.cells #[.int .i64 n] 3)) #[.int .i64 m] 3; rw [World.size_alloc] at this; exact this
  have hx1 : Ext No w w1 := by rw [← hw1]; exact ((Ext.refl No w).alloc _).alloc _
  have hs1 : w1.heap.size = w.heap.size + 2 := by rw [← hw1]; simp
  rw [hw1]; clear hw1
  obtain ⟨eb, hb⟩ : ∃ eb, w.heap.size = eb := ⟨_, rfl⟩
  rw [hb] at he1 hf1 hs1 ⊢
  have HB := Lib.hid hb; clear hb
  refine (alive_any w1).mono ?_
  rintro e w2 ⟨rfl, hx2⟩
  have he2 := he1.ext hx2 (fun x => x)
  have hf2 := hf1.ext hx2 (fun x => x)
  have hs2 : eb + 2 ≤ w2.heap.size := by rw [← hs1]; exact hx2.size
  have HX2 := Lib.hid (hx1.trans' hx2)
  clear hx1 hx2 he1 hf1 hs1
  have HE2 := Lib.hid he2; have HF2 := Lib.hid hf2; have HS2 := Lib.hid hs2; clear he2 hf2 hs2
  go_wp2_with fail
  obtain ⟨w3, hw3⟩ : ∃ w3, w2.alloc (.cells #[.int .i64 0] 3) = w3 := ⟨_, rfl⟩
  have hn3 : Var w3 w2.heap.size (.int .i64 0) 3 := by rw [← hw3]; exact Blk.new w2 _ _
  have hx3 : Ext No w2 w3 := by rw [← hw3]; exact (Ext.refl No w2).alloc _
  have hs3 : w3.heap.size = w2.heap.size + 1 := by rw [← hw3]; simp
  have he3 := HE2.out.ext hx3 (fun x => x)
  have hf3 := HF2.out.ext hx3 (fun x => x)
  have hx3' := HX2.out.trans' hx3
  have hs2 := HS2.out
  rw [hw3]; clear hw3 hx3 HE2 HF2 HX2 HS2
  generalize w2.heap.size = nb at *
  have hfin := finally_any No (fun k => k = nb) (fun r _ => r = n) (fun r w' => r = m ∧ Var w' nb (.int .i64 1) 3) 29 30
    #[.pointer (some ⟨eb, 0, none⟩)] #[.pointer (some ⟨nb, 0, none⟩), .pointer (some ⟨eb + 1, 0, none⟩)] w3 _ rfl (fun _ _ x => x) (by intro k hk; omega)
    (run_ext No 29 #[.pointer (some ⟨eb, 0, none⟩)] _ (fun r _ => r = n) (fun w => by kernel_rfl) (fun x => x) (fun _ _ h => h) (last1_any No eb n _ (((he3.alloc _).alloc _).alloc _)))
    (fun r w4 hx hq => by
      have hn4 := (((hn3.alloc (.cells #[.func (.func 30) #[] #[.pointer (some ⟨nb, 0, none⟩), .pointer (some ⟨eb + 1, 0, none⟩)]] 1)).alloc (.cells #[.int .i64 0] 26)).ext hx (fun x => x)).set_other ⟨w3.heap.size + 1, 0, none⟩ (.int .i64 r) (by simp; omega)
      have hf4 := (((hf3.alloc (.cells #[.func (.func 30) #[] #[.pointer (some ⟨nb, 0, none⟩), .pointer (some ⟨eb + 1, 0, none⟩)]] 1)).alloc (.cells #[.int .i64 0] 26)).ext hx (fun x => x)).set_other ⟨w3.heap.size + 1, 0, none⟩ (.int .i64 r) (by simp; omega)
      have hsz : w3.heap.size + 2 ≤ w4.heap.size := by have := hx.size; simp at this; omega
      refine run_ext (fun k => k = nb) 30 #[.pointer (some ⟨nb, 0, none⟩), .pointer (some ⟨eb + 1, 0, none⟩)] _ _ (fun w => by kernel_rfl) (by simp; omega) ?_
        (last2_any nb (eb + 1) m _ (hn4.alloc _) (hf4.alloc _) (by omega))
      rintro r' w5 ⟨h1, h2⟩
      exact ⟨h1, h2.set_other _ _ (by simp; omega)⟩)
  have HFIN := Lib.hid hfin; clear hfin
  have HE3 := Lib.hid he3; have HF3 := Lib.hid hf3; have HN3 := Lib.hid hn3; have HX3 := Lib.hid hx3'; have HS3 := Lib.hid (And.intro hs2 hs3); clear he3 hf3 hn3 hx3' hs2 hs3
  refine HFIN.out.mono ?_
  clear HFIN
  rintro e w4 ⟨r, q, rfl, hx4, ⟨-, rfl⟩, w5, ⟨rfl, hn5⟩, hw5⟩
  have hn4 : Var w4 nb (.int .i64 1) 3 := by
    rcases hw5 with rfl | rfl
    · exact hn5
    · exact hn5.set_other _ _ (by have := HS3.out; simp; omega)
  have he4 := HE3.out.ext hx4 (by have := HS3.out; rintro (h | h); exact h; omega)
  have hf4 := HF3.out.ext hx4 (by have := HS3.out; rintro (h | h); exact h; omega)
  have hx4' : Ext No w w4 := HX3.out.trans hx4 (fun _ _ x => x) (by intro i hi h; have := HS3.out; have := HB.out; rcases h with h | h; exact h; omega)
  have hs4 : nb < w4.heap.size := hn4.lt
  have hs4' : eb + 2 ≤ w4.heap.size := by have := hx4.size; have := HS3.out; omega
  have d1 : nb ≠ eb ∧ nb ≠ eb + 1 := by have := HS3.out; omega
  clear hx4 hw5 hn5 HE3 HF3 HN3 HX3 HS3
  have c1 := Var.get he4
  have c2 := Var.get hf4
  have HE4 := Lib.hid he4; have HF4 := Lib.hid hf4; have HN4 := Lib.hid hn4; have HX4 := Lib.hid hx4'; have HS4 := Lib.hid (And.intro hs4 hs4'); clear he4 hf4 hn4 hx4' hs4 hs4'
  by_cases hr0 : r = 0
  all_goals
    first
      | (rw [if_pos hr0]; subst hr0)
      | (rw [if_neg hr0]; have hbr : (r == 0) = false := by simpa using hr0)
    try clear hr0
    go_wp2_with fail
    obtain ⟨w5, hw5⟩ : ∃ w5, w4.alloc (.cells #[.int .i64 0] 26) = w5 := ⟨_, rfl⟩
    have hi5 : Var w5 w4.heap.size (.int .i64 0) 26 := by rw [← hw5]; exact Blk.new w4 _ _
    have hx5 : Ext No w4 w5 := by rw [← hw5]; exact (Ext.refl No w4).alloc _
    have hs5 : w5.heap.size = w4.heap.size + 1 := by rw [← hw5]; simp
    have he5 := HE4.out.ext hx5 (fun x => x)
    have hf5 := HF4.out.ext hx5 (fun x => x)
    have hn5 := HN4.out.ext hx5 (fun x => x)
    have hx5' := HX4.out.trans' hx5
    have hs4 := HS4.out
    rw [hw5]; clear hw5 hx5 HE4 HF4 HN4 HX4 HS4 c1 c2
    generalize w4.heap.size = ib at *
    refine (run_ext (fun k => k = ib) 31 #[.pointer (some ⟨eb, 0, none⟩), .pointer (some ⟨ib, 0, none⟩), .pointer (some ⟨eb + 1, 0, none⟩)] w5 (fun x w' => x = q ∧ Var w' ib (.int .i64 _) 26)
      (fun w => by kernel_rfl) (by omega) (fun x w1 h => ⟨h.1, h.2.set_other _ _ (by simp; omega)⟩) (last3_any eb ib (eb + 1) _ q _ (he5.alloc _) (hf5.alloc _) (hi5.alloc _) (by omega))).mono ?_
    rintro e w6 ⟨x, rfl, hx6, rfl, hi6⟩
    have he6 := he5.ext hx6 (by omega)
    have hf6 := hf5.ext hx6 (by omega)
    have hn6 := hn5.ext hx6 (by omega)
    have hx6' : Ext No w w6 := hx5'.trans hx6 (fun _ _ x => x) (by intro i hi h; have := HB.out; omega)
    have c1 := Var.get he6
    have c2 := Var.get hf6
    have c3 := Var.get hn6
    have c4 := Var.get hi6
    have HX6 := Lib.hid hx6'
    clear hx6' he6 hf6 hn6 hi6 hx6 he5 hf5 hn5 hi5 hx5' hs4 hs5 d1
    go_wp2_with fail
    go_ret
    exact ⟨rfl, HX6.out⟩

theorem guardLast_fr (n m : Int) (w : World) (_ : -9223372036854775808 ≤ n) (_ : n ≤ 9223372036854775807) (_ : -9223372036854775808 ≤ m) (_ : m ≤ 9223372036854775807) :
    Calls Try.prog 6 #[.int .i64 n, .int .i64 m] w fun e w' => e = .returned (.bool true) ∧ Ext No w w' := guardLast_any n m w

end Go.Proofs.Ythdbgldjcnhboaa
