/- The walk of coldstorelaw01.GuardRuns. -/
import Derived.Test.YthdbgldjcnhboaaGuardD
namespace Go.Proofs.Ythdbgldjcnhboaa
open Go.RowKit Go.My

set_option maxRecDepth 100000 in
set_option maxHeartbeats 400000 in
theorem first_any (l : List Int) (v : Value) (w : World) (hl : IsRow w (int64 l) l.length v) (hm : l.length ≤ 9223372036854775807) :
    Calls Try.prog 8 #[v] w fun e w' => e = .returned (.tuple #[.int .i64 (firstN l), .int .i64 (firstE l)]) ∧ Dr w w' := by
  obtain ⟨m, hm'⟩ : ∃ m, m = l.length := ⟨_, rfl⟩
  rw [← hm'] at hl hm
  have HL := Lib.hid hl
  obtain ⟨a, cap, rfl, hc1, hc2, -⟩ := hl
  have HM := Lib.hid hm'; clear hm'
  go_enter Try.func8, Try.ntmps8
  go_wp2_with fail
  go_loop [4] (fun i => ∃ k : Nat, k ≤ m ∧ i = .int .i64 k ∧ k ≤ firstN l) (fun i => m - (intOf i).toNat)
  case atStart => exact ⟨0, by omega, rfl, by omega⟩
  case round =>
    obtain ⟨k, hk, rfl, hkf⟩ := hrel
    by_cases hlt : k < m
    · obtain ⟨b, off, rfl, hc⟩ := HL.out.get k hlt
      rw [int64_def] at hc
      have hfa := first_at l k hkf (by rw [← HM.out]; exact hlt)
      have hlti : (k : Int) < (m : Int) := by omega
      generalize l.getD k 0 = x at *
      by_cases hx : x = 0
      · have hf := hfa.1 hx
        subst hx
        clear hfa
        go_wp2_with fail
        go_round
        case rel => exact ⟨k + 1, by omega, by go_num, hf⟩
        case measure => simp [intOf]; omega
      · have hf := hfa.2 hx
        have hb : (x != 0) = true := by simpa using hx
        have HF := Lib.hid hf
        clear hf hfa hx hkf
        go_wp2_with fail
        go_quiet (fail)
        go_wp2_with fail
        go_ret2
        rw [HF.out.1, HF.out.2]
        exact ⟨rfl, Dr.mk _ _⟩
    · obtain rfl : k = m := by omega
      have hend := first_end l (by rw [← HM.out]; exact hkf)
      rw [← HM.out] at hend
      have HE := Lib.hid hend; clear hend hkf
      go_wp2_with fail
      go_ret2
      rw [HE.out.1, HE.out.2]
      exact ⟨rfl, Dr.refl _⟩

set_option maxRecDepth 100000 in
set_option maxHeartbeats 400000 in
theorem runs1_any (lb db : Nat) (l : List Int) (v : Value) (w : World) (hl : IsRow w (int64 l) l.length v) (hm : l.length ≤ 200) (hlb : Var w lb v 22) (hdb : Var w db (.int .i64 0) 3) (hv : 0 < l.length → v.ownBlock ≠ some db) :
    Calls Try.prog 10 #[.pointer (some ⟨lb, 0, none⟩), .pointer (some ⟨db, 0, none⟩)] w (Body (fun k => k = db) w (fun n w' => n = firstE l ∧ Var w' db (.int .i64 (firstN l)) 3)) := by
  obtain ⟨m, hm'⟩ : ∃ m, m = l.length := ⟨_, rfl⟩
  rw [← hm'] at hl hm hv
  have HL := Lib.hid hl
  obtain ⟨a, cap, rfl, hc1, hc2, -⟩ := hl
  have hlc := Var.get hlb
  have hne : lb ≠ db := Blk.ne_type hlb hdb (by decide)
  have HM := Lib.hid hm'; have HD := Lib.hid hdb; have HV := Lib.hid hv; clear hm' hlb hdb hv
  go_enter Try.func10, Try.ntmps10
  go_wp2_with fail
  go_loopw [3, 6] (fun _ i wr => ∃ k : Nat, k ≤ m ∧ i = .int .i64 k ∧ k ≤ firstN l ∧ Ext (fun k => k = db) w wr ∧ Var wr db (.int .i64 k) 3) (fun _ i _ => m - (intOf i).toNat)
  case atStart => exact ⟨0, by omega, rfl, by omega, Ext.refl _ w, HD.out⟩
  case round =>
    clear HD hlc
    obtain ⟨k, hk, rfl, hkf, hx, hd⟩ := hrel
    have HX := Lib.hid hx; have HD := Lib.hid hd; clear hx hd
    by_cases hlt : k < m
    · obtain ⟨b, off, rfl, hc⟩ := (HL.out.extP HX.out (by intro h0 j hj h; subst h; exact HV.out h0 hj)).get k hlt
      rw [int64_def] at hc
      have hfa := first_at l k hkf (by rw [← HM.out]; exact hlt)
      generalize l.getD k 0 = x at *
      have HF := Lib.hid hfa; have HKF := Lib.hid hkf; clear hfa hkf
      go_wp2_with fail
      refine (must_any No x _).mono ?_
      rintro e w2 ⟨n, he, -, rfl, rfl⟩
      rcases he with ⟨rfl, rfl⟩ | ⟨rfl, hn⟩
      · have hdc := Var.get HD.out
        have hdz := HD.out.free 0
        go_wp2_with fail
        go_roundw
        case rel => exact ⟨k + 1, by omega, by go_num, (by have := HF.out.1; simpa using this), HX.out.setCell _ _ (fun _ => rfl), Var.put HD.out _⟩
        case measure => simp [intOf]; omega
      · have hf := HF.out.2 hn
        refine ⟨rfl, n, .inr ⟨rfl, hn⟩, HX.out, hf.2.symm, ?_⟩
        rw [hf.1]; exact HD.out
    · obtain rfl : k = m := by omega
      have hend := first_end l (by rw [← HM.out]; exact hkf)
      rw [← HM.out] at hend
      have HE := Lib.hid hend; clear hend hkf
      go_wp2_with fail
      go_end0
      exact ⟨0, .inl ⟨rfl, rfl⟩, HX.out, HE.out.2.symm, by rw [HE.out.1]; exact HD.out⟩

theorem valueI_still (v : Int) (w : World) : Calls Try.prog 13 #[.int .i64 v, .int .i64 0] w fun e w' => e = .returned (.int .i64 v) ∧ w' = w :=
  still_of_eq (valueI_ok v w)

set_option maxRecDepth 100000 in
set_option maxHeartbeats 800000 in
theorem runs2_any (lb db : Nat) (l : List Int) (v : Value) (w : World) (hl : IsRow w (int64 l) l.length v) (hm : l.length ≤ 200) (hlb : Var w lb v 22) (hdb : Var w db (.int .i64 0) 3) (hv : 0 < l.length → v.ownBlock ≠ some db) :
    Calls Try.prog 12 #[.pointer (some ⟨lb, 0, none⟩), .pointer (some ⟨db, 0, none⟩)] w (Body (fun k => k = db) w (fun n w' => n = firstE l ∧ Var w' db (.int .i64 (firstN l)) 3)) := by
  obtain ⟨m, hm'⟩ : ∃ m, m = l.length := ⟨_, rfl⟩
  rw [← hm'] at hl hm hv
  have HL := Lib.hid hl
  obtain ⟨a, cap, rfl, hc1, hc2, -⟩ := hl
  have hlc := Var.get hlb
  have hne : lb ≠ db := Blk.ne_type hlb hdb (by decide)
  have HM := Lib.hid hm'; have HD := Lib.hid hdb; have HV := Lib.hid hv; clear hm' hlb hdb hv
  go_enter Try.func12, Try.ntmps12
  go_wp2_with fail
  go_loopw [2, 3, 6] (fun _ _ i wr => ∃ k : Nat, k ≤ m ∧ i = .int .i64 k ∧ k ≤ firstN l ∧ Ext (fun k => k = db) w wr ∧ Var wr db (.int .i64 k) 3) (fun _ _ i _ => m - (intOf i).toNat)
  case atStart => exact ⟨0, by omega, rfl, by omega, Ext.refl _ w, HD.out⟩
  case round =>
    clear HD hlc
    obtain ⟨k, hk, rfl, hkf, hx, hd⟩ := hrel
    have HX := Lib.hid hx; have HD := Lib.hid hd; clear hx hd
    by_cases hlt : k < m
    · obtain ⟨b, off, rfl, hc⟩ := (HL.out.extP HX.out (by intro h0 j hj h; subst h; exact HV.out h0 hj)).get k hlt
      rw [int64_def] at hc
      have hfa := first_at l k hkf (by rw [← HM.out]; exact hlt)
      generalize l.getD k 0 = x at *
      have HF := Lib.hid hfa; have HKF := Lib.hid hkf; clear hfa hkf
      have hdc := Var.get HD.out
      have hdz := HD.out.free 0
      by_cases hx0 : x = 0
      · subst hx0
        go_wp2_with fail
        have hz1 : IntKind.i64.wrap ((k : Int) + 1) = (k : Int) + 1 := IntWalk.i64_in _ (by omega)
        have hz2 : IntKind.i64.wrap ((k : Int) + 1 - (k : Int)) = 1 := by rw [show (k : Int) + 1 - (k : Int) = 1 by omega]; rfl
        refine wp_region_still_tail 8 (by kernel_rfl) (by kernel_rfl) ?_
        simp only [List.take_succ_cons, List.take_zero, List.drop_succ_cons, List.drop_zero]
        repeat still_step
        still_call (valueI_still _ _)
        repeat still_step
        refine wpStill_nil ?_
        clear hz1 hz2
        go_wp2_with fail
        go_roundw
        case rel => exact ⟨k + 1, by omega, by go_num, (by have := HF.out.1; simpa using this), (HX.out.setCell _ _ (fun _ => rfl)).drew, (Var.put HD.out _).drew⟩
        case measure => simp [intOf]; omega
      · have hf := HF.out.2 hx0
        have HFF := Lib.hid hf; clear hf
        have HN := Lib.hid hx0; clear hx0
        have hz1 : IntKind.i64.wrap ((k : Int) + 1) = (k : Int) + 1 := IntWalk.i64_in _ (by omega)
        go_wp2_with fail
        go_region_dies
        all_goals
          refine (valueI_no _ x HN.out _).mono ?_
          rintro e w2 ⟨rfl, rfl⟩
          exact ⟨rfl, x, .inr ⟨rfl, HN.out⟩, HX.out.drew, HFF.out.2.symm, by rw [HFF.out.1]; exact HD.out.drew⟩
    · obtain rfl : k = m := by omega
      have hend := first_end l (by rw [← HM.out]; exact hkf)
      rw [← HM.out] at hend
      have HE := Lib.hid hend; clear hend hkf
      go_wp2_with fail
      go_end0
      exact ⟨0, .inl ⟨rfl, rfl⟩, HX.out, HE.out.2.symm, by rw [HE.out.1]; exact HD.out⟩

set_option maxRecDepth 100000 in
set_option maxHeartbeats 400000 in
theorem runs3_any (xb : Nat) (x : Int) (w : World) (h : Var w xb (.int .i64 x) 3) :
    Calls Try.prog 14 #[.pointer (some ⟨xb, 0, none⟩)] w fun e w' => e = .returned (.int .i64 x) ∧ w = w' := by
  have hc := Var.get h
  clear h
  go_enter Try.func14, Try.ntmps14
  go_wp2_with fail
  go_ret
  exact ⟨rfl, rfl⟩

theorem Try.infoF : (Try.prog.info? 31).map (fun i => (i.zero, i.size, i.bytes)) = some (some .nilFunc, 1, 8) := by kernel_rfl

/-- steps so far: each a closure over a variable of its own -/
structure Steps (w wr : World) (K : FuncId) (l : List Int) (k : Nat) (v : Value) (mk : Nat → Array Value) (caps : Nat → Nat) : Prop where
  own : wr.ownsRow w.heap.size 31 1 v k ((List.range k).map fun i => Value.func (.func K) #[] (mk (caps i)))
  var : ∀ i, i < k → Var wr (caps i) (.int .i64 (l.getD i 0)) 3 ∧ w.heap.size ≤ caps i

theorem Steps.nil (w wr : World) (K : FuncId) (l : List Int) (v : Value) (mk : Nat → Array Value) (h : wr.ownsRow w.heap.size 31 1 v 0 []) : Steps w wr K l 0 v mk (fun _ => 0) :=
  ⟨by simpa using h, fun i hi => by omega⟩

/-- one step more: a new variable, a new closure, an append -/
theorem Steps.snoc {w wr w2 : World} {K : FuncId} {l : List Int} {k : Nat} {v v' : Value} {mk : Nat → Array Value} {caps : Nat → Nat} (h : Steps w wr K l k v mk caps) (xb : Nat)
    (hlow : w.heap.size ≤ xb)
    (hg : wr.grownBy w2 v.ownBlock) (hx : Var w2 xb (.int .i64 (l.getD k 0)) 3)
    (ho : w2.ownsRow w.heap.size 31 1 v' (k + 1) (((List.range k).map fun i => Value.func (.func K) #[] (mk (caps i))) ++ [Value.func (.func K) #[] (mk xb)])) :
    Steps w w2 K l (k + 1) v' mk (fun i => if i < k then caps i else xb) := by
  constructor
  · have e : (List.range (k + 1)).map (fun i => Value.func (.func K) #[] (mk (if i < k then caps i else xb))) =
        ((List.range k).map fun i => Value.func (.func K) #[] (mk (caps i))) ++ [Value.func (.func K) #[] (mk xb)] := by
      rw [List.range_succ, List.map_append]
      congr 1
      · apply List.map_congr_left
        intro i hi
        have : i < k := List.mem_range.1 hi
        simp [this]
      · simp
    rw [e]; exact ho
  · intro i hi
    by_cases hik : i < k
    · simp only [hik, if_true]
      obtain ⟨h1, h2⟩ := h.var i hik
      exact ⟨h1.grown hg (own_ne_type h.own h1 (by decide)), h2⟩
    · simp only [hik, if_false]
      obtain rfl : i = k := by omega
      exact ⟨hx, hlow⟩

theorem Steps.row {w wr : World} {K : FuncId} {l : List Int} {k : Nat} {v : Value} {mk : Nat → Array Value} {caps : Nat → Nat} (h : Steps w wr K l k v mk caps) : IsRow wr (fun i => .func (.func K) #[] (mk (caps i))) k v :=
  (IsRow.of_own h.own).congr (fun i hi => by simp [List.getD_eq_getElem?_getD, hi])

set_option maxRecDepth 100000 in
set_option maxHeartbeats 2000000 in
theorem guardRuns_any (l : List Int) (v : Value) (w : World) (hl : IsRow w (int64 l) l.length v) (hm : l.length ≤ 9223372036854775807) :
    Calls Try.prog 3 #[v] w fun e w' => e = .returned (.bool true) ∧ Ext No w w' := by
  have hmf := mkf
  obtain ⟨m, hm'⟩ : ∃ m, m = l.length := ⟨_, rfl⟩
  rw [← hm'] at hl hm
  have HL := Lib.hid hl
  have hvlt : 0 < m → ∀ k, v.ownBlock = some k → k < w.heap.size := fun h0 k hk => hl.lt h0 hk
  obtain ⟨a, cap, hv, hc1, hc2, -⟩ := hl
  have HM := Lib.hid hm'; have HVL := Lib.hid hvlt; clear hm' hvlt
  go_enter Try.func3, Try.ntmps3
  have HVV := Lib.hid hv; clear hv
  go_wp2_with fail
  obtain ⟨w1, hw1⟩ : ∃ w1, w.alloc (.cells #[v] 22) = w1 := ⟨_, rfl⟩
  have hb1 : Var w1 w.heap.size v 22 := by rw [← hw1]; exact Blk.new w _ _
  have hx1 : Ext No w w1 := by rw [← hw1]; exact (Ext.refl No w).alloc _
  rw [hw1]; clear hw1
  obtain ⟨lb, hlb⟩ : ∃ lb, w.heap.size = lb := ⟨_, rfl⟩
  rw [hlb] at hb1 ⊢
  have HLB := Lib.hid hlb; clear hlb
  refine (alive_any w1).mono ?_
  rintro e w2 ⟨rfl, hx2⟩
  have hb2 := hb1.ext hx2 (fun x => x)
  have hx2' := hx1.trans' hx2
  clear hb1 hx1 hx2
  have hc := Var.get hb2
  have HB2 := Lib.hid hb2; have HX2 := Lib.hid hx2'; clear hb2 hx2'
  rw [HVV.out] at hc
  by_cases hlong : 200 < m
  · go_wp2_with fail
    go_ret
    exact ⟨rfl, HX2.out⟩
  · go_wp2_with fail
    rw [← HVV.out]
    have hfirst := first_any l v w2 (by rw [← HM.out]; exact HL.out.ext0 HX2.out) (by rw [← HM.out]; exact hm)
    refine hfirst.mono ?_
    clear hfirst
    rintro e w3 ⟨rfl, hd3⟩
    have hx3 := HX2.out.trans' (hd3.ext No)
    have hb3 := HB2.out.ext (hd3.ext No) (fun x => x)
    clear HX2 HB2 hd3 hc
    have HX3 := Lib.hid hx3; have HB3 := Lib.hid hb3; clear hx3 hb3
    generalize hfn : firstN l = fn at *
    generalize hfe : firstE l = fe at *
    have HFN := Lib.hid hfn; have HFE := Lib.hid hfe; clear hfn hfe
    go_wp2_with fail
    obtain ⟨w4, hw4⟩ : ∃ w4, w3.alloc (.cells #[.int .i64 0] 3) = w4 := ⟨_, rfl⟩
    have hd4 : Var w4 w3.heap.size (.int .i64 0) 3 := by rw [← hw4]; exact Blk.new w3 _ _
    have hx4 : Ext No w3 w4 := by rw [← hw4]; exact (Ext.refl No w3).alloc _
    have hb4 := HB3.out.ext hx4 (fun x => x)
    have hx4' := HX3.out.trans' hx4
    have hs3 : w.heap.size ≤ w3.heap.size ∧ lb < w3.heap.size := ⟨HX3.out.size, HB3.out.lt⟩
    rw [hw4]; clear hw4 hx4 HX3 HB3
    generalize w3.heap.size = db at *
    have hrun := run_ext (fun k => k = db) 10 #[.pointer (some ⟨lb, 0, none⟩), .pointer (some ⟨db, 0, none⟩)] w4 (fun n w' => n = firstE l ∧ Var w' db (.int .i64 (firstN l)) 3) (fun w => by kernel_rfl)
      (by have := hd4.lt; omega) (fun n w1 h => ⟨h.1, h.2.set_other _ _ (by have := hd4.lt; simp; omega)⟩)
      (runs1_any lb db l v _ (by rw [← HM.out]; exact (HL.out.ext0 hx4').ext0 ((Ext.refl No w4).alloc _)) (by rw [← HM.out]; omega) (hb4.alloc _) (hd4.alloc _) (fun h0 h => by have := HVL.out (by rw [HM.out]; exact h0) _ h; omega))
    have HR := Lib.hid hrun; clear hrun
    have HX4 := Lib.hid hx4'; have HB4 := Lib.hid hb4; have HS := Lib.hid (And.intro hs3 hd4.lt); clear hx4' hb4 hs3 hd4
    refine HR.out.mono ?_
    clear HR
    rintro e w5 ⟨n, rfl, hx5, rfl, hd5⟩
    rw [HFE.out]
    rw [HFN.out] at hd5
    have hb5 := HB4.out.ext hx5 (by have := HS.out; omega)
    have hx5' : Ext No w w5 := HX4.out.trans hx5 (fun _ _ x => x) (by intro i hi h; have := HS.out; omega)
    have hs5 : db < w5.heap.size := hd5.lt
    have hs3 := HS.out.1
    clear hx5 HX4 HB4 HS
    have HX5 := Lib.hid hx5'; have HB5 := Lib.hid hb5; have HD5 := Lib.hid hd5; have HS5 := Lib.hid (And.intro hs3 hs5); clear hx5' hb5 hd5 hs3 hs5
    go_wp2_with fail
    obtain ⟨w6, hw6⟩ : ∃ w6, w5.alloc (.cells #[.int .i64 0] 3) = w6 := ⟨_, rfl⟩
    have hv6 : Var w6 w5.heap.size (.int .i64 0) 3 := by rw [← hw6]; exact Blk.new w5 _ _
    have hx6 : Ext No w5 w6 := by rw [← hw6]; exact (Ext.refl No w5).alloc _
    have hb6 := HB5.out.ext hx6 (fun x => x)
    have hd6 := HD5.out.ext hx6 (fun x => x)
    have hx6' := HX5.out.trans' hx6
    have hs5 := HS5.out
    rw [hw6]; clear hw6 hx6 HX5 HB5 HD5 HS5
    generalize w5.heap.size = vb at *
    have hrun := run_ext (fun k => k = vb) 12 #[.pointer (some ⟨lb, 0, none⟩), .pointer (some ⟨vb, 0, none⟩)] w6 (fun n w' => n = firstE l ∧ Var w' vb (.int .i64 (firstN l)) 3) (fun w => by kernel_rfl)
      (by have := hv6.lt; omega) (fun n w1 h => ⟨h.1, h.2.set_other _ _ (by have := hv6.lt; simp; omega)⟩)
      (runs2_any lb vb l v _ (by rw [← HM.out]; exact (HL.out.ext0 hx6').ext0 ((Ext.refl No w6).alloc _)) (by rw [← HM.out]; omega) (hb6.alloc _) (hv6.alloc _) (fun h0 h => by have := HVL.out (by rw [HM.out]; exact h0) _ h; omega))
    have HR := Lib.hid hrun; clear hrun
    have HX6 := Lib.hid hx6'; have HB6 := Lib.hid hb6; have HD6 := Lib.hid hd6; have HS6 := Lib.hid (And.intro hs5 hv6.lt); clear hx6' hb6 hd6 hs5 hv6
    refine HR.out.mono ?_
    clear HR
    rintro e w7 ⟨n, rfl, hx7, rfl, hv7⟩
    rw [HFE.out]
    rw [HFN.out] at hv7
    have hb7 := HB6.out.ext hx7 (by have := HS6.out; omega)
    have hd7 := HD6.out.ext hx7 (by have := HS6.out; omega)
    have hx7' : Ext No w w7 := HX6.out.trans hx7 (fun _ _ x => x) (by intro i hi h; have := HS6.out; omega)
    have hs7 : w.heap.size ≤ w7.heap.size := hx7'.size
    have hlw : w.heap.size ≤ db ∧ w.heap.size ≤ vb := by have := HS6.out; omega
    have hc7 := Var.get hb7
    rw [HVV.out] at hc7
    have hl7 := hb7.lt
    clear hx7 HX6 HB6 HD6 HS6
    have HX7 := Lib.hid hx7'; have HB7 := Lib.hid hb7; have HD7 := Lib.hid hd7; have HV7 := Lib.hid hv7; have HLW := Lib.hid hlw; clear hx7' hb7 hd7 hv7 hlw
    go_wp2_with fail
    obtain ⟨w8, hw8⟩ : ∃ w8, w7.alloc (.cells #[] 31) = w8 := ⟨_, rfl⟩
    have hx8 : Ext No w7 w8 := by rw [← hw8]; exact (Ext.refl No w7).alloc _
    have ho8 : w8.ownsRow w.heap.size 31 1 (.slice (some ⟨w7.heap.size, 0, none⟩) 0 0) 0 [] := by rw [← hw8]; exact World.ownsRow_made w7 #[] 0 hs7 (by unfold maxLen; omega) rfl
    have hb8 := HB7.out.ext hx8 (fun x => x)
    have hd8 := HD7.out.ext hx8 (fun x => x)
    have hv8 := HV7.out.ext hx8 (fun x => x)
    have hx8' := HX7.out.trans' hx8
    rw [hw8]; clear hw8 hx8 HX7 HB7 HD7 HV7 hs7 hc7 hl7
    have HX8 := Lib.hid hx8'; have HB8 := Lib.hid hb8; have HD8 := Lib.hid hd8; have HV8 := Lib.hid hv8; have HST := Lib.hid (Steps.nil w w8 14 l _ (fun b => #[.pointer (some ⟨b, 0, none⟩)]) ho8); clear hx8' hb8 hd8 hv8 ho8
    generalize Value.slice (some ⟨w7.heap.size, 0, none⟩) 0 0 = sv at *
    go_loopw [9, 11, 31] (fun sl _ i wr => ∃ (k : Nat) (vs : Value) (caps : Nat → Nat), k ≤ m ∧ i = .int .i64 k ∧ sl = vs ∧ Ext No w wr ∧ Var wr db (.int .i64 fn) 3 ∧ Var wr vb (.int .i64 fn) 3 ∧
      Steps w wr 14 l k vs (fun b => #[.pointer (some ⟨b, 0, none⟩)]) caps) (fun _ _ i _ => m - (intOf i).toNat)
    case atStart => exact ⟨0, sv, _, by omega, rfl, rfl, HX8.out, HD8.out, HV8.out, HST.out⟩
    case round =>
      clear HX8 HB8 HD8 HV8 HST
      obtain ⟨k, vs, caps, hk, rfl, rfl, hx, hd, hv, hst⟩ := hrel
      have HX := Lib.hid hx; have HD := Lib.hid hd; have HV := Lib.hid hv; have HST := Lib.hid hst; clear hx hd hv hst
      by_cases hlt : k < m
      · have hrow := HL.out
        rw [HVV.out] at hrow
        obtain ⟨b, off, rfl, hc⟩ := (hrow.ext0 HX.out).get k hlt
        clear hrow
        have hbl := World.block_lt_of_cell? _ _ hc
        rw [int64_def] at hc
        simp only at hbl
        generalize hgx : l.getD k 0 = x at *
        have HGX := Lib.hid hgx; clear hgx
        have hbase : w.heap.size ≤ wr.heap.size := HX.out.size
        go_wp2_with (at_builtin; refine wpList_app1 _ _ rfl _ _ 30 rfl w.heap.size 31 _ _ Try.infoF Try.underlying30 rfl _ _ _ rfl ((HST.out.own.alloc _).alloc _) _ rfl (cell_new _ _ _ (by simp)) rfl (by omega) (by omega) (by simp; omega) ?_; intro v' w2 hown hgrow)
        have hown0 := (HST.out.own.alloc (.cells #[.int .i64 x] 3)).alloc (.cells #[.func (.func 14) #[] #[.pointer (some ⟨wr.heap.size, 0, none⟩)]] 31)
        have hnv := (Blk.new wr #[.int .i64 x] 3).alloc (.cells #[.func (.func 14) #[] #[.pointer (some ⟨wr.heap.size, 0, none⟩)]] 31)
        have hd2 := ((HD.out.alloc _).alloc _).grown hgrow (own_ne_type hown0 ((HD.out.alloc _).alloc _) (by decide))
        have hv2 := ((HV.out.alloc _).alloc _).grown hgrow (own_ne_type hown0 ((HV.out.alloc _).alloc _) (by decide))
        have hnv2 := hnv.grown hgrow (own_ne_type hown0 hnv (by decide))
        have hx2 : Ext No w w2 := ((HX.out.alloc _).alloc _).grown hgrow (fun j hj hlt => by have := hown0.lt j hj; omega)
        rw [← HGX.out] at hnv2
        have hst1 : Steps w ((wr.alloc (.cells #[.int .i64 x] 3)).alloc (.cells #[.func (.func 14) #[] #[.pointer (some ⟨wr.heap.size, 0, none⟩)]] 31)) 14 l k u9 (fun b => #[.pointer (some ⟨b, 0, none⟩)]) caps :=
          ⟨hown0, fun i hi => ⟨((HST.out.var i hi).1.alloc _).alloc _, (HST.out.var i hi).2⟩⟩
        have hst2 := hst1.snoc wr.heap.size hbase hgrow hnv2 hown
        go_roundw
        case rel => exact ⟨k + 1, v', _, by omega, by go_num, rfl, hx2, hd2, hv2, hst2⟩
        case measure => simp [intOf]; omega
      · obtain rfl : k = m := by omega
        go_wp2_with fail
        have hall := all_any k u9 (fun _ => 14) (fun i => #[.pointer (some ⟨caps i, 0, none⟩)]) l (fun _ w' => wr = w') wr HM.out (fun i w => by kernel_rfl)
          (fun i w' h => by subst h; exact HST.out.row)
          (fun i w' hi h => by subst h; exact runs3_any (caps i) _ wr (HST.out.var i hi).1) rfl
        have HA := Lib.hid hall; clear hall
        rw [HFN.out, HFE.out] at HA
        have hdc := Var.get HD.out
        have hvc := Var.get HV.out
        refine HA.out.mono ?_
        clear HA
        rintro e w9 ⟨rfl, rfl⟩
        go_wp2_with fail
        go_ret
        exact ⟨rfl, HX.out⟩

theorem guardRuns_fr (l : List Int) (v : Value) (w : World) (hl : IsRow w (int64 l) l.length v) (hm : l.length ≤ 9223372036854775807) (_ : ∀ n ∈ l, -9223372036854775808 ≤ n ∧ n ≤ 9223372036854775807) :
    Calls Try.prog 3 #[v] w fun e w' => e = .returned (.bool true) ∧ Ext No w w' := guardRuns_any l v w hl hm

end Go.Proofs.Ythdbgldjcnhboaa
