/- Contracts of guard.Value, guard.All, guard.NewFuse, (*Fuse).Left, Step, Catch; of guard.Run over a function that blows. -/
import Derived.Test.YthdbgldjcnhboaaGuardA
namespace Go.Proofs.Ythdbgldjcnhboaa
open Go.RowKit Go.My

set_option maxRecDepth 100000 in
set_option maxHeartbeats 400000 in
theorem valueI_ok (v : Int) (w : World) : Calls Try.prog 13 #[.int .i64 v, .int .i64 0] w fun e w' => e = .returned (.int .i64 v) ∧ w = w' := by
  go_enter Try.func13, Try.ntmps13
  go_wp2_with fail
  refine (must_ok w).mono ?_
  rintro e w' ⟨rfl, rfl⟩
  go_wp2_with fail
  go_ret
  exact ⟨rfl, rfl⟩
set_option maxRecDepth 100000 in
set_option maxHeartbeats 400000 in
theorem valueI_no (v n : Int) (hn : n ≠ 0) (w : World) : Calls Try.prog 13 #[.int .i64 v, .int .i64 n] w fun e w' => e = .panicked (thrown n) ∧ w = w' := by
  go_enter Try.func13, Try.ntmps13
  go_wp2_with fail
  refine (must_no n hn w).mono ?_
  rintro e w' ⟨rfl, rfl⟩
  exact ⟨rfl, rfl, rfl⟩
set_option maxRecDepth 100000 in
set_option maxHeartbeats 400000 in
theorem valueS_ok (v : ByteArray) (w : World) : Calls Try.prog 26 #[.string v, .int .i64 0] w fun e w' => e = .returned (.string v) ∧ w = w' := by
  go_enter Try.func26, Try.ntmps26
  go_wp2_with fail
  refine (must_ok w).mono ?_
  rintro e w' ⟨rfl, rfl⟩
  go_wp2_with fail
  go_ret
  exact ⟨rfl, rfl⟩
set_option maxRecDepth 100000 in
set_option maxHeartbeats 400000 in
theorem valueS_no (v : ByteArray) (n : Int) (hn : n ≠ 0) (w : World) : Calls Try.prog 26 #[.string v, .int .i64 n] w fun e w' => e = .panicked (thrown n) ∧ w = w' := by
  go_enter Try.func26, Try.ntmps26
  go_wp2_with fail
  refine (must_no n hn w).mono ?_
  rintro e w' ⟨rfl, rfl⟩
  exact ⟨rfl, rfl, rfl⟩

/-- how many steps of a row have no error, and the first error (0: none) -/
def firstN : List Int → Nat
  | [] => 0
  | x :: r => if x = 0 then firstN r + 1 else 0
def firstE : List Int → Int
  | [] => 0
  | x :: r => if x = 0 then firstE r else x
theorem firstN_le (l : List Int) : firstN l ≤ l.length := by
  induction l with
  | nil => simp [firstN]
  | cons x r ih => simp only [firstN, List.length_cons]; split <;> omega
theorem first_drop (l : List Int) (k : Nat) (h : k ≤ firstN l) : firstN l = k + firstN (l.drop k) ∧ firstE l = firstE (l.drop k) := by
  induction l generalizing k with
  | nil => simp [firstN] at h; subst h; simp [firstN, firstE]
  | cons x r ih =>
    cases k with
    | zero => simp
    | succ k =>
      simp only [firstN] at h ⊢
      split at h
      · rename_i hx
        obtain ⟨h1, h2⟩ := ih k (by omega)
        simp only [if_pos hx, firstE, List.drop_succ_cons]
        exact ⟨by omega, h2⟩
      · omega
theorem first_at (l : List Int) (k : Nat) (h : k ≤ firstN l) (hk : k < l.length) : (l.getD k 0 = 0 → k + 1 ≤ firstN l) ∧ (l.getD k 0 ≠ 0 → firstN l = k ∧ firstE l = l.getD k 0) := by
  obtain ⟨h1, h2⟩ := first_drop l k h
  have hd : l.drop k = l.getD k 0 :: l.drop (k + 1) := by
    rw [List.drop_eq_getElem_cons hk]; simp [List.getD_eq_getElem?_getD, hk]
  rw [hd] at h1 h2
  simp only [firstN, firstE] at h1 h2
  constructor
  · intro hx; rw [if_pos hx] at h1; omega
  · intro hx; rw [if_neg hx] at h1 h2; exact ⟨by omega, h2⟩
theorem first_end (l : List Int) (h : l.length ≤ firstN l) : firstN l = l.length ∧ firstE l = 0 := by
  obtain ⟨h1, h2⟩ := first_drop l l.length h
  simp [firstN, firstE] at h1 h2
  exact ⟨h1, h2⟩

def allEnd (f m : Nat) : Nat := if f < m then f + 1 else m

set_option maxRecDepth 100000 in
set_option maxHeartbeats 800000 in
/-- guard.All over steps that each answer errs i, the i-th in a world that is right for i -/
theorem all_any (m : Nat) (v : Value) (K : Nat → FuncId) (cap : Nat → Array Value) (errs : List Int) (I : Nat → World → Prop) (w : World) (hm : m = errs.length)
    (hK : ∀ i w, (callFunc (K i) (cap i)).run Try.prog w = .ok (.enter (K i) (cap i)) w)
    (hr : ∀ i w, I i w → IsRow w (fun i => .func (.func (K i)) #[] (cap i)) m v)
    (hc : ∀ i w, i < m → I i w → Calls Try.prog (K i) (cap i) w fun e w' => e = .returned (.int .i64 (errs.getD i 0)) ∧ I (i + 1) w') (h0 : I 0 w) :
    Calls Try.prog 15 #[v] w fun e w' => e = .returned (.tuple #[.int .i64 (firstN errs), .int .i64 (firstE errs)]) ∧ I (allEnd (firstN errs) m) w' := by
  obtain ⟨a, cp, rfl, hc1, hc2, -⟩ := hr 0 w h0
  have HR := Lib.hid hr; have HC := Lib.hid hc; have H0 := Lib.hid h0; clear hr hc h0
  have HM := Lib.hid hm; clear hm
  go_enter Try.func15, Try.ntmps15
  go_wp2_with fail
  go_loopw [4, 5, 6, 9] (fun _ _ _ i wr => ∃ k : Nat, k ≤ m ∧ i = .int .i64 k ∧ k ≤ firstN errs ∧ I k wr) (fun _ _ _ i _ => m - (intOf i).toNat)
  case atStart => exact ⟨0, by omega, rfl, by omega, H0.out⟩
  case round =>
    obtain ⟨k, hk, rfl, hkf, hik⟩ := hrel
    have HIK := Lib.hid hik; clear hik
    by_cases hlt : k < m
    · obtain ⟨b, off, rfl, hcell⟩ := (HR.out k wr HIK.out).get k hlt
      have hcf := hK k
      have hfa := first_at errs k hkf (by rw [← HM.out]; exact hlt)
      have hcall := HC.out k wr hlt HIK.out
      have HF := Lib.hid hfa; have HCALL := Lib.hid hcall; clear hfa hcall
      generalize cap k = ck at *
      generalize K k = fk at *
      by_cases hz : errs.getD k 0 = 0
      · rw [hz] at HCALL
        have hf := HF.out.1 hz
        clear HF hz
        go_wp2_with fail
        refine HCALL.out.mono ?_
        rintro e w2 ⟨rfl, hi2⟩
        have HI2 := Lib.hid hi2; clear hi2
        go_wp2_with fail
        go_roundw
        case rel => exact ⟨k + 1, by omega, by go_num, hf, HI2.out⟩
        case measure => simp [intOf]; omega
      · have hf := HF.out.2 hz
        clear HF
        generalize errs.getD k 0 = x at *
        have hx : (x != 0) = true := by simpa using hz
        have HFF := Lib.hid hf; clear hf hz
        go_wp2_with fail
        refine HCALL.out.mono ?_
        rintro e w2 ⟨rfl, hi2⟩
        have HI2 := Lib.hid hi2; clear hi2
        go_wp2_with fail
        go_ret2
        rw [HFF.out.1, HFF.out.2]; unfold allEnd; rw [if_pos hlt]
        exact ⟨rfl, HI2.out⟩
    · obtain rfl : k = m := by omega
      have hend := first_end errs (by rw [← HM.out]; exact hkf)
      rw [← HM.out] at hend
      have HE := Lib.hid hend; clear hend hkf
      go_wp2_with fail
      go_ret2
      rw [HE.out.1, HE.out.2]; unfold allEnd; rw [if_neg (Nat.lt_irrefl _)]
      exact ⟨rfl, HIK.out⟩

/-- what a fuse blows with -/
def blownv (fb : Nat) : Value := .iface 49 (.agg #[.pointer (some ⟨fb, 0, none⟩)])

set_option maxRecDepth 100000 in
set_option maxHeartbeats 400000 in
theorem newFuse_any (n : Int) (hn : -1 ≤ n) (w : World) : Calls Try.prog 19 #[.int .i64 n] w fun e w' => e = .returned (.pointer (some ⟨w.heap.size, 0, none⟩)) ∧ w' = w.alloc (.cells #[.int .i64 n] 47) := by
  go_enter Try.func19, Try.ntmps19
  go_wp2_with fail
  go_ret
  exact ⟨rfl, rfl⟩
set_option maxRecDepth 100000 in
set_option maxHeartbeats 400000 in
theorem left_any (fb : Nat) (n : Int) (w : World) (hf : Blk w fb #[.int .i64 n] 47) : Calls Try.prog 33 #[.pointer (some ⟨fb, 0, none⟩)] w fun e w' => e = .returned (.int .i64 n) ∧ w = w' := by
  have hc : w.cell? ⟨fb, 0, none⟩ = some (.int .i64 n) := by rw [hf.cell]; rfl
  clear hf
  go_enter Try.func33, Try.ntmps33
  go_wp2_with fail
  go_ret
  exact ⟨rfl, rfl⟩
set_option maxRecDepth 100000 in
set_option maxHeartbeats 400000 in
theorem step_zero (fb : Nat) (w : World) (hf : Blk w fb #[.int .i64 0] 47) : Calls Try.prog 24 #[.pointer (some ⟨fb, 0, none⟩)] w fun e w' => e = .panicked [{ v := blownv fb, recovered := false }] ∧ w = w' := by
  have hc : w.cell? ⟨fb, 0, none⟩ = some (.int .i64 0) := by rw [hf.cell]; rfl
  clear hf
  go_enter Try.func24, Try.ntmps24
  go_wp2_with fail
  exact ⟨rfl, rfl, rfl⟩
set_option maxRecDepth 100000 in
set_option maxHeartbeats 400000 in
theorem step_pos (fb : Nat) (n : Int) (hn : 0 < n) (hn2 : n ≤ 9223372036854775807) (w : World) (hf : Blk w fb #[.int .i64 n] 47) : Calls Try.prog 24 #[.pointer (some ⟨fb, 0, none⟩)] w fun e w' => e = .returned (.tuple #[]) ∧ w' = w.setCell ⟨fb, 0, none⟩ (.int .i64 (n - 1)) := by
  have hc : w.cell? ⟨fb, 0, none⟩ = some (.int .i64 n) := by rw [hf.cell]; rfl
  have hz := hf.free 0
  have hb : (n == 0) = false := by rw [beq_eq_false_iff_ne]; omega
  clear hf
  go_enter Try.func24, Try.ntmps24
  go_wp2_with fail
  go_end0
  exact ⟨rfl, rfl⟩

theorem ta_blown_no (fb : Nat) (w : World) : (Instr.typeAssert (blownv fb) 20 26 true).run Try.prog w = .ok (.tuple #[.int .i64 0, .bool false]) w := by kernel_rfl
theorem ta_blown_yes (fb : Nat) (w : World) : (Instr.typeAssert (blownv fb) 20 49 true).run Try.prog w = .ok (.tuple #[.agg #[.pointer (some ⟨fb, 0, none⟩)], .bool true]) w := by kernel_rfl

set_option maxRecDepth 100000 in
set_option maxHeartbeats 400000 in
theorem run1_blown (p : Addr) (fb : Nat) (older : List PanicEntry) (w : World) :
    CallsD Try.prog 39 #[.pointer (some p)] (.panicking ({ v := blownv fb, recovered := false } :: older)) w fun e u' w' =>
      e = .panicked [{ v := blownv fb, recovered := false }] ∧ u' = .panicking ({ v := blownv fb, recovered := true } :: older) ∧ w' = w := by
  have hta := ta_blown_no fb
  refine callsD_of_wpS Try.func39 rfl fun c₀ cs hu => ?_
  apply wpS_seq
  apply wpS_region
  unfold blownv at hu hta
  simp [wpOpsS, go_sem, recoverD, hu, Try.ntmps39, Exit.thenS]
  refine wpS_of_wp ?_
  go_wp2_with fail
  exact ⟨rfl, .panicking ({ v := blownv fb, recovered := true } :: older), by cases c₀; simp_all [blownv], rfl, rfl, rfl⟩

/-- a call that blows, whatever else is in the chain -/
def Blows (S : Nat → Prop) (fb : Nat) (w : World) (Q : World → Prop) (e : Ending) (w' : World) : Prop := ∃ older : List PanicEntry, e = .panicked ({ v := blownv fb, recovered := false } :: older) ∧ (∀ x ∈ older, x.goexit = false) ∧ Ext S w w' ∧ Q w'
theorem no_goexit {older : List PanicEntry} (h : ∀ x ∈ older, x.goexit = false) : older.dropWhile (!·.goexit) = [] := by
  induction older with
  | nil => rfl
  | cons x r ih =>
    have hx := h x (by simp)
    simp only [List.dropWhile_cons, hx, Bool.not_false, if_true]
    exact ih (fun y hy => h y (by simp [hy]))
theorem settle_blown {v : Value} {older : List PanicEntry} (h : ∀ x ∈ older, x.goexit = false) : settle (.panicking ({ v := v, recovered := true } :: older)) = .returning := by
  simp [settle, no_goexit h]

set_option maxRecDepth 100000 in
set_option maxHeartbeats 400000 in
theorem run_blown (S : Nat → Prop) (fb : Nat) (K : FuncId) (cap : Array Value) (w : World) (Q : World → Prop) (hK : ∀ w, (callFunc K cap).run Try.prog w = .ok (.enter K cap) w)
    (hb : Calls Try.prog K cap (w.alloc (.cells #[.int .i64 0] 26)) (Blows S fb (w.alloc (.cells #[.int .i64 0] 26)) Q)) :
    Calls Try.prog 9 #[.func (.func K) #[] cap] w (Blows S fb w Q) := by
  have hmf := mkf
  have hnf : ∀ w : World, (binOp BinOp.eql 1 (Value.func (Fn.func K) #[] cap) Value.nilFunc).run Try.prog w = .ok (.bool false) w := fun w => by kernel_rfl
  have HB := Lib.hid hb; clear hb
  go_enter_defers Try.func9, Try.ntmps9
  go_wp2_with fail
  refine HB.out.mono ?_
  rintro e w1 ⟨older, rfl, hgo, hx, hq⟩
  have HGO := Lib.hid hgo; clear hgo
  have HX := Lib.hid hx; have HQ := Lib.hid hq; clear hx hq
  go_wp2_with fail
  refine leaves_cons (f := 39) (args := #[.pointer (some ⟨w.heap.size, 0, none⟩)]) (by simp) (by simp [go_sem]) ?_
  refine (run1_blown _ fb older _).mono ?_
  rintro e u' w'' ⟨rfl, rfl, rfl⟩
  exact ⟨_, rfl, by intro x hx; simp at hx; rcases hx with rfl | hx; rfl; exact HGO.out x hx, ((Ext.refl S w).alloc (.cells #[.int .i64 0] 26)).trans' HX.out, HQ.out⟩

theorem neq_same (a : Addr) (w : World) : (binOp .neq 36 (.pointer (some a)) (.pointer (some a))).run Try.prog w = .ok (.bool false) w := by
  have hs : (Try.prog.info? 47).isSome = true := by kernel_rfl
  obtain ⟨j, hj⟩ := Option.isSome_iff_exists.1 hs
  have h : ∀ d : Nat, (Op.equalIn (d + 1) 36 (.pointer (some a)) (.pointer (some a))).run Try.prog w = .ok true w := fun d => by
    simp [Op.equalIn, run_underlying Try.underlying36, sizeOf, typeInfo, hj, run_sameAddr_same]
  simp only [binOp]
  simp [Op.equal, Op.maxDepth, h 9999]

set_option maxRecDepth 100000 in
set_option maxHeartbeats 400000 in
theorem catch1_blown (pb yb fb : Nat) (older : List PanicEntry) (w : World) (hp : w.cell? ⟨pb, 0, none⟩ = some (.pointer (some ⟨fb, 0, none⟩))) (x : Value) (hy : w.cell? ⟨yb, 0, none⟩ = some x) (hz : w.frozen? ⟨yb, 0, none⟩ = false) :
    CallsD Try.prog 40 #[.pointer (some ⟨pb, 0, none⟩), .pointer (some ⟨yb, 0, none⟩)] (.panicking ({ v := blownv fb, recovered := false } :: older)) w fun e u' w' =>
      e = .returned (.tuple #[]) ∧ u' = .panicking ({ v := blownv fb, recovered := true } :: older) ∧ w' = (w.setCell ⟨yb, 0, none⟩ (.bool true)).alloc (.cells #[.pointer (some ⟨fb, 0, none⟩)] 49) := by
  have hta := ta_blown_yes fb
  have hpl := World.block_lt_of_cell? _ _ hp
  have hyl := World.block_lt_of_cell? _ _ hy
  simp only at hpl hyl
  refine callsD_of_wpS Try.func40 rfl fun c₀ cs hu => ?_
  apply wpS_seq
  apply wpS_region
  unfold blownv at hu hta
  simp [wpOpsS, go_sem, recoverD, hu, Try.ntmps40, Exit.thenS]
  refine wpS_of_wp ?_
  have hfr : (#[Value.pointer (some { block := pb, off := 0 }), Value.pointer (some { block := yb, off := 0 })] ++
      ((Array.replicate 20 undef).setIfInBounds 3 (Value.iface 49 (Value.agg #[Value.pointer (some { block := fb, off := 0 })]))).setIfInBounds 0 (Value.iface 49 (Value.agg #[Value.pointer (some { block := fb, off := 0 })]))) =
      #[Value.pointer (some { block := pb, off := 0 }), Value.pointer (some { block := yb, off := 0 }), Value.iface 49 (Value.agg #[Value.pointer (some { block := fb, off := 0 })]), undef, undef, Value.iface 49 (Value.agg #[Value.pointer (some { block := fb, off := 0 })]), undef, undef, undef, undef, undef, undef, undef, undef, undef, undef, undef, undef, undef, undef, undef, undef] := by kernel_rfl
  rw [hfr]
  clear hfr
  have hns := neq_same ⟨fb, 0, none⟩
  go_wp2_with fail
  exact ⟨rfl, .panicking ({ v := blownv fb, recovered := true } :: older), by cases c₀; simp_all [blownv], .tuple #[], by simp [results, Try.results40], rfl, rfl, rfl⟩

set_option maxRecDepth 100000 in
set_option maxHeartbeats 400000 in
theorem catch_blown (S : Nat → Prop) (fb : Nat) (K : FuncId) (cap : Array Value) (w : World) (Q : World → Prop) (hK : ∀ w, (callFunc K cap).run Try.prog w = .ok (.enter K cap) w)
    (hS : ∀ k, w.heap.size ≤ k → ¬ S k)
    (hb : Calls Try.prog K cap ((w.alloc (.cells #[.pointer (some ⟨fb, 0, none⟩)] 36)).alloc (.cells #[.bool false] 4))
      (Blows S fb ((w.alloc (.cells #[.pointer (some ⟨fb, 0, none⟩)] 36)).alloc (.cells #[.bool false] 4)) Q)) :
    Calls Try.prog 20 #[.pointer (some ⟨fb, 0, none⟩), .func (.func K) #[] cap] w fun e w' => e = .returned (.bool true) ∧ Ext S w w' ∧ ∃ w1, Q w1 ∧ Ext (fun k => k = w.heap.size + 1) w1 w' := by
  have hmf := mkf
  have HB := Lib.hid hb; clear hb
  go_enter_defers Try.func20, Try.ntmps20
  go_wp2_with fail
  refine HB.out.mono ?_
  rintro e w1 ⟨older, rfl, hgo, hx, hq⟩
  have HGO := Lib.hid hgo; clear hgo
  have hp := (((Blk.new w #[.pointer (some ⟨fb, 0, none⟩)] 36).alloc (.cells #[.bool false] 4)).ext hx (hS _ (by omega))).cell 0
  have hbk := (Blk.new (w.alloc (.cells #[.pointer (some ⟨fb, 0, none⟩)] 36)) #[.bool false] 4).ext hx (hS _ (by simp))
  rw [World.size_alloc] at hbk
  have HX := Lib.hid hx; have HQ := Lib.hid hq; have HP := Lib.hid hp; have HBK := Lib.hid hbk; clear hx hq hp hbk
  go_wp2_with fail
  refine leaves_cons (f := 40) (args := #[.pointer (some ⟨w.heap.size, 0, none⟩), .pointer (some ⟨w.heap.size + 1, 0, none⟩)]) (by simp) (by simp [go_sem]) ?_
  refine (catch1_blown w.heap.size (w.heap.size + 1) fb older w1 HP.out (.bool false) (by rw [HBK.out.cell]; rfl) (HBK.out.free 0)).mono ?_
  rintro e u' w'' ⟨rfl, rfl, rfl⟩
  simp only []
  rw [settle_blown HGO.out]
  refine ⟨.bool true, ?_, rfl, ?_, w1, HQ.out, ?_⟩
  · have hb2 := (HBK.out.set 0 (.bool true)).alloc (.cells #[.pointer (some ⟨fb, 0, none⟩)] 49)
    have hc := hb2.cell 0
    simp [results, Try.results20, go_sem, hc]
  · have h1 := (((Ext.refl S w).alloc (.cells #[.pointer (some ⟨fb, 0, none⟩)] 36)).alloc (.cells #[.bool false] 4)).trans' HX.out
    exact (h1.setCell _ _ (fun h => by simp at h; omega)).alloc _
  · exact ((Ext.refl (fun k => k = w.heap.size + 1) w1).setCell _ _ (fun _ => rfl)).alloc _

end Go.Proofs.Ythdbgldjcnhboaa
