/- Contracts of guard.Must and guard.Run, for whatever function is run. -/
import Derived.Test.YthdbgldjcnhboaaRows
import Derived.Test.YthdbgldjcnhboaaLib
namespace Go.Proofs.Ythdbgldjcnhboaa
open Go.RowKit Go.My

/-- an error's value as it is thrown -/
def errv (n : Int) : Value := .iface 26 (.int .i64 n)
def thrown (n : Int) : List PanicEntry := [{ v := errv n, recovered := false }]

theorem mkf (fn : Fn) (first cap : Array Value) (w : World) : (Instr.makeFunc fn first cap).run Try.prog w = .ok (.func fn first cap) w := rfl

set_option maxRecDepth 100000 in
set_option maxHeartbeats 400000 in
theorem must_ok (w : World) : Calls Try.prog 11 #[.int .i64 0] w fun e w' => e = .returned (.tuple #[]) ∧ w = w' := by
  go_enter Try.func11, Try.ntmps11
  go_wp2
  go_end0
  exact ⟨rfl, rfl⟩
set_option maxRecDepth 100000 in
set_option maxHeartbeats 400000 in
theorem must_no (n : Int) (hn : n ≠ 0) (w : World) : Calls Try.prog 11 #[.int .i64 n] w fun e w' => e = .panicked (thrown n) ∧ w = w' := by
  have h : (n != 0) = true := by simpa using hn
  go_enter Try.func11, Try.ntmps11
  go_wp2
  exact ⟨rfl, rfl, rfl⟩

set_option maxRecDepth 100000 in
set_option maxHeartbeats 400000 in
theorem run1_idle (p : Addr) (w : World) :
    CallsD Try.prog 39 #[.pointer (some p)] .returning w fun e u' w' => e = .returned (.tuple #[]) ∧ u' = .returning ∧ w' = w := by
  refine callsD_of_wpS Try.func39 rfl fun c₀ cs hu => ?_
  apply wpS_seq
  apply wpS_region
  simp [wpOpsS, go_sem, recoverD, hu, Try.ntmps39, Exit.thenS]
  refine wpS_of_wp ?_
  go_wp2_with fail
  exact ⟨rfl, .returning, by cases c₀; simp_all, .tuple #[], by simp [results, Try.results39], rfl, rfl, rfl⟩

theorem ta_yes (v : Value) (w : World) : (Instr.typeAssert (.iface 26 v) 20 26 true).run Try.prog w = .ok (.tuple #[v, .bool true]) w := by kernel_rfl

set_option maxRecDepth 100000 in
set_option maxHeartbeats 400000 in
theorem run1_error (p : Addr) (n : Int) (older : List PanicEntry) (x : Value) (w : World) (hc : w.cell? p = some x) (hz : w.frozen? p = false) :
    CallsD Try.prog 39 #[.pointer (some p)] (.panicking ({ v := errv n, recovered := false } :: older)) w fun e u' w' =>
      e = .returned (.tuple #[]) ∧ u' = .panicking ({ v := errv n, recovered := true } :: older) ∧ w' = w.setCell p (.int .i64 n) := by
  refine callsD_of_wpS Try.func39 rfl fun c₀ cs hu => ?_
  apply wpS_seq
  apply wpS_region
  unfold errv at hu
  simp [wpOpsS, go_sem, recoverD, hu, Try.ntmps39, Exit.thenS]
  refine wpS_of_wp ?_
  have hta := ta_yes
  go_wp2_with fail
  exact ⟨rfl, .panicking ({ v := errv n, recovered := true } :: older), by cases c₀; simp_all [errv], .tuple #[], by simp [results, Try.results39], rfl, rfl, rfl⟩

/-- what a function that is run comes to: it returns (n is 0), or throws the error n; the runner's own cell is untouched; Q tells the rest -/
def RunBody (h : Nat) (Q : Int → World → Prop) (e : Ending) (w1 : World) : Prop :=
  ∃ n : Int, ((e = .returned (.tuple #[]) ∧ n = 0) ∨ (e = .panicked (thrown n) ∧ n ≠ 0)) ∧ Blk w1 h #[.int .i64 0] 26 ∧ Q n w1
def RunPost (h : Nat) (Q : Int → World → Prop) (e : Ending) (w' : World) : Prop :=
  ∃ (n : Int) (w1 : World), e = .returned (.int .i64 n) ∧ Blk w1 h #[.int .i64 0] 26 ∧ Q n w1 ∧ w' = w1.setCell ⟨h, 0, none⟩ (.int .i64 n)

set_option maxRecDepth 100000 in
set_option maxHeartbeats 400000 in
theorem run_some (K : FuncId) (cap : Array Value) (w : World) (Q : Int → World → Prop) (hK : ∀ w, (callFunc K cap).run Try.prog w = .ok (.enter K cap) w)
    (hb : Calls Try.prog K cap (w.alloc (.cells #[.int .i64 0] 26)) (RunBody w.heap.size Q)) :
    Calls Try.prog 9 #[.func (.func K) #[] cap] w (RunPost w.heap.size Q) := by
  have hmf := mkf
  have hnf : ∀ w : World, (binOp BinOp.eql 1 (Value.func (Fn.func K) #[] cap) Value.nilFunc).run Try.prog w = .ok (.bool false) w := fun w => by kernel_rfl
  have HB := Lib.hid hb; clear hb
  go_enter_defers Try.func9, Try.ntmps9
  go_wp2_with fail
  refine HB.out.mono ?_
  rintro e w1 ⟨n, he, hblk, hq⟩
  have hc : w1.cell? ⟨w.heap.size, 0, none⟩ = some (.int .i64 0) := by rw [hblk.cell]; rfl
  have hz := hblk.free 0
  have HBK := Lib.hid hblk; have HQ := Lib.hid hq; clear hblk hq
  generalize w.heap.size = h at *
  rcases he with ⟨rfl, rfl⟩ | ⟨rfl, -⟩
  · go_wp2_with fail
    refine leaves_cons (f := 39) (args := #[.pointer (some ⟨h, 0, none⟩)]) (by simp) (by simp [go_sem]) ?_
    refine (run1_idle _ _).mono ?_
    rintro e u' w'' ⟨rfl, rfl, rfl⟩
    refine ⟨.int .i64 0, ?_, 0, w1, rfl, HBK.out, HQ.out, rfl⟩
    simp [results, Try.results9, go_sem, hc]
  · go_wp2_with fail
    refine leaves_cons (f := 39) (args := #[.pointer (some ⟨h, 0, none⟩)]) (by simp) (by simp [go_sem]) ?_
    refine (run1_error _ n [] _ _ hc hz).mono ?_
    rintro e u' w'' ⟨rfl, rfl, rfl⟩
    refine ⟨.int .i64 n, ?_, n, w1, rfl, HBK.out, HQ.out, rfl⟩
    simp [results, Try.results9, go_sem, hc]

/-- the same, told by what may have changed -/
def Ran (S : Nat → Prop) (w : World) (Q : Int → World → Prop) (e : Ending) (w' : World) : Prop := ∃ n : Int, e = .returned (.int .i64 n) ∧ Ext S w w' ∧ Q n w'
def Body (S : Nat → Prop) (w : World) (Q : Int → World → Prop) (e : Ending) (w1 : World) : Prop :=
  ∃ n : Int, ((e = .returned (.tuple #[]) ∧ n = 0) ∨ (e = .panicked (thrown n) ∧ n ≠ 0)) ∧ Ext S w w1 ∧ Q n w1
theorem run_ext (S : Nat → Prop) (K : FuncId) (cap : Array Value) (w : World) (Q : Int → World → Prop) (hK : ∀ w, (callFunc K cap).run Try.prog w = .ok (.enter K cap) w)
    (hS : ¬ S w.heap.size) (hQ : ∀ n w1, Q n w1 → Q n (w1.setCell ⟨w.heap.size, 0, none⟩ (.int .i64 n)))
    (hb : Calls Try.prog K cap (w.alloc (.cells #[.int .i64 0] 26)) (Body S (w.alloc (.cells #[.int .i64 0] 26)) Q)) :
    Calls Try.prog 9 #[.func (.func K) #[] cap] w (Ran S w Q) := by
  refine (run_some K cap w (fun n w1 => Ext S (w.alloc (.cells #[.int .i64 0] 26)) w1 ∧ Q n w1) hK (hb.mono ?_)).mono ?_
  · rintro e w1 ⟨n, he, hx, hq⟩
    exact ⟨n, he, (Blk.new w _ _).ext hx hS, hx, hq⟩
  · rintro e w' ⟨n, w1, rfl, hb, ⟨hx, hq⟩, rfl⟩
    refine ⟨n, rfl, ?_, hQ n w1 hq⟩
    exact (((Ext.refl S w).alloc (.cells #[.int .i64 0] 26)).trans' hx).setCell _ _ (fun h => absurd h (Nat.lt_irrefl _))

set_option maxRecDepth 100000 in
set_option maxHeartbeats 400000 in
theorem run_nil (w : World) :
    Calls Try.prog 9 #[.nilFunc] w fun e w' => e = .returned (.int .i64 0) ∧ Ext No w w' := by
  have hnf : ∀ w : World, (binOp BinOp.eql 1 Value.nilFunc Value.nilFunc).run Try.prog w = .ok (.bool true) w := fun w => by kernel_rfl
  go_enter_defers Try.func9, Try.ntmps9
  go_wp2_with fail
  refine ⟨.int .i64 0, ?_, rfl, ((Ext.refl No w).alloc _)⟩
  simp [results, Try.results9, go_sem]

end Go.Proofs.Ythdbgldjcnhboaa
