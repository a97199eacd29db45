/- Walks of (*Table).Window, (*Window).Reset and the reference's turn, Sum, Last. -/
import Derived.Test.YtceiahjhfbghpaaRolB
import Derived.Test.YtceiahjhfbghpaaRollM
namespace Go.Proofs.Ytceiahjhfbghpaa
open Go.RowKit Go.My

theorem x2 (x : BitVec 32) : IntKind.u32.wrap (w32 x * (2 : Int)) = w32 (x * 2#32) := w32_mul_nat x 2
theorem x2' (x : BitVec 32) : w32 x * (2 : Int) % (4294967296 : Int) = w32 (x * 2#32) := by rw [← w32_wrap, x2]
theorem q31' (x : BitVec 32) : IntKind.u32.wrap ((w32 x).tdiv (2147483648 : Int)) = w32 (x >>> 31) := w32_quo x 31
theorem q31a (x : BitVec 32) : (w32 x).tdiv (2147483648 : Int) % (4294967296 : Int) = w32 (x >>> 31) := by rw [← w32_wrap, q31']
theorem add' (x y : BitVec 32) : (w32 x + w32 y) % (4294967296 : Int) = w32 (x + y) := by rw [← w32_wrap, w32_add]
attribute [local go_sem] x2 x2' q31' q31a w32_add add' w32_xor Roll.rotl_one

set_option maxRecDepth 100000 in
set_option maxHeartbeats 400000 in
theorem turn_any (x : BitVec 32) (n : Nat) (w : World) (hn : n ≤ 9223372036854775807) :
    Calls Try.prog 29 #[.int .u32 (w32 x), .int .i64 n] w fun e w' => e = .returned (.int .u32 (w32 (x.rotateLeft n))) ∧ w = w' := by
  go_enter Try.func29, Try.ntmps29
  go_wp2
  go_loop [0, 5] (fun x' i => ∃ k : Nat, k ≤ n % 32 ∧ i = .int .i64 k ∧ x' = .int .u32 (w32 (x.rotateLeft k))) (fun _ i => n % 32 - (intOf i).toNat)
  case atStart => exact ⟨0, by omega, rfl, by rw [Roll.rotl_nil]⟩
  case round =>
    obtain ⟨k, hk, rfl, rfl⟩ := hrel
    generalize hg : x.rotateLeft k = y at *
    have HG := Lib.hid hg; clear hg
    by_cases hlt : k < n % 32
    · go_wp2
      go_round
      case rel => exact ⟨k + 1, by omega, by go_num, by rw [← Roll.rotl_add, HG.out]⟩
      case measure => simp [intOf]; omega
    · have hk' : k = n % 32 := by omega
      have HK := Lib.hid hk'; clear hk'
      go_wp2
      go_ret
      exact ⟨by rw [← Roll.rotl_mod, ← HK.out, HG.out]; rfl, rfl⟩

theorem rollTo_H (s : BitVec 64) (l : List UInt8) : rollTo s l = Roll.H (fun c => mixN s c.toNat) l := by unfold rollTo Roll.H; rfl

set_option maxRecDepth 100000 in
set_option maxHeartbeats 400000 in
theorem refSum_any (s : BitVec 64) (a : Option Addr) (cap : Nat) (l : List UInt8) (w : World) (hl : l.length ≤ 9223372036854775807) (hr : Rd w a (byt l) l.length) :
    Calls Try.prog 23 #[.int .u64 (w64 s), .slice a l.length cap] w fun e w' => e = .returned (.int .u32 (w32 (rollTo s l))) ∧ w = w' := by
  obtain ⟨m, hm⟩ : ∃ m, m = l.length := ⟨_, rfl⟩
  rw [← hm] at hl hr ⊢
  have HM := Lib.hid hm; clear hm
  go_enter Try.func23, Try.ntmps23
  go_wp2
  go_loop [5, 6] (fun n i => ∃ k : Nat, k ≤ m ∧ i = .int .i64 k ∧ n = .int .u32 (w32 ((rollTo s (l.take k)).rotateLeft (m - k)))) (fun _ i => m - (intOf i).toNat)
  case atStart => exact ⟨0, by omega, rfl, by rw [rollTo_H, List.take_zero, Roll.H_nil, Roll.rotl_zero, w32_def]; rfl⟩
  case round =>
    obtain ⟨k, hk, rfl, rfl⟩ := hrel
    by_cases hlt : k < m
    · obtain ⟨b1, off, rfl, hcc⟩ := hr k hlt
      rw [byt_getD] at hcc
      generalize hg : l.getD k 0 = c at *
      have HG := Lib.hid hg; clear hg
      generalize hg2 : (rollTo s (l.take k)).rotateLeft (m - k) = r at *
      have HG2 := Lib.hid hg2; clear hg2
      go_wp2_with (first | (go_at_call 30; refine (refAt_any _ _ _).mono ?_; rintro e w' ⟨rfl, rfl⟩) | (go_at_call 29; rw [show ((m : Int) - 1 - (k : Int)) = ((m - 1 - k : Nat) : Int) by omega]; refine (turn_any _ _ _ (by omega)).mono ?_; rintro e w' ⟨rfl, rfl⟩))
      go_round
      case rel =>
        refine ⟨k + 1, by omega, by go_num, ?_⟩
        rw [← HG2.out, take_snoc' l k (by rw [← HM.out]; exact hlt), rollTo_snoc, HG.out, Roll.rotl_xor, Roll.rotl_add, show 1 + (m - (k + 1)) = m - k by omega, show m - (k + 1) = m - 1 - k by omega]
      case measure => simp [intOf]; omega
    · obtain rfl : k = m := by omega
      go_wp2
      go_ret
      exact ⟨by rw [HM.out, Roll.rotl_nil, List.take_length]; rfl, rfl⟩

theorem refSum_v (s : BitVec 64) (l : List UInt8) (v : Value) (w : World) (hv : IsBytes w l v) :
    Calls Try.prog 23 #[.int .u64 (w64 s), v] w fun e w' => e = .returned (.int .u32 (w32 (rollTo s l))) ∧ w = w' := by
  obtain ⟨a, cap, rfl, h1, h2, hr⟩ := hv
  exact refSum_any s a cap l w (by omega) hr
def RetBytes (l : List UInt8) (w : World) (e : Ending) (w' : World) : Prop := ∃ v, e = .returned v ∧ IsBytes w l v ∧ w = w'

set_option maxRecDepth 100000 in
set_option maxHeartbeats 400000 in
theorem refLast_any (l : List UInt8) (v : Value) (n : Nat) (w : World) (hv : IsBytes w l v) (h1 : 1 ≤ n) (hn : n ≤ 64) :
    Calls Try.prog 24 #[v, .int .i64 n] w (RetBytes (Roll.lastN n l) w) := by
  obtain ⟨a, cap, rfl, hc1, hc2, hr⟩ := hv
  obtain ⟨m, hm⟩ : ∃ m, m = l.length := ⟨_, rfl⟩
  rw [← hm] at hc1 hr ⊢
  by_cases hlt : n < m
  · obtain ⟨b, off, rfl, -⟩ := hr 0 (by omega)
    have hfin : IsBytes w (Roll.lastN n l) (.slice (some ⟨b, off + (m - n), none⟩) (m - (m - n)) (cap - (m - n))) := by
      have hle : (Roll.lastN n l).length = n := by simp [Roll.lastN]; omega
      refine ⟨_, _, by rw [hle, show m - (m - n) = n by omega], by omega, by omega, ?_⟩
      rw [hle]
      unfold Roll.lastN
      rw [byt_drop, ← hm]
      have := hr.drop (k := m - n)
      rw [show m - (m - n) = n by omega] at this
      exact this
    have HF := Lib.hid hfin
    have HM := Lib.hid hm
    clear hfin hm
    go_enter Try.func24, Try.ntmps24
    go_wp2
    go_ret
    exact ⟨_, rfl, HF.out, rfl⟩
  · have hfin : Roll.lastN n l = l := Roll.lastN_short n l (by omega)
    have HF := Lib.hid hfin
    have HM := Lib.hid hm
    clear hfin hm
    go_enter Try.func24, Try.ntmps24
    go_wp2
    go_ret
    exact ⟨_, rfl, ⟨a, cap, by rw [HF.out, ← HM.out]; rfl, by rw [HF.out, ← HM.out]; exact hc1, hc2, by rw [HF.out, ← HM.out]; exact hr⟩, rfl⟩

set_option maxRecDepth 100000 in
set_option maxHeartbeats 400000 in
theorem window_no (b : Nat) (n : Int) (w : World) (h : n < 1 ∨ 64 < n) :
    Calls Try.prog 18 #[.pointer (some ⟨b, 0, none⟩), .int .i64 n] w fun e w' => e = .returned (.tuple #[.pointer none, .int .i64 1]) ∧ w = w' := by
  rcases h with h | h
  all_goals
    go_enter Try.func18, Try.ntmps18
    go_wp2
    go_ret2
    exact ⟨rfl, rfl⟩

theorem Try.info8 : (Try.prog.info? 5).map (fun i => (i.zero, i.size, i.bytes)) = some (some (.int .u8 0), 1, 1) := by kernel_rfl
theorem make_bytes (n : Nat) (hn : n ≤ 281474976710656) (w : World) : (Instr.makeSlice 25 (.int .i64 n) (.int .i64 n)).run Try.prog w =
    .ok (.slice (some ⟨w.heap.size, 0, none⟩) n n) (w.alloc (.cells (bufCells (List.replicate n 0)) 5)) := by
  obtain ⟨i0, hi, hz0, hz1, hz2⟩ := info_parts Try.info8
  have := run_make (P := Try.prog) w 25 5 i0 (.int .u8 0) Try.underlying25 hi hz0 .i64 .i64 (n : Int) (n : Int) (by omega) (by omega) (by rw [hz2]; omega) (by omega)
  rw [this, hz1]
  have : madeCells (Value.int .u8 0).cells ((n : Int).toNat * 1) = bufCells (List.replicate n 0) := by
    apply Array.ext
    · simp [madeCells, bufCells]
    · intro i h1 h2
      simp [madeCells, bufCells, Value.cells, Nat.mod_one]
  rw [this]; simp

set_option maxRecDepth 100000 in
set_option maxHeartbeats 400000 in
theorem window_yes (b : Nat) (n : Nat) (w : World) (h1 : 1 ≤ n) (h2 : n ≤ 64) :
    Calls Try.prog 18 #[.pointer (some ⟨b, 0, none⟩), .int .i64 n] w fun e w' =>
      e = .returned (.tuple #[.pointer (some ⟨w.heap.size + 1, 0, none⟩), .int .i64 0]) ∧ Win w' (w.heap.size + 1) w.heap.size b ⟨List.replicate n 0, 0, false, 0#32⟩ ∧ Ext No w w' := by
  have hm := make_bytes n (by omega)
  generalize hg : bufCells (List.replicate n 0) = cs at *
  have HG := Lib.hid hg; clear hg
  go_enter Try.func18, Try.ntmps18
  go_wp2
  go_ret2
  refine ⟨rfl, ⟨?_, ?_, by simp; omega, by simp; omega⟩, ((Ext.refl No w).alloc _).alloc _⟩
  · have := Blk.new (w.alloc (.cells cs 5)) (winCells b w.heap.size n 0 false 0#32) 64
    rw [World.size_alloc] at this
    rw [List.length_replicate]
    have e0 : w32 0#32 = 0 := by rw [w32_def]; rfl
    unfold winCells at this ⊢
    rw [e0] at this ⊢
    exact this
  · rw [HG.out]; exact (Blk.new w cs _).alloc _

set_option maxRecDepth 100000 in
set_option maxHeartbeats 400000 in
theorem reset_any (wb lb tb : Nat) (st : WS) (w : World) (hw : Win w wb lb tb st) :
    Calls Try.prog 21 #[.pointer (some ⟨wb, 0, none⟩)] w fun e w' =>
      e = .returned (.tuple #[]) ∧ Win w' wb lb tb { st with pos := 0, full := false, sum := 0#32 } ∧ Ext (fun k => k = wb ∨ k = lb) w w' := by
  have h2 : w.cell? ⟨wb, 2, none⟩ = some (.int .i64 st.pos) := by rw [hw.head.cell]; rfl
  have h3 : w.cell? ⟨wb, 3, none⟩ = some (.bool st.full) := by rw [hw.head.cell]; rfl
  have h4 : w.cell? ⟨wb, 4, none⟩ = some (.int .u32 (w32 st.sum)) := by rw [hw.head.cell]; rfl
  have f2 := hw.head.free 2
  have f3 := hw.head.free 3
  have f4 := hw.head.free 4
  have HW := Lib.hid hw
  clear hw
  go_enter Try.func21, Try.ntmps21
  go_wp2
  go_end0
  refine ⟨rfl, ⟨?_, ((HW.out.row.set_other _ _ HW.out.ne.symm).set_other _ _ HW.out.ne.symm).set_other _ _ HW.out.ne.symm, by have := HW.out.low; simp; omega, HW.out.len⟩, (((Ext.refl _ w).setCell _ _ (fun _ => .inl rfl)).setCell _ _ (fun _ => .inl rfl)).setCell _ _ (fun _ => .inl rfl)⟩
  have hh := ((HW.out.head.set 2 (.int .i64 0)).set 3 (.bool false)).set 4 (.int .u32 0)
  have e0 : w32 0#32 = 0 := by rw [w32_def]; rfl
  unfold winCells at hh ⊢
  rw [e0]
  exact hh

end Go.Proofs.Ytceiahjhfbghpaa
