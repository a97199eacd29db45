/- Walks of roll.Make, (*Table).At, (*Table).Window, bits.RotateLeft32 and the reference's At. -/
import Derived.Test.YtceiahjhfbghpaaRows
import Derived.Test.YtceiahjhfbghpaaBv
namespace Go.Proofs.Ytceiahjhfbghpaa
open Go.RowKit Go.My

def mixN (s : BitVec 64) (k : Nat) : BitVec 32 :=
  let n := s + BitVec.ofNat 64 k * 11400714819323198485#64
  let n := (n ^^^ n >>> 30) * 13787848793156543929#64
  let n := (n ^^^ n >>> 27) * 10723151780598845931#64
  (((n ^^^ n >>> 31) >>> 32).setWidth 32)

def mixTo (s : BitVec 64) (k : Nat) : Array Value := Array.ofFn (n := 256) fun i => .int .u32 (w32 (if i.val < k then mixN s i.val else 0#32))
theorem mixTo_size (s : BitVec 64) (k : Nat) : (mixTo s k).size = 256 := by simp [mixTo]
theorem mixTo_get (s : BitVec 64) (k i : Nat) (h : i < 256) : (mixTo s k)[i]? = some (.int .u32 (w32 (if i < k then mixN s i else 0#32))) := by
  simp [mixTo, h]
theorem mixTo_succ (s : BitVec 64) (k : Nat) (h : k < 256) : (mixTo s k).setIfInBounds k (.int .u32 (w32 (mixN s k))) = mixTo s (k + 1) := by
  apply Array.ext_getElem?
  intro i
  rw [Array.getElem?_setIfInBounds]
  by_cases hi : i < 256
  · rw [mixTo_get _ _ _ hi, mixTo_get _ _ _ hi, mixTo_size]
    by_cases hk : k = i
    · subst hk; simp [h]
    · rw [if_neg hk]
      have : (i < k) ↔ (i < k + 1) := by omega
      simp [this]
  · have h1 : (mixTo s k)[i]? = none := by rw [Array.getElem?_eq_none]; rw [mixTo_size]; omega
    have h2 : (mixTo s (k+1))[i]? = none := by rw [Array.getElem?_eq_none]; rw [mixTo_size]; omega
    rw [h1, h2]; split <;> (try split) <;> first | rfl | (exfalso; omega)
theorem zero42 (s : BitVec 64) (w : World) : (zeroValue 61).run Try.prog w = .ok (.agg (mixTo s 0)) w := by kernel_rfl


theorem c1 (x : BitVec 64) : IntKind.u64.wrap (w64 x * (11400714819323198485 : Int)) = w64 (x * 11400714819323198485#64) := w64_mul_nat x 11400714819323198485
theorem c2 (x : BitVec 64) : IntKind.u64.wrap (w64 x * (13787848793156543929 : Int)) = w64 (x * 13787848793156543929#64) := w64_mul_nat x 13787848793156543929
theorem c3 (x : BitVec 64) : IntKind.u64.wrap (w64 x * (10723151780598845931 : Int)) = w64 (x * 10723151780598845931#64) := w64_mul_nat x 10723151780598845931
theorem s30 (x : BitVec 64) : w64 x / (1073741824 : Int) = w64 (x >>> 30) := w64_shr x 30
theorem s27 (x : BitVec 64) : w64 x / (134217728 : Int) = w64 (x >>> 27) := w64_shr x 27
theorem s31 (x : BitVec 64) : w64 x / (2147483648 : Int) = w64 (x >>> 31) := w64_shr x 31
theorem s32 (x : BitVec 64) : w64 x / (4294967296 : Int) = w64 (x >>> 32) := w64_shr x 32
theorem q30 (x : BitVec 64) : IntKind.u64.wrap ((w64 x).tdiv (1073741824 : Int)) = w64 (x >>> 30) := w64_quo x 30
theorem q27 (x : BitVec 64) : IntKind.u64.wrap ((w64 x).tdiv (134217728 : Int)) = w64 (x >>> 27) := w64_quo x 27
theorem q31 (x : BitVec 64) : IntKind.u64.wrap ((w64 x).tdiv (2147483648 : Int)) = w64 (x >>> 31) := w64_quo x 31
theorem q32 (x : BitVec 64) : IntKind.u64.wrap ((w64 x).tdiv (4294967296 : Int)) = w64 (x >>> 32) := w64_quo x 32
attribute [irreducible] mixTo mixN
attribute [local go_sem] c1 c2 c3 s30 s27 s31 s32 q30 q27 q31 q32 w64_xor w64_add w64_nat w32_of_64 w32_of_64' w64_self

theorem mixN_eq (s : BitVec 64) (k : Nat) : (BitVec.setWidth 32
    ((((s + BitVec.ofNat 64 k * 11400714819323198485#64 ^^^ (s + BitVec.ofNat 64 k * 11400714819323198485#64) >>> 30) * 13787848793156543929#64 ^^^
      ((s + BitVec.ofNat 64 k * 11400714819323198485#64 ^^^ (s + BitVec.ofNat 64 k * 11400714819323198485#64) >>> 30) * 13787848793156543929#64) >>> 27) * 10723151780598845931#64 ^^^
      (((s + BitVec.ofNat 64 k * 11400714819323198485#64 ^^^ (s + BitVec.ofNat 64 k * 11400714819323198485#64) >>> 30) * 13787848793156543929#64 ^^^
      ((s + BitVec.ofNat 64 k * 11400714819323198485#64 ^^^ (s + BitVec.ofNat 64 k * 11400714819323198485#64) >>> 30) * 13787848793156543929#64) >>> 27) * 10723151780598845931#64) >>> 31) >>> 32)) = mixN s k := by
  unfold mixN; rfl

set_option maxRecDepth 100000 in
set_option maxHeartbeats 400000 in
theorem make_any (s : BitVec 64) (w : World) :
    Calls Try.prog 17 #[.int .u64 (w64 s)] w fun e w' => e = .returned (.pointer (some ⟨w.heap.size, 0, none⟩)) ∧ w' = w.alloc (.cells (mixTo s 256) 61) := by
  have hz := zero42 s
  go_enter Try.func17, Try.ntmps17
  go_wp2_with fail
  go_loopw [4, 5, 8] (fun _ _ i wr => ∃ k : Nat, k ≤ 256 ∧ i = .int .i64 k ∧ wr = w.alloc (.cells (mixTo s k) 61)) (fun _ _ i _ => 256 - (intOf i).toNat)
  case atStart => exact ⟨0, by omega, rfl, rfl⟩
  case round =>
    clear hz
    obtain ⟨k, hk, rfl, rfl⟩ := hrel
    by_cases hlt : k < 256
    · have hc := mixTo_get s k k hlt
      have hs := mixTo_succ s k hlt
      have hsz := mixTo_size s k
      go_wp2
      go_roundw
      case rel => exact ⟨k + 1, by omega, by go_num, by rw [mixN_eq, hs]⟩
      case measure => simp [intOf]; omega
    · obtain rfl : k = 256 := by omega
      go_wp2
      go_ret
      exact ⟨rfl, rfl⟩

set_option maxRecDepth 100000 in
set_option maxHeartbeats 400000 in
theorem refAt_any (s : BitVec 64) (c : UInt8) (w : World) :
    Calls Try.prog 30 #[.int .u64 (w64 s), .int .u8 c.toNat] w fun e w' => e = .returned (.int .u32 (w32 (mixN s c.toNat))) ∧ w = w' := by
  go_enter Try.func30, Try.ntmps30
  go_wp2
  go_ret
  exact ⟨by rw [← mixN_eq]; rfl, rfl⟩

def Tab (w : World) (b : Nat) (s : BitVec 64) : Prop := w.heap[b]? = some (.cells (mixTo s 256) 61 (0, 0))
theorem Tab.cell {w : World} {b : Nat} {s : BitVec 64} (h : Tab w b s) (c : Nat) (hc : c < 256) : w.cell? ⟨b, c, none⟩ = some (.int .u32 (w32 (mixN s c))) := by
  unfold Tab at h
  have := mixTo_get s 256 c hc
  simp only [hc, if_true] at this
  simp [World.cell?, h, this]

end Go.Proofs.Ytceiahjhfbghpaa
