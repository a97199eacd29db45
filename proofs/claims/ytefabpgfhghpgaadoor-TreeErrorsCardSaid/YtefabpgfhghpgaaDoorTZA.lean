/-
  JOINED (1): plain laws on words and worlds; the contracts of the packages guard and code.
-/
import Derived.WalkKit
import Derived.WalkSpells
import Derived.WalkLawsBesides
import Derived.Lib.Hide
import Derived.BigQuiet
import Derived.StillTailTactics
import Derived.Deep.DeepCutAuto
import Derived.Deep.DeepFit
import Derived.Deep.RegionLaw
import Derived.RegionDies
import Derived.Laws.AppendOwnNone
import Derived.Maps.AppendAt
import Derived.Test.YtefabpgfhghpgaaDoorProg
import Derived.Laws.BytesArg
import Derived.Lib.ConvBytes
import Derived.Lib.SliceRun
import Derived.Test.YtefabpgfhghpgaaDoorRows
import Derived.Laws.BitsAllLaws
import Derived.RangeFuncSeq
import Derived.RangeFuncBound
import Derived.RangeFuncOwn
import Derived.OwnWalkIn
import Derived.Maps.OwnIn
set_option linter.unusedVariables false
set_option linter.unusedSimpArgs false

section
/- Plain laws on machine words: the walk's own spelling of unsigned arithmetic, told by bit vectors behind opaque names. No program in sight. -/
namespace Go.My

/-- a word as the number that the machine holds -/
def w64 (x : BitVec 64) : Int := (x.toNat : Int)
theorem w64_def (x : BitVec 64) : w64 x = (x.toNat : Int) := rfl
theorem w64_bd (x : BitVec 64) : 0 ≤ w64 x ∧ w64 x ≤ 18446744073709551615 := by have := x.isLt; rw [w64_def]; omega
theorem w64_inj {x y : BitVec 64} (h : w64 x = w64 y) : x = y := by rw [w64_def, w64_def] at h; exact BitVec.eq_of_toNat_eq (by omega)
theorem w64_wrap (n : Int) : IntKind.u64.wrap n = n % 18446744073709551616 := IntKind.wrap_u64 n
theorem w64_self (x : BitVec 64) : IntKind.u64.wrap (w64 x) = w64 x := IntWalk.u64_in _ (w64_bd x)
theorem w64_ofInt (x : BitVec 64) : BitVec.ofInt 64 (w64 x) = x := by simp [w64_def]
theorem w64_xor (x y : BitVec 64) : bits .xor .u64 (w64 x) (w64 y) = w64 (x ^^^ y) := by
  show IntKind.u64.wrap ((BitVec.ofInt 64 (w64 x) ^^^ BitVec.ofInt 64 (w64 y)).toNat : Int) = _
  rw [w64_ofInt, w64_ofInt, ← w64_def, w64_self]
theorem w64_and (x y : BitVec 64) : bits .and .u64 (w64 x) (w64 y) = w64 (x &&& y) := by
  show IntKind.u64.wrap ((BitVec.ofInt 64 (w64 x) &&& BitVec.ofInt 64 (w64 y)).toNat : Int) = _
  rw [w64_ofInt, w64_ofInt, ← w64_def, w64_self]
theorem w64_or (x y : BitVec 64) : bits .or .u64 (w64 x) (w64 y) = w64 (x ||| y) := by
  show IntKind.u64.wrap ((BitVec.ofInt 64 (w64 x) ||| BitVec.ofInt 64 (w64 y)).toNat : Int) = _
  rw [w64_ofInt, w64_ofInt, ← w64_def, w64_self]
theorem w64_and_int (x : BitVec 64) (n : Int) : bits .and .u64 (w64 x) n = w64 (x &&& BitVec.ofInt 64 n) := by
  show IntKind.u64.wrap ((BitVec.ofInt 64 (w64 x) &&& BitVec.ofInt 64 n).toNat : Int) = _
  rw [w64_ofInt, ← w64_def, w64_self]
theorem w64_xor_int (x : BitVec 64) (n : Int) : bits .xor .u64 (w64 x) n = w64 (x ^^^ BitVec.ofInt 64 n) := by
  show IntKind.u64.wrap ((BitVec.ofInt 64 (w64 x) ^^^ BitVec.ofInt 64 n).toNat : Int) = _
  rw [w64_ofInt, ← w64_def, w64_self]
theorem w64_or_int (x : BitVec 64) (n : Int) : bits .or .u64 (w64 x) n = w64 (x ||| BitVec.ofInt 64 n) := by
  show IntKind.u64.wrap ((BitVec.ofInt 64 (w64 x) ||| BitVec.ofInt 64 n).toNat : Int) = _
  rw [w64_ofInt, ← w64_def, w64_self]
theorem w64_nat (n : Nat) : IntKind.u64.wrap (n : Int) = w64 (BitVec.ofNat 64 n) := by
  rw [w64_wrap, w64_def, BitVec.toNat_ofNat]; omega
theorem w64_int (n : Int) : IntKind.u64.wrap n = w64 (BitVec.ofInt 64 n) := by
  rw [w64_wrap, w64_def, BitVec.toNat_ofInt]; omega
theorem w64_lit (n : Nat) (h : n < 18446744073709551616) : (n : Int) = w64 (BitVec.ofNat 64 n) := by
  rw [w64_def, BitVec.toNat_ofNat]; omega
theorem w64_add (x y : BitVec 64) : IntKind.u64.wrap (w64 x + w64 y) = w64 (x + y) := by
  simp only [w64_wrap, w64_def, BitVec.toNat_add]; omega
theorem w64_sub (x y : BitVec 64) : IntKind.u64.wrap (w64 x - w64 y) = w64 (x - y) := by
  have := x.isLt; have := y.isLt
  simp only [w64_wrap, w64_def, BitVec.toNat_sub]; omega
theorem w64_mul (x y : BitVec 64) : IntKind.u64.wrap (w64 x * w64 y) = w64 (x * y) := by
  simp only [w64_wrap, w64_def]
  rw [BitVec.toNat_mul, Int.natCast_emod, Int.natCast_mul]; rfl
theorem w64_mul_nat (x : BitVec 64) (n : Nat) : IntKind.u64.wrap (w64 x * (n : Int)) = w64 (x * BitVec.ofNat 64 n) := by
  simp only [w64_wrap, w64_def]
  rw [BitVec.toNat_mul, BitVec.toNat_ofNat, Nat.mul_mod_mod, Int.natCast_emod, Int.natCast_mul]; rfl
theorem w64_shr (x : BitVec 64) (j : Nat) : w64 x / ((2 ^ j : Nat) : Int) = w64 (x >>> j) := by
  simp only [w64_def]
  rw [BitVec.toNat_ushiftRight, Nat.shiftRight_eq_div_pow]; exact (Int.natCast_ediv _ _).symm
theorem w64_quo (x : BitVec 64) (j : Nat) : IntKind.u64.wrap ((w64 x).tdiv ((2 ^ j : Nat) : Int)) = w64 (x >>> j) := by
  rw [Int.tdiv_eq_ediv_of_nonneg (w64_bd x).1, w64_shr, w64_self]
/-- a word as the number that the machine holds -/
def w32 (x : BitVec 32) : Int := (x.toNat : Int)
theorem w32_def (x : BitVec 32) : w32 x = (x.toNat : Int) := rfl
theorem w32_bd (x : BitVec 32) : 0 ≤ w32 x ∧ w32 x ≤ 4294967295 := by have := x.isLt; rw [w32_def]; omega
theorem w32_inj {x y : BitVec 32} (h : w32 x = w32 y) : x = y := by rw [w32_def, w32_def] at h; exact BitVec.eq_of_toNat_eq (by omega)
theorem w32_wrap (n : Int) : IntKind.u32.wrap n = n % 4294967296 := IntKind.wrap_u32 n
theorem w32_self (x : BitVec 32) : IntKind.u32.wrap (w32 x) = w32 x := IntWalk.u32_in _ (w32_bd x)
theorem w32_ofInt (x : BitVec 32) : BitVec.ofInt 32 (w32 x) = x := by simp [w32_def]
theorem w32_xor (x y : BitVec 32) : bits .xor .u32 (w32 x) (w32 y) = w32 (x ^^^ y) := by
  show IntKind.u32.wrap ((BitVec.ofInt 32 (w32 x) ^^^ BitVec.ofInt 32 (w32 y)).toNat : Int) = _
  rw [w32_ofInt, w32_ofInt, ← w32_def, w32_self]
theorem w32_and (x y : BitVec 32) : bits .and .u32 (w32 x) (w32 y) = w32 (x &&& y) := by
  show IntKind.u32.wrap ((BitVec.ofInt 32 (w32 x) &&& BitVec.ofInt 32 (w32 y)).toNat : Int) = _
  rw [w32_ofInt, w32_ofInt, ← w32_def, w32_self]
theorem w32_or (x y : BitVec 32) : bits .or .u32 (w32 x) (w32 y) = w32 (x ||| y) := by
  show IntKind.u32.wrap ((BitVec.ofInt 32 (w32 x) ||| BitVec.ofInt 32 (w32 y)).toNat : Int) = _
  rw [w32_ofInt, w32_ofInt, ← w32_def, w32_self]
theorem w32_and_int (x : BitVec 32) (n : Int) : bits .and .u32 (w32 x) n = w32 (x &&& BitVec.ofInt 32 n) := by
  show IntKind.u32.wrap ((BitVec.ofInt 32 (w32 x) &&& BitVec.ofInt 32 n).toNat : Int) = _
  rw [w32_ofInt, ← w32_def, w32_self]
theorem w32_xor_int (x : BitVec 32) (n : Int) : bits .xor .u32 (w32 x) n = w32 (x ^^^ BitVec.ofInt 32 n) := by
  show IntKind.u32.wrap ((BitVec.ofInt 32 (w32 x) ^^^ BitVec.ofInt 32 n).toNat : Int) = _
  rw [w32_ofInt, ← w32_def, w32_self]
theorem w32_or_int (x : BitVec 32) (n : Int) : bits .or .u32 (w32 x) n = w32 (x ||| BitVec.ofInt 32 n) := by
  show IntKind.u32.wrap ((BitVec.ofInt 32 (w32 x) ||| BitVec.ofInt 32 n).toNat : Int) = _
  rw [w32_ofInt, ← w32_def, w32_self]
theorem w32_nat (n : Nat) : IntKind.u32.wrap (n : Int) = w32 (BitVec.ofNat 32 n) := by
  rw [w32_wrap, w32_def, BitVec.toNat_ofNat]; omega
theorem w32_int (n : Int) : IntKind.u32.wrap n = w32 (BitVec.ofInt 32 n) := by
  rw [w32_wrap, w32_def, BitVec.toNat_ofInt]; omega
theorem w32_lit (n : Nat) (h : n < 4294967296) : (n : Int) = w32 (BitVec.ofNat 32 n) := by
  rw [w32_def, BitVec.toNat_ofNat]; omega
theorem w32_add (x y : BitVec 32) : IntKind.u32.wrap (w32 x + w32 y) = w32 (x + y) := by
  simp only [w32_wrap, w32_def, BitVec.toNat_add]; omega
theorem w32_sub (x y : BitVec 32) : IntKind.u32.wrap (w32 x - w32 y) = w32 (x - y) := by
  have := x.isLt; have := y.isLt
  simp only [w32_wrap, w32_def, BitVec.toNat_sub]; omega
theorem w32_mul (x y : BitVec 32) : IntKind.u32.wrap (w32 x * w32 y) = w32 (x * y) := by
  simp only [w32_wrap, w32_def]
  rw [BitVec.toNat_mul, Int.natCast_emod, Int.natCast_mul]; rfl
theorem w32_mul_nat (x : BitVec 32) (n : Nat) : IntKind.u32.wrap (w32 x * (n : Int)) = w32 (x * BitVec.ofNat 32 n) := by
  simp only [w32_wrap, w32_def]
  rw [BitVec.toNat_mul, BitVec.toNat_ofNat, Nat.mul_mod_mod, Int.natCast_emod, Int.natCast_mul]; rfl
theorem w32_shr (x : BitVec 32) (j : Nat) : w32 x / ((2 ^ j : Nat) : Int) = w32 (x >>> j) := by
  simp only [w32_def]
  rw [BitVec.toNat_ushiftRight, Nat.shiftRight_eq_div_pow]; exact (Int.natCast_ediv _ _).symm
theorem w32_quo (x : BitVec 32) (j : Nat) : IntKind.u32.wrap ((w32 x).tdiv ((2 ^ j : Nat) : Int)) = w32 (x >>> j) := by
  rw [Int.tdiv_eq_ediv_of_nonneg (w32_bd x).1, w32_shr, w32_self]
/-- a word as the number that the machine holds -/
def w8 (x : BitVec 8) : Int := (x.toNat : Int)
theorem w8_def (x : BitVec 8) : w8 x = (x.toNat : Int) := rfl
theorem w8_bd (x : BitVec 8) : 0 ≤ w8 x ∧ w8 x ≤ 255 := by have := x.isLt; rw [w8_def]; omega
theorem w8_inj {x y : BitVec 8} (h : w8 x = w8 y) : x = y := by rw [w8_def, w8_def] at h; exact BitVec.eq_of_toNat_eq (by omega)
theorem w8_wrap (n : Int) : IntKind.u8.wrap n = n % 256 := IntKind.wrap_u8 n
theorem w8_self (x : BitVec 8) : IntKind.u8.wrap (w8 x) = w8 x := IntWalk.u8_in _ (w8_bd x)
theorem w8_ofInt (x : BitVec 8) : BitVec.ofInt 8 (w8 x) = x := by simp [w8_def]
theorem w8_xor (x y : BitVec 8) : bits .xor .u8 (w8 x) (w8 y) = w8 (x ^^^ y) := by
  show IntKind.u8.wrap ((BitVec.ofInt 8 (w8 x) ^^^ BitVec.ofInt 8 (w8 y)).toNat : Int) = _
  rw [w8_ofInt, w8_ofInt, ← w8_def, w8_self]
theorem w8_and (x y : BitVec 8) : bits .and .u8 (w8 x) (w8 y) = w8 (x &&& y) := by
  show IntKind.u8.wrap ((BitVec.ofInt 8 (w8 x) &&& BitVec.ofInt 8 (w8 y)).toNat : Int) = _
  rw [w8_ofInt, w8_ofInt, ← w8_def, w8_self]
theorem w8_or (x y : BitVec 8) : bits .or .u8 (w8 x) (w8 y) = w8 (x ||| y) := by
  show IntKind.u8.wrap ((BitVec.ofInt 8 (w8 x) ||| BitVec.ofInt 8 (w8 y)).toNat : Int) = _
  rw [w8_ofInt, w8_ofInt, ← w8_def, w8_self]
theorem w8_and_int (x : BitVec 8) (n : Int) : bits .and .u8 (w8 x) n = w8 (x &&& BitVec.ofInt 8 n) := by
  show IntKind.u8.wrap ((BitVec.ofInt 8 (w8 x) &&& BitVec.ofInt 8 n).toNat : Int) = _
  rw [w8_ofInt, ← w8_def, w8_self]
theorem w8_xor_int (x : BitVec 8) (n : Int) : bits .xor .u8 (w8 x) n = w8 (x ^^^ BitVec.ofInt 8 n) := by
  show IntKind.u8.wrap ((BitVec.ofInt 8 (w8 x) ^^^ BitVec.ofInt 8 n).toNat : Int) = _
  rw [w8_ofInt, ← w8_def, w8_self]
theorem w8_or_int (x : BitVec 8) (n : Int) : bits .or .u8 (w8 x) n = w8 (x ||| BitVec.ofInt 8 n) := by
  show IntKind.u8.wrap ((BitVec.ofInt 8 (w8 x) ||| BitVec.ofInt 8 n).toNat : Int) = _
  rw [w8_ofInt, ← w8_def, w8_self]
theorem w8_nat (n : Nat) : IntKind.u8.wrap (n : Int) = w8 (BitVec.ofNat 8 n) := by
  rw [w8_wrap, w8_def, BitVec.toNat_ofNat]; omega
theorem w8_int (n : Int) : IntKind.u8.wrap n = w8 (BitVec.ofInt 8 n) := by
  rw [w8_wrap, w8_def, BitVec.toNat_ofInt]; omega
theorem w8_lit (n : Nat) (h : n < 256) : (n : Int) = w8 (BitVec.ofNat 8 n) := by
  rw [w8_def, BitVec.toNat_ofNat]; omega
theorem w8_add (x y : BitVec 8) : IntKind.u8.wrap (w8 x + w8 y) = w8 (x + y) := by
  simp only [w8_wrap, w8_def, BitVec.toNat_add]; omega
theorem w8_sub (x y : BitVec 8) : IntKind.u8.wrap (w8 x - w8 y) = w8 (x - y) := by
  have := x.isLt; have := y.isLt
  simp only [w8_wrap, w8_def, BitVec.toNat_sub]; omega
theorem w8_mul (x y : BitVec 8) : IntKind.u8.wrap (w8 x * w8 y) = w8 (x * y) := by
  simp only [w8_wrap, w8_def]
  rw [BitVec.toNat_mul, Int.natCast_emod, Int.natCast_mul]; rfl
theorem w8_mul_nat (x : BitVec 8) (n : Nat) : IntKind.u8.wrap (w8 x * (n : Int)) = w8 (x * BitVec.ofNat 8 n) := by
  simp only [w8_wrap, w8_def]
  rw [BitVec.toNat_mul, BitVec.toNat_ofNat, Nat.mul_mod_mod, Int.natCast_emod, Int.natCast_mul]; rfl
theorem w8_shr (x : BitVec 8) (j : Nat) : w8 x / ((2 ^ j : Nat) : Int) = w8 (x >>> j) := by
  simp only [w8_def]
  rw [BitVec.toNat_ushiftRight, Nat.shiftRight_eq_div_pow]; exact (Int.natCast_ediv _ _).symm
theorem w8_quo (x : BitVec 8) (j : Nat) : IntKind.u8.wrap ((w8 x).tdiv ((2 ^ j : Nat) : Int)) = w8 (x >>> j) := by
  rw [Int.tdiv_eq_ediv_of_nonneg (w8_bd x).1, w8_shr, w8_self]
theorem w32_of_64 (x : BitVec 64) : IntKind.u32.wrap (w64 x) = w32 (x.setWidth 32) := by
  simp only [w32_wrap, w32_def, w64_def, BitVec.toNat_setWidth]; omega
theorem w32_of_64' (x : BitVec 64) : w64 x % (4294967296 : Int) = w32 (x.setWidth 32) := by
  simp only [w32_def, w64_def, BitVec.toNat_setWidth]; omega
theorem w64_of_32 (x : BitVec 32) : IntKind.u64.wrap (w32 x) = w64 (x.setWidth 64) := by
  have := x.isLt
  simp only [w64_wrap, w32_def, w64_def, BitVec.toNat_setWidth]; omega
theorem w8_of_64 (x : BitVec 64) : IntKind.u8.wrap (w64 x) = w8 (x.setWidth 8) := by
  simp only [w8_wrap, w8_def, w64_def, BitVec.toNat_setWidth]; omega
theorem w8_of_64' (x : BitVec 64) : w64 x % (256 : Int) = w8 (x.setWidth 8) := by
  simp only [w8_def, w64_def, BitVec.toNat_setWidth]; omega
theorem w64_of_8 (x : BitVec 8) : IntKind.u64.wrap (w8 x) = w64 (x.setWidth 64) := by
  have := x.isLt
  simp only [w64_wrap, w8_def, w64_def, BitVec.toNat_setWidth]; omega
theorem w8_of_32 (x : BitVec 32) : IntKind.u8.wrap (w32 x) = w8 (x.setWidth 8) := by
  simp only [w8_wrap, w8_def, w32_def, BitVec.toNat_setWidth]; omega
theorem w8_of_32' (x : BitVec 32) : w32 x % (256 : Int) = w8 (x.setWidth 8) := by
  simp only [w8_def, w32_def, BitVec.toNat_setWidth]; omega
theorem w32_of_8 (x : BitVec 8) : IntKind.u32.wrap (w8 x) = w32 (x.setWidth 32) := by
  have := x.isLt
  simp only [w32_wrap, w8_def, w32_def, BitVec.toNat_setWidth]; omega
theorem i64_mask (n : Int) (j : Nat) (hj : j < 63) : bits .and .i64 n ((2 ^ j - 1 : Nat) : Int) = n % ((2 ^ j : Nat) : Int) := by
  have hp : 2 ^ j < 2 ^ 63 := Nat.pow_lt_pow_right (by decide) hj
  have h1 : 0 < 2 ^ j := Nat.two_pow_pos j
  have hd : 2 ^ j ∣ 2 ^ 64 := Nat.pow_dvd_pow 2 (by omega)
  have e63 : (2 : Nat) ^ 63 = 9223372036854775808 := rfl
  have e64 : (2 : Nat) ^ 64 = 18446744073709551616 := rfl
  have hn : (BitVec.ofInt 64 n &&& BitVec.ofInt 64 ((2 ^ j - 1 : Nat) : Int)).toNat = (n % ((2 ^ j : Nat) : Int)).toNat := by
    rw [BitVec.toNat_and, BitVec.ofInt_natCast, BitVec.toNat_ofNat, Nat.mod_eq_of_lt (by omega), Nat.and_two_pow_sub_one_eq_mod, BitVec.toNat_ofInt]
    have h2 : (n % ((2 ^ 64 : Nat) : Int)) % ((2 ^ j : Nat) : Int) = n % ((2 ^ j : Nat) : Int) := Int.emod_emod_of_dvd n (by exact_mod_cast hd)
    have h3 : 0 ≤ n % ((2 ^ 64 : Nat) : Int) := Int.emod_nonneg _ (by omega)
    rw [← h2]
    generalize n % ((2 ^ 64 : Nat) : Int) = m at h3
    obtain ⟨k, rfl⟩ := Int.eq_ofNat_of_zero_le h3
    rfl
  show IntKind.i64.wrap ((BitVec.ofInt 64 n &&& BitVec.ofInt 64 ((2 ^ j - 1 : Nat) : Int)).toNat : Int) = _
  rw [hn]
  have h4 : 0 ≤ n % ((2 ^ j : Nat) : Int) := Int.emod_nonneg _ (by omega)
  have h5 : n % ((2 ^ j : Nat) : Int) < ((2 ^ j : Nat) : Int) := Int.emod_lt_of_pos _ (by omega)
  rw [Int.toNat_of_nonneg h4]
  exact IntWalk.i64_in _ (by omega)
attribute [irreducible] w64 w32 w8
end Go.My
end

section
/- Plain laws on worlds: what a call may have changed ('Ext'), a block known whole ('Blk'), a row of bytes that is read ('Rd'). No program in sight. -/
namespace Go.My
open Go.RowKit

/-- The blocks of S may have changed; every other block that was there, and the streams, are as they were. -/
structure Ext (S : Nat → Prop) (w w' : World) : Prop where
  os : w'.os = w.os
  tape : w'.tape = w.tape
  output : w'.output = w.output
  size : w.heap.size ≤ w'.heap.size
  block : ∀ k, k < w.heap.size → ¬ S k → w'.heap[k]? = w.heap[k]?

def No : Nat → Prop := fun _ => False

theorem Ext.refl (S : Nat → Prop) (w : World) : Ext S w w := ⟨rfl, rfl, rfl, Nat.le_refl _, fun _ _ _ => rfl⟩
theorem Ext.trans {S T U : Nat → Prop} {a b c : World} (h : Ext S a b) (k : Ext T b c) (hs : ∀ i, i < a.heap.size → S i → U i) (ht : ∀ i, i < a.heap.size → T i → U i) : Ext U a c :=
  ⟨k.os.trans h.os, k.tape.trans h.tape, k.output.trans h.output, Nat.le_trans h.size k.size, fun i hi hu =>
    (k.block i (Nat.lt_of_lt_of_le hi h.size) (fun t => hu (ht i hi t))).trans (h.block i hi (fun s => hu (hs i hi s)))⟩
theorem Ext.trans' {S : Nat → Prop} {a b c : World} (h : Ext S a b) (k : Ext S b c) : Ext S a c := h.trans k (fun _ _ s => s) (fun _ _ s => s)
theorem Ext.mono {S T : Nat → Prop} {a b : World} (h : Ext S a b) (hs : ∀ i, i < a.heap.size → S i → T i) : Ext T a b :=
  ⟨h.os, h.tape, h.output, h.size, fun i hi ht => h.block i hi (fun s => ht (hs i hi s))⟩
theorem Ext.drew {S : Nat → Prop} {a b : World} (h : Ext S a b) : Ext S a b.drew := ⟨h.os, h.tape, h.output, h.size, h.block⟩
theorem Ext.drewN {S : Nat → Prop} {a b : World} (h : Ext S a b) (n : Nat) : Ext S a (b.drewN n) := ⟨h.os, h.tape, h.output, h.size, h.block⟩
theorem Ext.alloc {S : Nat → Prop} {a b : World} (h : Ext S a b) (o : Obj) : Ext S a (b.alloc o) :=
  ⟨h.os, h.tape, h.output, by have := h.size; simp; omega, fun i hi hs => by rw [Below.heap_alloc _ _ _ (Nat.lt_of_lt_of_le hi h.size)]; exact h.block i hi hs⟩
theorem Ext.setCell {S : Nat → Prop} {a b : World} (h : Ext S a b) (p : Addr) (u : Value) (hp : p.block < a.heap.size → S p.block) : Ext S a (b.setCell p u) :=
  ⟨h.os, h.tape, h.output, by have := h.size; simp; omega, fun i hi hs => by
    rw [Below.heap_setCell _ _ _ _ (fun e => hs (by subst e; exact hp hi))]; exact h.block i hi hs⟩
theorem Ext.grown {S : Nat → Prop} {a b c : World} {row : Option Nat} (h : Ext S a b) (g : b.grownBy c row) (hr : ∀ k, row = some k → k < a.heap.size → S k) : Ext S a c :=
  ⟨g.os.trans h.os, g.tape.trans h.tape, g.output.trans h.output, Nat.le_trans h.size g.size, fun i hi hs =>
    (g.block i (Nat.lt_of_lt_of_le hi h.size) (fun e => hs (hr i e.symm hi))).trans (h.block i hi hs)⟩
theorem Ext.below {w w' : World} (h : Ext No w w') : Below w.heap.size w w' :=
  ⟨h.os, h.tape, h.output, h.size, fun k hk => h.block k hk (fun x => x)⟩
theorem Ext.of_below {S : Nat → Prop} {w w' : World} (h : Below w.heap.size w w') : Ext S w w' :=
  ⟨h.os, h.tape, h.output, h.size, fun k hk _ => h.block k hk⟩
theorem Ext.cell {S : Nat → Prop} {w w' : World} (h : Ext S w w') {p : Addr} (hp : p.block < w.heap.size) (hs : ¬ S p.block) : w'.cell? p = w.cell? p :=
  World.cell?_of_block (h.block p.block hp hs)
theorem Ext.frozen {S : Nat → Prop} {w w' : World} (h : Ext S w w') {p : Addr} (hp : p.block < w.heap.size) (hs : ¬ S p.block) : w'.frozen? p = w.frozen? p :=
  World.frozen?_of_block (h.block p.block hp hs)
theorem Ext.drewN_self (S : Nat → Prop) (w : World) (n : Nat) : Ext S w (w.drewN n) := (Ext.refl S w).drewN n

/-- Only draws lie between. -/
def Dr (w w' : World) : Prop := ∃ n, w' = w.drewN n
theorem Dr.refl (w : World) : Dr w w := ⟨0, rfl⟩
theorem Dr.mk (w : World) (n : Nat) : Dr w (w.drewN n) := ⟨n, rfl⟩
theorem Dr.trans {a b c : World} (h : Dr a b) (k : Dr b c) : Dr a c := by
  obtain ⟨n, rfl⟩ := h; obtain ⟨m, rfl⟩ := k; exact ⟨n + m, World.drewN_drewN _ _ _⟩
theorem Dr.more {a b : World} (h : Dr a b) (n : Nat) : Dr a (b.drewN n) := h.trans (Dr.mk b n)
theorem Dr.drew {a b : World} (h : Dr a b) : Dr a b.drew := h.trans ⟨1, rfl⟩
theorem Dr.heap {w w' : World} (h : Dr w w') : w'.heap = w.heap := by obtain ⟨n, rfl⟩ := h; rfl
theorem Dr.cell {w w' : World} (h : Dr w w') (a : Addr) : w'.cell? a = w.cell? a := by obtain ⟨n, rfl⟩ := h; rfl
theorem Dr.frozen {w w' : World} (h : Dr w w') (a : Addr) : w'.frozen? a = w.frozen? a := by obtain ⟨n, rfl⟩ := h; rfl
theorem Dr.ext {w w' : World} (h : Dr w w') (S : Nat → Prop) : Ext S w w' := by obtain ⟨n, rfl⟩ := h; exact Ext.drewN_self S w n
theorem quiet_of_Dr {P : Program} {f : FuncId} {args : Array Value} {w : World} {n : Nat} {v : Value}
    (h : Calls P f args (w.drewN n) fun e w' => e = .returned v ∧ Dr (w.drewN n) w') : Calls P f args (w.drewN n) fun e w'' => e = .returned v ∧ ∃ m, w'' = w.drewN m := Calls.quiet_of h
theorem quiet_of_eq {P : Program} {f : FuncId} {args : Array Value} {w : World} {n : Nat} {v : Value}
    (h : Calls P f args (w.drewN n) fun e w' => e = .returned v ∧ w.drewN n = w') : Calls P f args (w.drewN n) fun e w'' => e = .returned v ∧ ∃ m, w'' = w.drewN m :=
  h.mono fun _ _ ⟨he, hm⟩ => ⟨he, n, hm.symm⟩
theorem still_of_eq {P : Program} {f : FuncId} {args : Array Value} {w : World} {v : Value}
    (h : Calls P f args w fun e w' => e = .returned v ∧ w = w') : Calls P f args w fun e w'' => e = .returned v ∧ w'' = w :=
  h.mono fun _ _ ⟨he, hm⟩ => ⟨he, hm.symm⟩

/-- Block b is a row of the cells cs, none of them frozen. -/
def Blk (w : World) (b : Nat) (cs : Array Value) (T : TypeId) : Prop := w.heap[b]? = some (.cells cs T (0, 0))
theorem Blk.lt {w : World} {b : Nat} {cs : Array Value} {T : TypeId} (h : Blk w b cs T) : b < w.heap.size := by
  unfold Blk at h; exact (Array.getElem?_eq_some_iff.1 h).1
theorem Blk.cell {w : World} {b : Nat} {cs : Array Value} {T : TypeId} (h : Blk w b cs T) (i : Nat) : w.cell? ⟨b, i, none⟩ = cs[i]? := by
  unfold Blk at h; simp [World.cell?, h]
theorem Blk.free {w : World} {b : Nat} {cs : Array Value} {T : TypeId} (h : Blk w b cs T) (i : Nat) : w.frozen? ⟨b, i, none⟩ = false := by
  unfold Blk at h; simp [World.frozen?, h]
theorem Blk.ext {w w' : World} {b : Nat} {cs : Array Value} {T : TypeId} {S : Nat → Prop} (h : Blk w b cs T) (e : Ext S w w') (hs : ¬ S b) : Blk w' b cs T := by
  have := h.lt; unfold Blk at *; rw [e.block b this hs]; exact h
theorem Blk.new (w : World) (cs : Array Value) (T : TypeId) : Blk (w.alloc (.cells cs T)) w.heap.size cs T := by
  unfold Blk World.alloc; simp
theorem Blk.alloc {w : World} {b : Nat} {cs : Array Value} {T : TypeId} (h : Blk w b cs T) (o : Obj) : Blk (w.alloc o) b cs T := h.ext ((Ext.refl No w).alloc o) (fun x => x)
theorem Blk.drew {w : World} {b : Nat} {cs : Array Value} {T : TypeId} (h : Blk w b cs T) : Blk w.drew b cs T := h
theorem Blk.drewN {w : World} {b : Nat} {cs : Array Value} {T : TypeId} (h : Blk w b cs T) (n : Nat) : Blk (w.drewN n) b cs T := h
theorem Blk.set {w : World} {b : Nat} {cs : Array Value} {T : TypeId} (h : Blk w b cs T) (i : Nat) (v : Value) : Blk (w.setCell ⟨b, i, none⟩ v) b (cs.setIfInBounds i v) T := by
  have := h.lt; unfold Blk at *; simp only [World.setCell]; rw [Array.getElem?_modify]; simp [h]
theorem Blk.set_other {w : World} {b : Nat} {cs : Array Value} {T : TypeId} (h : Blk w b cs T) (p : Addr) (v : Value) (hp : b ≠ p.block) : Blk (w.setCell p v) b cs T := by
  unfold Blk at *; rw [Below.heap_setCell _ _ _ _ hp]; exact h

theorem Blk.ne_type {w : World} {b b' : Nat} {cs cs' : Array Value} {T T' : TypeId} (h : Blk w b cs T) (h' : Blk w b' cs' T') (ht : T ≠ T') : b ≠ b' := by
  intro e; subst e; unfold Blk at *; rw [h] at h'; simp at h'; exact ht h'.2
/-- an owned row's block bears its type -/
theorem own_ne_type {w : World} {base b : Nat} {e T : TypeId} {size n : Nat} {v : Value} {xs : List Value} {cs : Array Value} (h : w.ownsRow base e size v n xs) (hb : Blk w b cs T) (ht : e ≠ T) : v.ownBlock ≠ some b := by
  intro hk
  rcases h.2 with ⟨rfl, _⟩ | ⟨g, cap, cur, rfl, _, hg, _⟩
  · simp [Value.ownBlock] at hk
  · simp [Value.ownBlock] at hk
    subst hk
    exact Blk.ne_type (w := w) (b := g) hg hb ht rfl
theorem Blk.grown {w w' : World} {b : Nat} {cs : Array Value} {T : TypeId} {row : Option Nat} (h : Blk w b cs T) (g : w.grownBy w' row) (hr : row ≠ some b) : Blk w' b cs T := by
  have := h.lt; unfold Blk at *; rw [g.block b this (fun e => hr e.symm)]; exact h
theorem own_form {w : World} {base : Nat} {e : TypeId} {size n : Nat} {v : Value} {xs : List Value} (h : w.ownsRow base e size v n xs) : ∃ a c, v = .slice a n c := by
  rcases h.2 with ⟨rfl, rfl⟩ | ⟨g, cap, cur, rfl, _⟩
  · exact ⟨none, 0, rfl⟩
  · exact ⟨_, cap, rfl⟩
theorem own_ext {w w' : World} {base : Nat} {e : TypeId} {size n : Nat} {v : Value} {xs : List Value} {S : Nat → Prop} (h : w.ownsRow base e size v n xs) (x : Ext S w w') (hs : ∀ k, v.ownBlock = some k → ¬ S k) : w'.ownsRow base e size v n xs := by
  refine ⟨h.1, ?_⟩
  rcases h.2 with hn | ⟨g, cap, cur, rfl, hb, hg, rest⟩
  · exact .inl hn
  · refine .inr ⟨g, cap, cur, rfl, hb, ?_, rest⟩
    rw [x.block g (Array.getElem?_eq_some_iff.1 hg).1 (hs g rfl)]
    exact hg

/-- A row of values that can be read from address a on. -/
def Rd (w : World) (a : Option Addr) (f : Nat → Value) (n : Nat) : Prop := ∀ i, i < n → ∃ b off, a = some ⟨b, off, none⟩ ∧ w.cell? ⟨b, off + i, none⟩ = some (f i)
theorem Rd.ext {w w' : World} {a : Option Addr} {f : Nat → Value} {n : Nat} {S : Nat → Prop} (h : Rd w a f n) (e : Ext S w w') (hs : ∀ p, a = some p → ¬ S p.block) : Rd w' a f n := by
  intro i hi
  obtain ⟨b, off, rfl, hc⟩ := h i hi
  exact ⟨b, off, rfl, by rw [e.cell (World.block_lt_of_cell? _ _ hc) (hs ⟨b, off, none⟩ rfl)]; exact hc⟩
theorem Rd.ext0 {w w' : World} {a : Option Addr} {f : Nat → Value} {n : Nat} (h : Rd w a f n) (e : Ext No w w') : Rd w' a f n := h.ext e (fun _ _ x => x)
theorem Rd.congr {w : World} {a : Option Addr} {f g : Nat → Value} {n : Nat} (h : Rd w a f n) (e : ∀ i, i < n → f i = g i) : Rd w a g n := by
  intro i hi
  obtain ⟨b, off, rfl, hc⟩ := h i hi
  exact ⟨b, off, rfl, by rw [hc, e i hi]⟩
theorem Rd.le {w : World} {a : Option Addr} {f : Nat → Value} {n m : Nat} (h : Rd w a f n) (hm : m ≤ n) : Rd w a f m := fun i hi => h i (by omega)
theorem Rd.drop {w : World} {b off : Nat} {f : Nat → Value} {n k : Nat} (h : Rd w (some ⟨b, off, none⟩) f n) : Rd w (some ⟨b, off + k, none⟩) (fun i => f (k + i)) (n - k) := by
  intro i hi
  obtain ⟨b', off', h1, hc⟩ := h (k + i) (by omega)
  simp only [Option.some.injEq, Addr.mk.injEq] at h1
  obtain ⟨rfl, rfl, _⟩ := h1
  exact ⟨b, off + k, rfl, by rw [show off + k + i = off + (k + i) by omega]; exact hc⟩
theorem Rd.of_blk {w : World} {b : Nat} {cs : Array Value} {T : TypeId} {f : Nat → Value} {n : Nat} (h : Blk w b cs T) (hf : ∀ i, i < n → cs[i]? = some (f i)) : Rd w (some ⟨b, 0, none⟩) f n := by
  intro i hi
  exact ⟨b, 0, rfl, by rw [h.cell, Nat.zero_add]; exact hf i hi⟩

/-- a byte of a list, as the machine holds it -/
def byt (l : List UInt8) (i : Nat) : Value := .int .u8 ((l.getD i 0).toNat : Int)
theorem byt_getD (l : List UInt8) (i : Nat) : byt l i = .int .u8 ((l.getD i 0).toNat : Int) := rfl
theorem byt_drop (l : List UInt8) (k : Nat) : byt (l.drop k) = fun i => byt l (k + i) := by
  funext i; simp [byt, List.getD_eq_getElem?_getD, List.getElem?_drop]
theorem byt_take (l : List UInt8) (k i : Nat) (h : i < k) : byt (l.take k) i = byt l i := by
  simp [byt, List.getD_eq_getElem?_getD, List.getElem?_take, h]
/-- what is left of a slice behind k elements of one cell each -/
def dropS (a : Option Addr) (k len cap : Nat) : Value := .slice (if cap = k then a else a.map (·.add k)) (len - k) (cap - k)
theorem run_dropS {P : Program} {t e : TypeId} (ht : P.underlying t = some (.slice e)) (hs : ∀ w, (sizeOf e).run P w = .ok 1 w) (a : Option Addr) (kd : IntKind) (k len cap : Nat) (hk : k ≤ len) (w : World) :
    (Instr.sliceAt t (.slice a len cap) (some (.int kd k)) none none).run P w = .ok (dropS a k len cap) w := by
  have hel : P.elem t = e := by simp [Program.elem, ht]
  have ht' : P.underlying t = some (.slice (P.elem t)) := by rw [hel]; exact ht
  rw [run_sliceAt_slice w t _ _ _ _ ht', run_slice_l w t a len cap ht' kd k (by omega) (by omega), hel, hs]
  simp [Result.andThen, sliced, dropS]
/-- the first k of a slice -/
theorem run_takeS {P : Program} {t e : TypeId} (ht : P.underlying t = some (.slice e)) (hs : ∀ w, (sizeOf e).run P w = .ok 1 w) (a : Option Addr) (kd : IntKind) (k len cap : Nat) (hk : k ≤ cap) (w : World) :
    (Instr.sliceAt t (.slice a len cap) none (some (.int kd k)) none).run P w = .ok (.slice a k cap) w := by
  have hel : P.elem t = e := by simp [Program.elem, ht]
  have ht' : P.underlying t = some (.slice (P.elem t)) := by rw [hel]; exact ht
  rw [run_sliceAt_slice w t _ _ _ _ ht', run_slice_h w t a len cap ht' kd k (by omega) (by omega), hel, hs]
  simp [Result.andThen, sliced]
  cases a <;> simp [Addr.add]
attribute [irreducible] dropS

/-- append of one element of one cell onto a row of the call's own -/
theorem wpList_app1 {P : Program} {ops : Array Oper} {rest : List Oper} {o : Oper} {a : Act} {Q : Exit → Act → World → Prop} (w : World) (u : Value) (hgd : o.guard = none) (s x : Operand) (t : TypeId)
    (ho : o.op = .call { callee := .builtin .append, args := #[s, x], argTypes := #[t, t] }) (base : Nat) (e : TypeId) (z : Value) (bytes : Nat)
    (hinfo : (P.info? e).map (fun i => (i.zero, i.size, i.bytes)) = some (some z, 1, bytes)) (ht : P.underlying t = some (.slice e)) (hzs : z.cells.size = 1)
    (v : Value) (n : Nat) (xs : List Value) (hs : a.eval s = v) (hown : w.ownsRow base e 1 v n xs) (ad : Addr) (hx : a.eval x = .slice (some ad) 1 1) (had : w.cell? ad = some u) (h1 : u.oneCell' = true)
    (h63 : n + 1 ≤ 9223372036854775807) (hbytes : (n + 1) * bytes ≤ 140737488355328) (hbase : base ≤ w.heap.size)
    (h : ∀ v' w', w'.ownsRow base e 1 v' (n + 1) (xs ++ [u]) → w.grownBy w' v.ownBlock → wpList P ops Q rest (a.put o.dst v') w') : wpList P ops Q (o :: rest) a w := by
  obtain ⟨i0, hi, hz0, hz1, hz2⟩ := info_parts hinfo
  refine wpList_append_own w hgd s x t ho base e i0 z 1 bytes ht hi hz0 hz1 hz2 hzs (by decide) v n xs hs hown ad 1 1 [u] hx rfl ?_ ?_ (by unfold maxLen; omega) hbytes hbase fun v' w' h2 h3 _ => h v' w' h2 h3
  · intro j y hj
    cases j with
    | zero => simp at hj; subst hj; rw [Addr.add_zero']; exact had
    | succ j => simp at hj
  · intro y hy; simp at hy; subst hy; exact h1
/-- the same, as one step of a region that draws its order -/
theorem step_app1 {P : Program} {ops : Array Oper} {o : Oper} {a : Act} {K : Act → World → Prop} {Q : Exit → Act → World → Prop} {E : Prop} (w : World) (u : Value) (hgd : o.guard = none) (s x : Operand) (t : TypeId)
    (ho : o.op = .call { callee := .builtin .append, args := #[s, x], argTypes := #[t, t] }) (base : Nat) (e : TypeId) (z : Value) (bytes : Nat)
    (hinfo : (P.info? e).map (fun i => (i.zero, i.size, i.bytes)) = some (some z, 1, bytes)) (ht : P.underlying t = some (.slice e)) (hzs : z.cells.size = 1)
    (v : Value) (n : Nat) (xs : List Value) (hs : a.eval s = v) (hown : w.ownsRow base e 1 v n xs) (ad : Addr) (hx : a.eval x = .slice (some ad) 1 1) (had : w.cell? ad = some u) (h1 : u.oneCell' = true)
    (h63 : n + 1 ≤ 9223372036854775807) (hbytes : (n + 1) * bytes ≤ 140737488355328) (hbase : base ≤ w.heap.size)
    (h : ∀ v' w', w'.ownsRow base e 1 v' (n + 1) (xs ++ [u]) → w.grownBy w' v.ownBlock → K (a.put o.dst v') w') : if Region.wanted o (yielded ops a.tmps) = true then Oper.wp P o a w K Q else E := by
  have hw : Region.wanted o (yielded ops a.tmps) = true := by simp [Region.wanted, hgd]
  rw [if_pos hw]
  obtain ⟨i0, hi, hz0, hz1, hz2⟩ := info_parts hinfo
  refine wp_append_own w s x t ho base e i0 z 1 bytes ht hi hz0 hz1 hz2 hzs (by decide) v n xs hs hown ad 1 1 [u] hx rfl ?_ ?_ (by unfold maxLen; omega) hbytes hbase fun v' w' h2 h3 _ => h v' w' h2 h3
  · intro j y hj
    cases j with
    | zero => simp at hj; subst hj; rw [Addr.add_zero']; exact had
    | succ j => simp at hj
  · intro y hy; simp at hy; subst hy; exact h1
theorem le_alloc {w : World} {B : Nat} (h : B ≤ w.heap.size) (o : Obj) : B ≤ (w.alloc o).heap.size := by rw [World.size_alloc]; omega
theorem cell_new {w : World} (u : Value) (T : TypeId) (n : Nat) (hn : n = w.heap.size) : (w.alloc (.cells #[u] T)).cell? ⟨n, 0, none⟩ = some u := by subst hn; rw [(Blk.new w #[u] T).cell]; rfl

/-- The value is a slice of n elements of one cell each, that read as f. -/
def IsRow (w : World) (f : Nat → Value) (n : Nat) (v : Value) : Prop := ∃ a cap, v = .slice a n cap ∧ n ≤ cap ∧ cap ≤ 9223372036854775807 ∧ Rd w a f n
section
variable {w w' : World} {f : Nat → Value} {n : Nat} {v : Value}
theorem IsRow.ext {S : Nat → Prop} (h : IsRow w f n v) (e : Ext S w w') (hs : ∀ k, v.ownBlock = some k → ¬ S k) : IsRow w' f n v := by
  obtain ⟨a, cap, rfl, h1, h2, h3⟩ := h
  exact ⟨a, cap, rfl, h1, h2, h3.ext e (fun p hp => hs _ (by rw [hp]; rfl))⟩
theorem IsRow.extP {S : Nat → Prop} (h : IsRow w f n v) (e : Ext S w w') (hs : 0 < n → ∀ k, v.ownBlock = some k → ¬ S k) : IsRow w' f n v := by
  by_cases hn : 0 < n
  · exact h.ext e (hs hn)
  · obtain ⟨a, cap, rfl, h1, h2, h3⟩ := h
    exact ⟨a, cap, rfl, h1, h2, fun i hi => by omega⟩
theorem IsRow.ext0 (h : IsRow w f n v) (e : Ext No w w') : IsRow w' f n v := h.ext e (fun _ _ x => x)
theorem IsRow.nil (w : World) (f : Nat → Value) : IsRow w f 0 (.slice none 0 0) := ⟨none, 0, rfl, by omega, by omega, fun i hi => by omega⟩
theorem IsRow.take {a : Option Addr} {m cap : Nat} (h : IsRow w f n (.slice a m cap)) (k : Nat) (hk : k ≤ m) : IsRow w f k (.slice a k cap) := by
  obtain ⟨a', cap', he, h1, h2, h3⟩ := h
  simp only [Value.slice.injEq] at he
  obtain ⟨rfl, rfl, rfl⟩ := he
  exact ⟨a, cap, rfl, by omega, h2, h3.le hk⟩
theorem IsRow.drop {b off : Nat} {m cap : Nat} (h : IsRow w f n (.slice (some ⟨b, off, none⟩) m cap)) (k : Nat) (hk : k ≤ m) : IsRow w (fun i => f (k + i)) (m - k) (.slice (some ⟨b, off + k, none⟩) (m - k) (cap - k)) := by
  obtain ⟨a', cap', he, h1, h2, h3⟩ := h
  simp only [Value.slice.injEq] at he
  obtain ⟨rfl, rfl, rfl⟩ := he
  exact ⟨_, _, rfl, by omega, by omega, h3.drop⟩
theorem IsRow.dropS {a : Option Addr} {m cap : Nat} (h : IsRow w f n (.slice a m cap)) (k : Nat) (hk : k ≤ m) : IsRow w (fun i => f (k + i)) (m - k) (dropS a k m cap) := by
  obtain ⟨a', cap', he, h1, h2, h3⟩ := h
  simp only [Value.slice.injEq] at he
  obtain ⟨rfl, rfl, rfl⟩ := he
  unfold My.dropS
  refine ⟨_, _, rfl, by omega, by omega, ?_⟩
  intro i hi
  obtain ⟨b, off, rfl, hc⟩ := h3 (k + i) (by omega)
  rw [if_neg (by omega)]
  refine ⟨b, off + k, ?_, by rw [show off + k + i = off + (k + i) by omega]; exact hc⟩
  cases k <;> simp [Addr.add]
theorem IsRow.len {a : Option Addr} {m cap : Nat} (h : IsRow w f n (.slice a m cap)) : m = n ∧ m ≤ cap ∧ cap ≤ 9223372036854775807 := by
  obtain ⟨a', cap', he, h1, h2, -⟩ := h
  simp only [Value.slice.injEq] at he
  obtain ⟨rfl, rfl, rfl⟩ := he
  exact ⟨rfl, h1, h2⟩
theorem IsRow.get {a : Option Addr} {m cap : Nat} (h : IsRow w f n (.slice a m cap)) (k : Nat) (hk : k < m) :
    ∃ b off, a = some ⟨b, off, none⟩ ∧ w.cell? ⟨b, off + k, none⟩ = some (f k) := by
  obtain ⟨a', cap', he, h1, h2, h3⟩ := h
  simp only [Value.slice.injEq] at he
  obtain ⟨rfl, rfl, rfl⟩ := he
  exact h3 k hk
theorem IsRow.congr {g : Nat → Value} (h : IsRow w f n v) (e : ∀ i, i < n → f i = g i) : IsRow w g n v := by
  obtain ⟨a, cap, rfl, h1, h2, h3⟩ := h
  exact ⟨a, cap, rfl, h1, h2, h3.congr e⟩
theorem IsRow.lt {k : Nat} (h : IsRow w f n v) (hn : 0 < n) (hk : v.ownBlock = some k) : k < w.heap.size := by
  obtain ⟨a, cap, rfl, h1, h2, h3⟩ := h
  obtain ⟨b, off, rfl, hc⟩ := h3 0 hn
  simp only [Value.ownBlock, Option.some.injEq] at hk
  subst hk
  exact World.block_lt_of_cell? _ _ hc
theorem IsRow.of_own {base : Nat} {T : TypeId} {xs : List Value} (h : w.ownsRow base T 1 v n xs) : IsRow w (fun i => xs.getD i undef) n v := by
  obtain ⟨hl, h⟩ := h
  rcases h with ⟨rfl, rfl⟩ | ⟨g, cap, cur, rfl, -, hg, h1, h2, h3, h4⟩
  · exact IsRow.nil w _
  · refine ⟨_, cap, rfl, h1, by unfold maxLen at h2; exact h2, ?_⟩
    refine Rd.of_blk (T := T) (cs := cur) hg ?_
    intro i hi
    have hi2 : i < cur.size := by omega
    rw [← h4]
    simp [List.getD_eq_getElem?_getD, List.getElem?_take, hi, hi2]
end
def int64 (l : List Int) (i : Nat) : Value := .int .i64 (l.getD i 0)
theorem int64_def (l : List Int) (i : Nat) : int64 l i = .int .i64 (l.getD i 0) := rfl

/-- The value is a slice that reads as the bytes l. -/
def IsBytes (w : World) (l : List UInt8) (v : Value) : Prop := IsRow w (byt l) l.length v
theorem IsBytes.ext {w w' : World} {l : List UInt8} {v : Value} {S : Nat → Prop} (h : IsBytes w l v) (e : Ext S w w') (hs : ∀ k, v.ownBlock = some k → ¬ S k) : IsBytes w' l v := IsRow.ext h e hs
theorem IsBytes.take {w : World} {l : List UInt8} {a : Option Addr} {m cap : Nat} (h : IsBytes w l (.slice a m cap)) (k : Nat) (hk : k ≤ m) : IsBytes w (l.take k) (.slice a k cap) := by
  have hm := (IsRow.len h).1
  have hle : (l.take k).length = k := by simp; omega
  unfold IsBytes; rw [hle]
  exact (IsRow.take h k hk).congr (fun i hi => (byt_take l k i hi).symm)
theorem IsBytes.drop {w : World} {l : List UInt8} {b off : Nat} {m cap : Nat} (h : IsBytes w l (.slice (some ⟨b, off, none⟩) m cap)) (k : Nat) (hk : k ≤ m) : IsBytes w (l.drop k) (.slice (some ⟨b, off + k, none⟩) (m - k) (cap - k)) := by
  have hm := (IsRow.len h).1
  have hle : (l.drop k).length = m - k := by simp; omega
  unfold IsBytes; rw [hle, byt_drop]; exact IsRow.drop h k hk
theorem IsBytes.dropS {w : World} {l : List UInt8} {a : Option Addr} {m cap : Nat} (h : IsBytes w l (.slice a m cap)) (k : Nat) (hk : k ≤ m) : IsBytes w (l.drop k) (dropS a k m cap) := by
  have hm := (IsRow.len h).1
  have hle : (l.drop k).length = m - k := by simp; omega
  unfold IsBytes; rw [hle, byt_drop]; exact IsRow.dropS h k hk
theorem IsBytes.len {w : World} {l : List UInt8} {a : Option Addr} {m cap : Nat} (h : IsBytes w l (.slice a m cap)) : m = l.length := (IsRow.len h).1
theorem IsBytes.get {w : World} {l : List UInt8} {a : Option Addr} {m cap : Nat} (h : IsBytes w l (.slice a m cap)) (k : Nat) (hk : k < m) :
    ∃ b off, a = some ⟨b, off, none⟩ ∧ w.cell? ⟨b, off + k, none⟩ = some (.int .u8 ((l.getD k 0).toNat : Int)) := IsRow.get h k hk
theorem IsBytes.ext0 {w w' : World} {l : List UInt8} {v : Value} (h : IsBytes w l v) (e : Ext No w w') : IsBytes w' l v := h.ext e (fun _ _ x => x)
end Go.My
end

section
/- Plain laws: append of a whole row, rows of the call's own bytes, clear. No program in sight. -/
namespace Go.My
open Go.RowKit

theorem addr_add (b off j : Nat) : (⟨b, off, none⟩ : Addr).add j = ⟨b, off + j, none⟩ := by unfold Addr.add; split <;> simp_all
theorem IsRow.news {w : World} {f : Nat → Value} {m c : Nat} {ad : Addr} (h : IsRow w f m (.slice (some ad) m c)) : ∀ j u, ((List.range m).map f)[j]? = some u → w.cell? (ad.add j) = some u := by
  intro j u hj
  have hjm : j < m := by
    rcases Nat.lt_or_ge j m with h | h
    · exact h
    · rw [List.getElem?_eq_none (by simpa using h)] at hj; cases hj
  obtain ⟨b, off, ha, hc⟩ := h.get j hjm
  cases ha
  rw [addr_add, hc]
  simpa [hjm] using hj

/-- append of a whole row onto a row of the call's own -/
theorem wpList_appN {P : Program} {ops : Array Oper} {rest : List Oper} {o : Oper} {a : Act} {Q : Exit → Act → World → Prop} (w : World) (hgd : o.guard = none) (s x : Operand) (t : TypeId)
    (ho : o.op = .call { callee := .builtin .append, args := #[s, x], argTypes := #[t, t] }) (base : Nat) (e : TypeId) (z : Value) (bytes : Nat)
    (hinfo : (P.info? e).map (fun i => (i.zero, i.size, i.bytes)) = some (some z, 1, bytes)) (ht : P.underlying t = some (.slice e)) (hzs : z.cells.size = 1)
    (v : Value) (n : Nat) (xs : List Value) (hs : a.eval s = v) (hown : w.ownsRow base e 1 v n xs) (ad : Option Addr) (m c : Nat) (f : Nat → Value) (hx : a.eval x = .slice ad m c) (hrow : IsRow w f m (.slice ad m c)) (hnone : ad = none → c = 0) (h1 : ∀ i, i < m → (f i).oneCell' = true)
    (h63 : n + m ≤ 9223372036854775807) (hbytes : (n + m) * bytes ≤ 140737488355328) (hbase : base ≤ w.heap.size)
    (h : ∀ v' w', w'.ownsRow base e 1 v' (n + m) (xs ++ (List.range m).map f) → w.grownBy w' v.ownBlock → wpList P ops Q rest (a.put o.dst v') w') : wpList P ops Q (o :: rest) a w := by
  obtain ⟨i0, hi, hz0, hz1, hz2⟩ := info_parts hinfo
  cases ad with
  | none =>
    have hc := hnone rfl
    have hm : m = 0 := by have := hrow.len; omega
    subst hc; subst hm
    refine wpList_append_own_none hgd s x t ho base e i0 1 ht hi v n xs hs hown hx ?_
    refine h v w ?_ ⟨rfl, rfl, rfl, Nat.le_refl _, fun _ _ _ => rfl⟩
    simpa using hown
  | some ad =>
    refine wpList_append_own w hgd s x t ho base e i0 z 1 bytes ht hi hz0 hz1 hz2 hzs (by decide) v n xs hs hown ad m c ((List.range m).map f) hx (by simp) hrow.news ?_ (by unfold maxLen; omega) hbytes hbase fun v' w' h2 h3 _ => h v' w' h2 h3
    intro u hu
    simp only [List.mem_map, List.mem_range] at hu
    obtain ⟨i, hi, rfl⟩ := hu
    exact h1 i hi

/-- the bytes as values -/
def byts (l : List UInt8) : List Value := l.map fun c => .int .u8 (c.toNat : Int)
theorem byts_range (l : List UInt8) : (List.range l.length).map (byt l) = byts l := by
  apply List.ext_getElem
  · simp [byts]
  · intro i h1 h2
    have hi : i < l.length := by simpa using h1
    simp [byts, byt, hi]
theorem byts_getD (l : List UInt8) (i : Nat) (h : i < l.length) : (byts l).getD i undef = byt l i := by
  simp [byts, byt, h]
theorem byts_length (l : List UInt8) : (byts l).length = l.length := by simp [byts]
theorem byts_append (l k : List UInt8) : byts (l ++ k) = byts l ++ byts k := by simp [byts]
theorem byts_nil : byts [] = [] := rfl
theorem byt_one (l : List UInt8) (i : Nat) : (byt l i).oneCell' = true := rfl

/-- a row of bytes of the call's own (blocks from base on), that reads l -/
def OwnB (w : World) (u8 : TypeId) (base : Nat) (l : List UInt8) (v : Value) : Prop := w.ownsRow base u8 1 v l.length (byts l)
theorem OwnB.bytes {w : World} {u8 : TypeId} {base : Nat} {l : List UInt8} {v : Value} (h : OwnB w u8 base l v) : IsBytes w l v :=
  (IsRow.of_own h).congr fun i hi => byts_getD l i hi
theorem OwnB.ext {w w' : World} {u8 : TypeId} {base : Nat} {l : List UInt8} {v : Value} {S : Nat → Prop} (h : OwnB w u8 base l v) (x : Ext S w w') (hs : ∀ k, v.ownBlock = some k → ¬ S k) : OwnB w' u8 base l v := own_ext h x hs
theorem OwnB.lt {w : World} {u8 : TypeId} {base : Nat} {l : List UInt8} {v : Value} (h : OwnB w u8 base l v) : ∀ k, v.ownBlock = some k → base ≤ k ∧ k < w.heap.size := World.ownsRow.lt h
theorem own_le {w : World} {base base' size n : Nat} {e : TypeId} {v : Value} {xs : List Value} (h : w.ownsRow base e size v n xs) (hb : base' ≤ base) : w.ownsRow base' e size v n xs := by
  refine ⟨h.1, ?_⟩
  rcases h.2 with hn | ⟨g, cap, cur, rfl, h1, rest⟩
  · exact .inl hn
  · exact .inr ⟨g, cap, cur, rfl, by omega, rest⟩
theorem own_ne_own {w : World} {base base' size size' n n' : Nat} {e e' : TypeId} {v v' : Value} {xs xs' : List Value} (h : w.ownsRow base e size v n xs) (h' : w.ownsRow base' e' size' v' n' xs') (ht : e ≠ e') : v.ownBlock = none ∨ v.ownBlock ≠ v'.ownBlock := by
  rcases h.2 with ⟨rfl, _⟩ | ⟨g, cap, cur, rfl, -, hg, -⟩
  · exact .inl rfl
  · refine .inr fun hk => ?_
    rcases h'.2 with ⟨rfl, _⟩ | ⟨g', cap', cur', rfl, -, hg', -⟩
    · cases hk
    · have : g = g' := Option.some.inj hk
      subst this
      rw [hg] at hg'; simp at hg'; exact ht hg'.2

/-- a row of rows of bytes, all of the call's own -/
def OwnBs (w : World) (u8 sb : TypeId) (base : Nat) (ls : List (List UInt8)) (v : Value) : Prop :=
  ∃ xs, w.ownsRow base sb 1 v ls.length xs ∧ ∀ i, i < ls.length → OwnB w u8 base (ls.getD i []) (xs.getD i undef)
section
variable {w w' : World} {u8 sb : TypeId} {base : Nat} {ls : List (List UInt8)} {v : Value}
theorem OwnBs.nil (w : World) (u8 sb : TypeId) (base : Nat) : OwnBs w u8 sb base [] (.slice none 0 0) := ⟨[], World.ownsRow_nil w base sb 1, fun i hi => by simp at hi⟩
theorem OwnBs.ext {S : Nat → Prop} (h : OwnBs w u8 sb base ls v) (x : Ext S w w') (hs : ∀ k, base ≤ k → ¬ S k) : OwnBs w' u8 sb base ls v := by
  obtain ⟨xs, h1, h2⟩ := h
  exact ⟨xs, own_ext h1 x (fun k hk => hs k (World.ownsRow.lt h1 k hk).1), fun i hi => (h2 i hi).ext x (fun k hk => hs k ((h2 i hi).lt k hk).1)⟩
theorem OwnBs.le {base' : Nat} (h : OwnBs w u8 sb base ls v) (hb : base' ≤ base) : OwnBs w u8 sb base' ls v := by
  obtain ⟨xs, h1, h2⟩ := h
  exact ⟨xs, own_le h1 hb, fun i hi => own_le (h2 i hi) hb⟩
theorem OwnBs.app {xs : List Value} {v' x : Value} {c : List UInt8} (ht : u8 ≠ sb) (h1 : w.ownsRow base sb 1 v ls.length xs) (h2 : ∀ i, i < ls.length → OwnB w u8 base (ls.getD i []) (xs.getD i undef))
    (hx : OwnB w u8 base c x) (h3 : w'.ownsRow base sb 1 v' (ls.length + 1) (xs ++ [x])) (g : w.grownBy w' v.ownBlock) : OwnBs w' u8 sb base (ls ++ [c]) v' := by
  have hl : xs.length = ls.length := by have := h1.1; omega
  have kept : ∀ {l : List UInt8} {y : Value}, OwnB w u8 base l y → OwnB w' u8 base l y := fun h => World.ownsRow.kept h g (own_ne_own h h1 ht)
  refine ⟨xs ++ [x], by rw [List.length_append]; exact h3, fun i hi => ?_⟩
  rw [List.length_append, List.length_singleton] at hi
  by_cases hi' : i < ls.length
  · have e1 : (ls ++ [c]).getD i [] = ls.getD i [] := by simp [List.getD_eq_getElem?_getD, List.getElem?_append_left hi']
    have e2 : (xs ++ [x]).getD i undef = xs.getD i undef := by simp [List.getD_eq_getElem?_getD, List.getElem?_append_left (show i < xs.length by omega)]
    rw [e1, e2]; exact kept (h2 i hi')
  · have : i = ls.length := by omega
    subst this
    have e1 : (ls ++ [c]).getD ls.length [] = c := by simp [List.getD_eq_getElem?_getD]
    have e2 : (xs ++ [x]).getD ls.length undef = x := by rw [← hl]; simp [List.getD_eq_getElem?_getD]
    rw [e1, e2]; exact kept hx
/-- its elements, read -/
theorem OwnBs.row (h : OwnBs w u8 sb base ls v) : ∃ f, IsRow w f ls.length v ∧ ∀ i, i < ls.length → OwnB w u8 base (ls.getD i []) (f i) := by
  obtain ⟨xs, h1, h2⟩ := h
  exact ⟨_, IsRow.of_own h1, h2⟩
theorem OwnBs.extT {S : Nat → Prop} (h : OwnBs w u8 sb base ls v) (x : Ext S w w') (hs : ∀ k, S k → ∃ cs T, Blk w k cs T ∧ u8 ≠ T ∧ sb ≠ T) : OwnBs w' u8 sb base ls v := by
  obtain ⟨xs, h1, h2⟩ := h
  refine ⟨xs, own_ext h1 x (fun k hk hS => ?_), fun i hi => own_ext (h2 i hi) x (fun k hk hS => ?_)⟩
  · obtain ⟨cs, T, hb, -, ht⟩ := hs k hS
    exact own_ne_type h1 hb ht hk
  · obtain ⟨cs, T, hb, ht, -⟩ := hs k hS
    exact own_ne_type (h2 i hi) hb ht hk
end
/-- The value is a slice of slices that read as the rows of bytes ls. -/
def IsRows (w : World) (ls : List (List UInt8)) (v : Value) : Prop := ∃ f, IsRow w f ls.length v ∧ ∀ i, i < ls.length → IsBytes w (ls.getD i []) (f i)
section
variable {w w' : World} {ls : List (List UInt8)} {v : Value}
theorem OwnBs.rows {u8 sb : TypeId} {base : Nat} (h : OwnBs w u8 sb base ls v) : IsRows w ls v := by
  obtain ⟨f, h1, h2⟩ := h.row
  exact ⟨f, h1, fun i hi => (h2 i hi).bytes⟩
theorem IsRows.ext0 (h : IsRows w ls v) (x : Ext No w w') : IsRows w' ls v := by
  obtain ⟨f, h1, h2⟩ := h
  exact ⟨f, h1.ext0 x, fun i hi => (h2 i hi).ext0 x⟩
theorem IsRows.take {a : Option Addr} {m cap : Nat} (h : IsRows w ls (.slice a m cap)) (k : Nat) (hk : k ≤ m) : IsRows w (ls.take k) (.slice a k cap) := by
  obtain ⟨f, h1, h2⟩ := h
  have hm := h1.len.1
  have hl : (ls.take k).length = k := by rw [List.length_take]; omega
  refine ⟨f, by rw [hl]; exact IsRow.take h1 k hk, fun i hi => ?_⟩
  rw [hl] at hi
  have e : (ls.take k).getD i [] = ls.getD i [] := by simp [List.getD_eq_getElem?_getD, List.getElem?_take, hi]
  rw [e]; exact h2 i (by omega)
theorem IsRows.dropS {a : Option Addr} {m cap : Nat} (h : IsRows w ls (.slice a m cap)) (k : Nat) (hk : k ≤ m) : IsRows w (ls.drop k) (dropS a k m cap) := by
  obtain ⟨f, h1, h2⟩ := h
  have hm := h1.len.1
  have hl : (ls.drop k).length = m - k := by rw [List.length_drop]; omega
  refine ⟨fun i => f (k + i), by rw [hl]; exact IsRow.dropS h1 k hk, fun i hi => ?_⟩
  rw [hl] at hi
  have e : (ls.drop k).getD i [] = ls.getD (k + i) [] := by simp [List.getD_eq_getElem?_getD, List.getElem?_drop]
  rw [e]; exact h2 (k + i) (by omega)
theorem IsRows.len {a : Option Addr} {m cap : Nat} (h : IsRows w ls (.slice a m cap)) : m = ls.length := by
  obtain ⟨f, h1, -⟩ := h; exact h1.len.1
theorem IsRows.get {a : Option Addr} {m cap : Nat} (h : IsRows w ls (.slice a m cap)) (k : Nat) (hk : k < m) : ∃ b off x, a = some ⟨b, off, none⟩ ∧ w.cell? ⟨b, off + k, none⟩ = some x ∧ IsBytes w (ls.getD k []) x := by
  obtain ⟨f, h1, h2⟩ := h
  obtain ⟨b, off, ha, hc⟩ := h1.get k hk
  exact ⟨b, off, f k, ha, hc, h2 k (by have := h1.len.1; omega)⟩
end
/-- the address of what is left behind k elements -/
def dropA (a : Option Addr) (k cap : Nat) : Option Addr := if cap = k then a else a.map (·.add k)
theorem dropS_eq (a : Option Addr) (k len cap : Nat) : dropS a k len cap = .slice (dropA a k cap) (len - k) (cap - k) := by unfold dropS dropA; rfl
theorem dropA_own (a : Option Addr) (k cap n c n' c' : Nat) (j : Nat) (h : (Value.slice (dropA a k cap) n c).ownBlock = some j) : (Value.slice a n' c').ownBlock = some j := by
  unfold dropA at h
  split at h
  · cases a with
    | none => cases h
    | some x => exact h
  · cases a with
    | none => cases h
    | some x =>
      simp only [Option.map_some, Value.ownBlock] at h ⊢
      have hb : (x.add k).block = x.block := by unfold Addr.add; split <;> rfl
      rw [← hb]; exact h
theorem dropA_def (a : Option Addr) (k cap : Nat) : dropA a k cap = if cap = k then a else a.map (fun x => x.add k) := rfl
attribute [irreducible] dropA
def lenOf : Value → Nat
  | .slice _ n _ => n
  | _ => 0
/-- a nil slice has no capacity -/
def NilOk (v : Value) : Prop := ∀ n c, v = .slice none n c → c = 0
theorem NilOk.some (a : Addr) (n c : Nat) : NilOk (.slice (some a) n c) := fun _ _ h => by simp at h
theorem NilOk.own {w : World} {base size n : Nat} {e : TypeId} {v : Value} {xs : List Value} (h : w.ownsRow base e size v n xs) : NilOk v := by
  rcases h.2 with ⟨rfl, _⟩ | ⟨g, cap, cur, rfl, _⟩
  · intro n c h; simp at h; exact h.2.symm
  · exact NilOk.some _ _ _
theorem NilOk.none {a : Option Addr} {n c : Nat} (h : NilOk (.slice a n c)) : a = none → c = 0 := by rintro rfl; exact h _ _ rfl
/-- rows of rows, none of them an odd nil -/
def IsRowsN (w : World) (ls : List (List UInt8)) (v : Value) : Prop := ∃ f, IsRow w f ls.length v ∧ ∀ i, i < ls.length → IsBytes w (ls.getD i []) (f i) ∧ NilOk (f i)
section
variable {w w' : World} {ls : List (List UInt8)} {v : Value}
theorem OwnBs.rowsN {u8 sb : TypeId} {base : Nat} (h : OwnBs w u8 sb base ls v) : IsRowsN w ls v := by
  obtain ⟨f, h1, h2⟩ := h.row
  exact ⟨f, h1, fun i hi => ⟨(h2 i hi).bytes, NilOk.own (h2 i hi)⟩⟩
theorem IsRowsN.rows (h : IsRowsN w ls v) : IsRows w ls v := by
  obtain ⟨f, h1, h2⟩ := h
  exact ⟨f, h1, fun i hi => (h2 i hi).1⟩
theorem IsRowsN.ext0 (h : IsRowsN w ls v) (x : Ext No w w') : IsRowsN w' ls v := by
  obtain ⟨f, h1, h2⟩ := h
  exact ⟨f, h1.ext0 x, fun i hi => ⟨(h2 i hi).1.ext0 x, (h2 i hi).2⟩⟩
theorem IsRowsN.take {a : Option Addr} {m cap : Nat} (h : IsRowsN w ls (.slice a m cap)) (k : Nat) (hk : k ≤ m) : IsRowsN w (ls.take k) (.slice a k cap) := by
  obtain ⟨f, h1, h2⟩ := h
  have hm := h1.len.1
  have hl : (ls.take k).length = k := by rw [List.length_take]; omega
  refine ⟨f, by rw [hl]; exact IsRow.take h1 k hk, fun i hi => ?_⟩
  rw [hl] at hi
  have e : (ls.take k).getD i [] = ls.getD i [] := by simp [List.getD_eq_getElem?_getD, List.getElem?_take, hi]
  rw [e]; exact h2 i (by omega)
theorem IsRowsN.len {a : Option Addr} {m cap : Nat} (h : IsRowsN w ls (.slice a m cap)) : m = ls.length := by
  obtain ⟨f, h1, -⟩ := h; exact h1.len.1
theorem IsRowsN.get {a : Option Addr} {m cap : Nat} (h : IsRowsN w ls (.slice a m cap)) (k : Nat) (hk : k < m) : ∃ b off x, a = some ⟨b, off, none⟩ ∧ w.cell? ⟨b, off + k, none⟩ = some x ∧ IsBytes w (ls.getD k []) x ∧ NilOk x := by
  obtain ⟨f, h1, h2⟩ := h
  obtain ⟨b, off, ha, hc⟩ := h1.get k hk
  exact ⟨b, off, f k, ha, hc, h2 k (by have := h1.len.1; omega)⟩
end
end Go.My
end

section
/- Numbers as bytes, the lowest one first; what is written and read. No program in sight. -/
namespace Go.My

/-- the k lowest bytes of a number -/
def numB (n : Nat) : Nat → List UInt8
  | 0 => []
  | k + 1 => UInt8.ofNat (n % 256) :: numB (n / 256) k
/-- the number of bytes -/
def getN : List UInt8 → Nat
  | [] => 0
  | c :: l => c.toNat + 256 * getN l
theorem numB_length (k : Nat) : ∀ n, (numB n k).length = k := by
  induction k with
  | zero => intro n; rfl
  | succ k ih => intro n; simp [numB, ih]
theorem numB_snoc (k : Nat) : ∀ n, numB n (k + 1) = numB n k ++ [UInt8.ofNat (n / 256 ^ k % 256)] := by
  induction k with
  | zero => intro n; simp [numB]
  | succ k ih =>
    intro n
    rw [numB, ih (n / 256), numB, List.cons_append, Nat.div_div_eq_div_mul, Nat.pow_succ, Nat.mul_comm 256]
theorem getN_numB (k : Nat) : ∀ n, getN (numB n k) = n % 256 ^ k := by
  induction k with
  | zero => intro n; simp [numB, getN, Nat.mod_one]
  | succ k ih =>
    intro n
    have hh : (UInt8.ofNat (n % 256)).toNat = n % 256 := by rw [UInt8.toNat_ofNat']; omega
    rw [numB, getN, ih, hh, Nat.pow_succ, Nat.mul_comm (256 ^ k) 256, Nat.mod_mul]
theorem getN_lt : ∀ l : List UInt8, getN l < 256 ^ l.length := by
  intro l
  induction l with
  | nil => simp [getN]
  | cons c l ih =>
    rw [getN, List.length_cons, Nat.pow_succ]
    have := c.toNat_lt
    omega
theorem numB_getN : ∀ l : List UInt8, numB (getN l) l.length = l := by
  intro l
  induction l with
  | nil => rfl
  | cons c l ih =>
    have h := c.toNat_lt
    rw [getN, List.length_cons, numB, show (c.toNat + 256 * getN l) % 256 = c.toNat by omega, show (c.toNat + 256 * getN l) / 256 = getN l by omega, ih]
    congr 1
    exact UInt8.ofNat_toNat
theorem getN_append (a b : List UInt8) : getN (a ++ b) = getN a + 256 ^ a.length * getN b := by
  induction a with
  | nil => simp [getN]
  | cons c a ih =>
    rw [List.cons_append, getN, ih, getN, List.length_cons, Nat.pow_succ, Nat.mul_add, Nat.mul_comm (256 ^ a.length) 256, Nat.mul_assoc, Nat.add_assoc]

/-- bytes with how many they are -/
def bytesB (b : List UInt8) : List UInt8 := numB b.length 4 ++ b
theorem bytesB_length (b : List UInt8) : (bytesB b).length = 4 + b.length := by simp [bytesB, numB_length]

/-- reading: what is read, and what is left -/
def rawP (n : Nat) (l : List UInt8) : Option (List UInt8 × List UInt8) := if n ≤ l.length then some (l.take n, l.drop n) else none
def numP (k : Nat) (l : List UInt8) : Option (Nat × List UInt8) := if k ≤ l.length then some (getN (l.take k), l.drop k) else none
def bytesP (most : Nat) (l : List UInt8) : Option (List UInt8 × List UInt8) :=
  match numP 4 l with
  | none => none
  | some (n, r) => if n ≤ most ∧ n ≤ r.length then some (r.take n, r.drop n) else none
theorem rawP_append (a b : List UInt8) : rawP a.length (a ++ b) = some (a, b) := by simp [rawP]
theorem numP_append (n k : Nat) (b : List UInt8) : numP k (numB n k ++ b) = some (n % 256 ^ k, b) := by
  have h := numB_length k n
  unfold numP
  rw [if_pos (by rw [List.length_append]; omega)]
  congr 2
  · rw [List.take_append_of_le_length (by omega), List.take_of_length_le (by omega), getN_numB]
  · rw [List.drop_append_of_le_length (by omega), List.drop_of_length_le (by omega), List.nil_append]
theorem bytesP_append (a b : List UInt8) (most : Nat) (h : a.length ≤ most) (h2 : a.length < 4294967296) : bytesP most (bytesB a ++ b) = some (a, b) := by
  unfold bytesP bytesB
  rw [List.append_assoc, numP_append]
  have : a.length % 256 ^ 4 = a.length := Nat.mod_eq_of_lt h2
  simp only [this]
  rw [if_pos ⟨h, by simp⟩]
  simp
theorem bytesP_some {most : Nat} {l x r : List UInt8} (h : bytesP most l = some (x, r)) : l = bytesB x ++ r ∧ x.length ≤ most ∧ x.length < 4294967296 := by
  unfold bytesP numP at h
  by_cases h4 : 4 ≤ l.length
  · rw [if_pos h4] at h
    simp only at h
    split at h
    · rename_i hc
      obtain ⟨h1, h2⟩ := hc
      simp only [Option.some.injEq, Prod.mk.injEq] at h
      obtain ⟨rfl, rfl⟩ := h
      have hl : ((l.drop 4).take (getN (l.take 4))).length = getN (l.take 4) := by rw [List.length_take]; omega
      have hlt := getN_lt (l.take 4)
      rw [show (l.take 4).length = 4 by rw [List.length_take]; omega] at hlt
      refine ⟨?_, by rw [hl]; exact h1, by rw [hl]; exact hlt⟩
      unfold bytesB
      rw [hl]
      have hb := numB_getN (l.take 4)
      rw [show (l.take 4).length = 4 by rw [List.length_take]; omega] at hb
      rw [hb, List.append_assoc, List.take_append_drop, List.take_append_drop]
    · cases h
  · rw [if_neg h4] at h; cases h
end Go.My
end

section
/- append onto a row of the call's own, with where the row stands behind it; a writer's box. No program in sight. -/
namespace Go.My
open Go.RowKit

/-- append of one element of one cell: the row stands where it stood, or in a new block -/
theorem wpList_app1_at {P : Program} {ops : Array Oper} {rest : List Oper} {o : Oper} {a : Act} {Q : Exit → Act → World → Prop} (w : World) (u : Value) (hgd : o.guard = none) (s x : Operand) (t : TypeId)
    (ho : o.op = .call { callee := .builtin .append, args := #[s, x], argTypes := #[t, t] }) (base : Nat) (e : TypeId) (z : Value) (bytes : Nat)
    (hinfo : (P.info? e).map (fun i => (i.zero, i.size, i.bytes)) = some (some z, 1, bytes)) (ht : P.underlying t = some (.slice e)) (hzs : z.cells.size = 1)
    (v : Value) (n : Nat) (xs : List Value) (hs : a.eval s = v) (hown : w.ownsRow base e 1 v n xs) (ad : Addr) (hx : a.eval x = .slice (some ad) 1 1) (had : w.cell? ad = some u) (h1 : u.oneCell' = true)
    (h63 : n + 1 ≤ 9223372036854775807) (hbytes : (n + 1) * bytes ≤ 140737488355328) (hbase : base ≤ w.heap.size)
    (h : ∀ v' w', w'.ownsRow base e 1 v' (n + 1) (xs ++ [u]) → w.grownBy w' v.ownBlock → (v'.ownBlock = v.ownBlock ∨ v'.ownBlock = some w.heap.size) → wpList P ops Q rest (a.put o.dst v') w') : wpList P ops Q (o :: rest) a w := by
  obtain ⟨i0, hi, hz0, hz1, hz2⟩ := info_parts hinfo
  refine wpList_append_own_at w hgd s x t ho base e i0 z 1 bytes ht hi hz0 hz1 hz2 hzs (by decide) v n xs hs hown ad 1 1 [u] hx rfl ?_ ?_ (by unfold maxLen; omega) hbytes hbase fun v' w' h2 h3 _ h4 => h v' w' h2 h3 h4
  · intro j y hj
    cases j with
    | zero => simp at hj; subst hj; rw [Addr.add_zero']; exact had
    | succ j => simp at hj
  · intro y hy; simp at hy; subst hy; exact h1
/-- append of a whole row -/
theorem wpList_appN_at {P : Program} {ops : Array Oper} {rest : List Oper} {o : Oper} {a : Act} {Q : Exit → Act → World → Prop} (w : World) (hgd : o.guard = none) (s x : Operand) (t : TypeId)
    (ho : o.op = .call { callee := .builtin .append, args := #[s, x], argTypes := #[t, t] }) (base : Nat) (e : TypeId) (z : Value) (bytes : Nat)
    (hinfo : (P.info? e).map (fun i => (i.zero, i.size, i.bytes)) = some (some z, 1, bytes)) (ht : P.underlying t = some (.slice e)) (hzs : z.cells.size = 1)
    (v : Value) (n : Nat) (xs : List Value) (hs : a.eval s = v) (hown : w.ownsRow base e 1 v n xs) (ad : Option Addr) (m c : Nat) (f : Nat → Value) (hx : a.eval x = .slice ad m c) (hrow : IsRow w f m (.slice ad m c)) (hnone : ad = none → c = 0) (h1 : ∀ i, i < m → (f i).oneCell' = true)
    (h63 : n + m ≤ 9223372036854775807) (hbytes : (n + m) * bytes ≤ 140737488355328) (hbase : base ≤ w.heap.size)
    (h : ∀ v' w', w'.ownsRow base e 1 v' (n + m) (xs ++ (List.range m).map f) → w.grownBy w' v.ownBlock → (v'.ownBlock = v.ownBlock ∨ v'.ownBlock = some w.heap.size) → wpList P ops Q rest (a.put o.dst v') w') : wpList P ops Q (o :: rest) a w := by
  obtain ⟨i0, hi, hz0, hz1, hz2⟩ := info_parts hinfo
  cases ad with
  | none =>
    have hc := hnone rfl
    have hm : m = 0 := by have := hrow.len; omega
    subst hc; subst hm
    refine wpList_append_own_none hgd s x t ho base e i0 1 ht hi v n xs hs hown hx ?_
    refine h v w ?_ ⟨rfl, rfl, rfl, Nat.le_refl _, fun _ _ _ => rfl⟩ (.inl rfl)
    simpa using hown
  | some ad =>
    refine wpList_append_own_at w hgd s x t ho base e i0 z 1 bytes ht hi hz0 hz1 hz2 hzs (by decide) v n xs hs hown ad m c ((List.range m).map f) hx (by simp) hrow.news ?_ (by unfold maxLen; omega) hbytes hbase fun v' w' h2 h3 _ h4 => h v' w' h2 h3 h4
    intro u hu
    simp only [List.mem_map, List.mem_range] at hu
    obtain ⟨i, hi, rfl⟩ := hu
    exact h1 i hi

/-- a row stands where it stood, or in a new block -/
def Moved (w : World) (v v' : Value) : Prop := v'.ownBlock = v.ownBlock ∨ ∀ j, v'.ownBlock = some j → w.heap.size ≤ j
theorem Moved.refl (w : World) (v : Value) : Moved w v v := .inl rfl
theorem Moved.trans {w w1 : World} {v v1 v2 : Value} (h : Moved w v v1) (k : Moved w1 v1 v2) (hz : w.heap.size ≤ w1.heap.size) : Moved w v v2 := by
  rcases k with k | k
  · rcases h with h | h
    · exact .inl (k.trans h)
    · exact .inr fun j hj => h j (by rw [← k]; exact hj)
  · exact .inr fun j hj => Nat.le_trans hz (k j hj)
theorem Moved.at {w w1 : World} {v v' : Value} (hz : w.heap.size ≤ w1.heap.size) (h : v'.ownBlock = v.ownBlock ∨ v'.ownBlock = some w1.heap.size) : Moved w v v' := by
  rcases h with h | h
  · exact .inl h
  · exact .inr fun j hj => by rw [h] at hj; have := Option.some.inj hj; omega

/-- a box wb that holds a row v of the writer's own, which reads l -/
structure WrS (w : World) (tw u8 : TypeId) (wb base : Nat) (l : List UInt8) (v : Value) : Prop where
  box : Blk w wb #[v] tw
  own : OwnB w u8 base l v
/-- only the writer has changed -/
structure Wrote (wb : Nat) (w w' : World) (v v' : Value) : Prop where
  ext : Ext (fun j => j = wb ∨ v.ownBlock = some j) w w'
  moved : Moved w v v'
theorem Wrote.refl (wb : Nat) (w : World) (v : Value) : Wrote wb w w v v := ⟨Ext.refl _ w, Moved.refl w v⟩
theorem Wrote.trans {wb : Nat} {w w1 w2 : World} {v v1 v2 : Value} (h : Wrote wb w w1 v v1) (k : Wrote wb w1 w2 v1 v2) : Wrote wb w w2 v v2 := by
  refine ⟨h.ext.trans k.ext (fun _ _ s => s) (fun j hj s => ?_), h.moved.trans k.moved h.ext.size⟩
  rcases s with s | s
  · exact .inl s
  · rcases h.moved with m | m
    · exact .inr (by rw [← m]; exact s)
    · exact absurd (m j s) (by omega)
end Go.My
end

section
/- The contracts of code.Writer. -/
namespace Go.Proofs.YtefabpgfhghpgaaDoor
open Go.RowKit Go.My

theorem u8_info : (Tryd.prog.info? 5).map (fun i => (i.zero, i.size, i.bytes)) = some (some (.int .u8 0), 1, 1) := by kernel_rfl
abbrev WrT (w : World) (wb base : Nat) (l : List UInt8) (v : Value) : Prop := WrS w 54 5 wb base l v

set_option maxRecDepth 100000 in
set_option maxHeartbeats 400000 in
theorem held_any (k : Nat) (h1 : 1 ≤ k) (h8 : k ≤ 8) (w : World) :
    Calls Tryd.prog 39 #[.int .i64 k] w fun e w' => e = .returned (.int .i64 k) ∧ w = w' := by
  have h1i : (1 : Int) ≤ k := by omega
  have h8i : (k : Int) ≤ 8 := by omega
  go_enter Tryd.func39, Tryd.ntmps39
  go_wp2_with fail
  all_goals
    go_ret
    exact ⟨by first | rfl | (simp; omega), rfl⟩

theorem numB_byte (q : Nat) : (((UInt8.ofNat (q % 256)).toNat : Nat) : Int) = (q : Int) % 256 := by
  rw [UInt8.toNat_ofNat']; omega

set_option maxRecDepth 100000 in
set_option maxHeartbeats 2000000 in
theorem num_any (m k : Nat) (hm : m ≤ 18446744073709551615) (h1 : 1 ≤ k) (h8 : k ≤ 8) (wb base : Nat) (l : List UInt8) (v : Value) (w : World) (h : WrT w wb base l v) (hl : l.length + 8 ≤ 1099511627776) (hb : base ≤ w.heap.size) :
    Calls Tryd.prog 20 #[.pointer (some ⟨wb, 0, none⟩), .int .u64 m, .int .i64 k] w fun e w' => e = .returned (.tuple #[]) ∧ ∃ v', WrT w' wb base (l ++ numB m k) v' ∧ Wrote wb w w' v v' := by
  have H := Lib.hid h; have HB := Lib.hid hb; have HL := Lib.hid hl; clear h hb hl
  go_enter Tryd.func20, Tryd.ntmps20
  go_wp2_with fail
  refine (held_any k h1 h8 w).mono ?_
  rintro e w' ⟨rfl, rfl⟩
  dsimp only
  go_wp2_with fail
  go_loopw [1, 8] (fun n i wr => ∃ (j : Nat) (vj : Value), j ≤ k ∧ i = .int .i64 j ∧ n = .int .u64 ((m / 256 ^ j : Nat) : Int) ∧ WrT wr wb base (l ++ numB m j) vj ∧ Wrote wb w wr v vj) (fun _ i _ => k - (intOf i).toNat)
  case atStart => exact ⟨0, v, by omega, rfl, by simp, by simp only [numB, List.append_nil]; exact H.out, Wrote.refl wb w v⟩
  case round =>
    obtain ⟨j, vj, hj, rfl, rfl, hwr, hwt⟩ := hrel
    by_cases hlt : j < k
    · obtain ⟨av, nv, cv, hvf, hnv⟩ : ∃ a n c, vj = .slice a n c ∧ n = (l ++ numB m j).length := by obtain ⟨a, c, h⟩ := own_form hwr.own; exact ⟨a, _, c, h, rfl⟩
      subst hvf
      have hlen : nv ≤ l.length + j := by rw [hnv, List.length_append, numB_length]; omega
      have hc := hwr.box.cell 0
      have hf := hwr.box.free 0
      simp only [List.getElem?_toArray, List.getElem?_cons_zero] at hc
      have hq : m / 256 ^ j ≤ m := Nat.div_le_self _ _
      have hsn := numB_snoc j m
      generalize hqq : m / 256 ^ j = q at *
      have hby := numB_byte q
      have hown := hwr.own
      unfold OwnB at hown
      rw [← hnv] at hown
      generalize hcc : UInt8.ofNat (q % 256) = c at *
      have HBY := Lib.hid hby; clear hby
      have hob := hown.alloc (.cells #[.int .u8 ((q : Int) % 256)] 5)
      have hbb := hwr.box.alloc (.cells #[.int .u8 ((q : Int) % 256)] 5)
      have HOB := Lib.hid hob; have HBB := Lib.hid hbb; have HNE := Lib.hid (own_ne_type hob hbb (by decide))
      have HZ := Lib.hid (show base ≤ (wr.alloc (.cells #[.int .u8 ((q : Int) % 256)] 5)).heap.size by have := HB.out; have := hwt.ext.size; rw [World.size_alloc]; omega)
      have HN := Lib.hid (show nv + 1 ≤ 9223372036854775807 ∧ (nv + 1) * 1 ≤ 140737488355328 by have := HL.out; omega)
      have HW := Lib.hid hwt; have HSN := Lib.hid hsn; have HNV := Lib.hid hnv; have HQQ := Lib.hid hqq
      clear hwr hwt hlen hsn hqq hown hob hbb hnv hcc
      go_wp2_with (at_builtin; refine wpList_app1_at _ _ rfl _ _ 23 rfl base 5 _ _ u8_info Tryd.underlying23 rfl _ _ _ rfl HOB.out _ rfl (cell_new _ _ _ rfl) rfl HN.out.1 HN.out.2 HZ.out ?_; intro v' w2 hown2 hg hat; obtain ⟨a6, c6, rfl⟩ := own_form hown2; have hb2 := HBB.out.grown hg HNE.out; have hc2 := hb2.cell 0; have hf2 := hb2.free 0; simp only [List.getElem?_toArray, List.getElem?_cons_zero] at hc2)
      have hres : WrT (w2.setCell ⟨wb, 0, none⟩ (.slice a6 (nv + 1) c6)) wb base (l ++ numB m (j + 1)) (.slice a6 (nv + 1) c6) := by
        have hs : Ext (fun i => i = wb) w2 (w2.setCell ⟨wb, 0, none⟩ (.slice a6 (nv + 1) c6)) := (Ext.refl _ w2).setCell _ _ (fun _ => rfl)
        refine ⟨hb2.set 0 _, ?_⟩
        unfold OwnB
        have e : (l ++ numB m (j + 1)).length = nv + 1 := by rw [HSN.out, ← List.append_assoc, List.length_append, ← HNV.out]; rfl
        have e2 : byts (l ++ numB m (j + 1)) = byts (l ++ numB m j) ++ [.int .u8 ((q : Int) % 256)] := by rw [HSN.out, ← List.append_assoc, byts_append, ← HBY.out]; rfl
        rw [e, e2]
        exact own_ext hown2 hs (fun i hi h => own_ne_type hown2 hb2 (by decide) (by rw [hi, h]))
      have hwt : Wrote wb wr (w2.setCell ⟨wb, 0, none⟩ (.slice a6 (nv + 1) c6)) (.slice av nv cv) (.slice a6 (nv + 1) c6) :=
        ⟨((((Ext.refl _ wr).alloc _).grown hg (fun i hi _ => .inr hi)).setCell _ _ (fun _ => .inl rfl)), Moved.at (by rw [World.size_alloc]; omega) hat⟩
      have HRES := Lib.hid hres; have HWT := Lib.hid (HW.out.trans hwt)
      clear hres hwt hown2 hg hat hb2 hc2 hf2
      have hq64 : q ≤ 18446744073709551615 := by omega
      go_wp2_with fail
      go_roundw
      case rel =>
        have e : m / 256 ^ (j + 1) = q / 256 := by rw [Nat.pow_succ, ← Nat.div_div_eq_div_mul, HQQ.out]
        exact ⟨j + 1, _, by omega, by go_num, by rw [e]; rfl, HRES.out, HWT.out⟩
      case measure => simp [intOf]; omega
    · have hjk : j = k := by omega
      subst hjk
      have HWR := Lib.hid hwr; have HWT := Lib.hid hwt; clear hwr hwt
      go_wp2_with fail
      go_end0
      exact ⟨rfl, _, HWR.out, HWT.out⟩


set_option maxRecDepth 100000 in
set_option maxHeartbeats 1000000 in
theorem raw_any (x : List UInt8) (a : Option Addr) (n c : Nat) (wb base : Nat) (l : List UInt8) (v : Value) (w : World) (h : WrT w wb base l v) (hx : IsBytes w x (.slice a n c)) (hn : NilOk (.slice a n c)) (hl : l.length + x.length ≤ 1099511627776) (hb : base ≤ w.heap.size) :
    Calls Tryd.prog 41 #[.pointer (some ⟨wb, 0, none⟩), .slice a n c] w fun e w' => e = .returned (.tuple #[]) ∧ ∃ v', WrT w' wb base (l ++ x) v' ∧ Wrote wb w w' v v' := by
  have hnx := hx.len
  obtain ⟨av, nv, cv, hvf, hnv⟩ : ∃ a n c, v = .slice a n c ∧ n = l.length := by obtain ⟨a, c, h⟩ := own_form h.own; exact ⟨a, _, c, h, rfl⟩
  subst hvf
  have hc := h.box.cell 0
  have hf := h.box.free 0
  simp only [List.getElem?_toArray, List.getElem?_cons_zero] at hc
  have hown := h.own
  unfold OwnB at hown
  rw [← hnv] at hown
  have hrow : IsRow w (byt x) n (.slice a n c) := by have := hx; unfold IsBytes at this; rw [← hnx] at this; exact this
  have HO := Lib.hid hown; have HBX := Lib.hid h.box; have HROW := Lib.hid hrow; have HNN := Lib.hid hn.none; have HNE := Lib.hid (own_ne_type hown h.box (by decide))
  have H1 := Lib.hid (show ∀ i, i < n → (byt x i).oneCell' = true from fun _ _ => rfl)
  have HN := Lib.hid (show nv + n ≤ 9223372036854775807 ∧ (nv + n) * 1 ≤ 140737488355328 by omega)
  have HB := Lib.hid hb; have HNV := Lib.hid hnv; have HNX := Lib.hid hnx
  clear hown hrow h hx hn hb hnv hnx hl
  go_enter Tryd.func41, Tryd.ntmps41
  go_wp2_with (at_builtin; refine wpList_appN_at _ rfl _ _ 23 rfl base 5 _ _ u8_info Tryd.underlying23 rfl _ _ _ rfl HO.out _ _ _ (byt x) rfl HROW.out HNN.out H1.out HN.out.1 HN.out.2 HB.out ?_; intro v' w2 hown2 hg hat; obtain ⟨a6, c6, rfl⟩ := own_form hown2; have hb2 := HBX.out.grown hg HNE.out; have hc2 := hb2.cell 0; have hf2 := hb2.free 0; simp only [List.getElem?_toArray, List.getElem?_cons_zero] at hc2)
  go_end0
  have hs : Ext (fun i => i = wb) w2 (w2.setCell ⟨wb, 0, none⟩ (.slice a6 (nv + n) c6)) := (Ext.refl _ w2).setCell _ _ (fun _ => rfl)
  refine ⟨rfl, .slice a6 (nv + n) c6, ⟨hb2.set 0 _, ?_⟩, ⟨((Ext.refl _ w).grown hg (fun i hi _ => .inr hi)).setCell _ _ (fun _ => .inl rfl), Moved.at (Nat.le_refl _) hat⟩⟩
  unfold OwnB
  have e : (l ++ x).length = nv + n := by rw [List.length_append, HNV.out, HNX.out]
  have e2 : byts (l ++ x) = byts l ++ (List.range n).map (byt x) := by rw [byts_append, HNX.out, byts_range]
  rw [e, e2]
  exact own_ext hown2 hs (fun i hi h => own_ne_type hown2 hb2 (by decide) (by rw [hi, h]))

set_option maxRecDepth 100000 in
set_option maxHeartbeats 1000000 in
theorem wbytes_any (x : List UInt8) (a : Option Addr) (n c : Nat) (wb base : Nat) (l : List UInt8) (v : Value) (w : World) (h : WrT w wb base l v) (hx : IsBytes w x (.slice a n c)) (hn : NilOk (.slice a n c)) (hl : l.length + x.length + 8 ≤ 1099511627776) (hb : base ≤ w.heap.size)
    (hap : 0 < x.length → ∀ j, (Value.slice a n c).ownBlock = some j → j ≠ wb ∧ v.ownBlock ≠ some j) :
    Calls Tryd.prog 54 #[.pointer (some ⟨wb, 0, none⟩), .slice a n c] w fun e w' => e = .returned (.tuple #[]) ∧ ∃ v', WrT w' wb base (l ++ bytesB x) v' ∧ Wrote wb w w' v v' := by
  have hnx := hx.len
  have H := Lib.hid h; have HX := Lib.hid hx; have HN := Lib.hid hn; have HB := Lib.hid hb; have HL := Lib.hid hl; have HNX := Lib.hid hnx; have HAP := Lib.hid hap
  have hn2 : n ≤ 1099511627776 := by omega
  clear h hx hn hb hl hnx hap
  go_enter Tryd.func54, Tryd.ntmps54
  go_wp2_with fail
  refine (num_any n 4 (by omega) (by decide) (by decide) wb base l v w H.out (by have := HL.out; omega) HB.out).mono ?_
  rintro e w1 ⟨rfl, v1, hw1, ht1⟩
  have hx1 : IsBytes w1 x (.slice a n c) := HX.out.extP ht1.ext (fun h0 j hj s => by have := HAP.out h0 j hj; rcases s with s | s; exact this.1 s; exact this.2 s)
  have HX1 := Lib.hid hx1; have HW1 := Lib.hid hw1; have HT1 := Lib.hid ht1; clear hx1 hw1 ht1
  dsimp only
  go_wp2_with fail
  refine (raw_any x a n c wb base (l ++ numB n 4) v1 w1 HW1.out HX1.out HN.out (by have := HL.out; rw [List.length_append, numB_length]; omega) (Nat.le_trans HB.out HT1.out.ext.size)).mono ?_
  rintro e w2 ⟨rfl, v2, hw2, ht2⟩
  have HW2 := Lib.hid hw2; have HT2 := Lib.hid ht2; clear hw2 ht2
  dsimp only
  go_wp2_with fail
  go_end0
  refine ⟨rfl, v2, ?_, HT1.out.trans HT2.out⟩
  have := HW2.out
  rw [List.append_assoc, HNX.out] at this
  exact this

end Go.Proofs.YtefabpgfhghpgaaDoor
end

section
/- The contracts of Same (bytes), Same (rows), Join of the documents' answers. -/
namespace Go.Proofs.YtefabpgfhghpgaaDoor
open Go.RowKit Go.My

/-- a string of bytes -/
def strB (l : List UInt8) : ByteArray := ⟨l.toArray⟩
theorem strB_data (l : List UInt8) : (strB l).data.toList = l := rfl
theorem strB_inj (l k : List UInt8) : strB l = strB k ↔ l = k := by
  constructor
  · intro h; have := congrArg (fun s => s.data.toList) h; simpa [strB] using this
  · rintro rfl; rfl
theorem strB_list (l : List UInt8) : (strB l).toList = l := ByteArray.toList_eq _
theorem strB_eq (l k : List UInt8) : ((strB l).toList == (strB k).toList) = decide (l = k) := by
  rw [strB_list, strB_list, Bool.eq_iff_iff, beq_iff_eq, decide_eq_true_eq]
theorem conv_bytes (l : List UInt8) (a : Option Addr) (m cap : Nat) (w : World) (h : IsBytes w l (.slice a m cap)) :
    (convert 23 9 (.slice a m cap)).run Tryd.prog w = .ok (.string (strB l)) w := by
  have hm := h.len
  have hs : Tryd.prog.underlying 23 = some (.slice 5) := Tryd.underlying23
  have he : Tryd.prog.underlying 5 = some (.int .u8) := by kernel_rfl
  have hd : Tryd.prog.underlying 9 = some .string := by kernel_rfl
  have hstr : strOfNums (l.map fun c => (c.toNat : Int)) = strB l := by
    have : ((strOfNums (l.map fun c => (c.toNat : Int))).data.toList) = l := by
      rw [strOfNums_data, List.map_map]
      conv => rhs; rw [← List.map_id l]
      apply List.map_congr_left
      intro c _
      simp
    have h2 : (strOfNums (l.map fun c => (c.toNat : Int))).data = l.toArray := Array.toList_inj.1 this
    exact congrArg ByteArray.mk h2
  cases a with
  | none =>
    have h0 : l = [] := by
      cases l with
      | nil => rfl
      | cons c t =>
        obtain ⟨b, off, hb, -⟩ := h.get 0 (by rw [hm]; simp)
        cases hb
    subst h0
    exact run_convert_bytes_nil (P := Tryd.prog) w _ _ hs he m cap _ hd
  | some ad =>
    by_cases hl : l = []
    · subst hl
      simp at hm
      subst hm
      have hl0 : (loadCells ad 0).run Tryd.prog w = .ok #[] w := run_loadCells_list (P := Tryd.prog) w ad [] (by simp)
      rw [run_convert_bytes_string w _ _ _ _ 0 cap hs he hd, run_bytesToString w _ 0 cap [] (by simpa using hl0)]
      rfl
    · obtain ⟨b, off, hb, -⟩ := h.get 0 (by rw [hm]; exact List.length_pos_iff.2 hl)
      cases hb
      rw [run_convert_bytes_arg (P := Tryd.prog) w _ _ hs he b off m cap (l.map fun c => (c.toNat : Int)) (by simp [hm]) ?_ _ hd, hstr]
      intro i hi
      obtain ⟨b', off', hb', hc⟩ := h.get i hi
      cases hb'
      rw [hc]
      have : i < l.length := by omega
      simp [List.getD_eq_getElem?_getD, this]

set_option maxRecDepth 100000 in
set_option maxHeartbeats 400000 in
theorem same1_any (l k : List UInt8) (v u : Value) (w : World) (h : IsBytes w l v) (h' : IsBytes w k u) :
    Calls Tryd.prog 13 #[v, u] w fun e w' => e = .returned (.bool (decide (l = k))) ∧ w = w' := by
  have hv := h; have hu := h'
  obtain ⟨a, c, rfl, -⟩ := h
  obtain ⟨b, d, rfl, -⟩ := h'
  have h1 := conv_bytes l a _ c w hv
  have h2 := conv_bytes k b _ d w hu
  have h3 := strB_eq l k
  generalize l.length = m at *
  generalize k.length = n at *
  clear hv hu
  generalize decide (l = k) = r at *
  go_enter Tryd.func13, Tryd.ntmps13
  go_wp2_with fail
  go_ret
  exact ⟨rfl, rfl⟩

end Go.Proofs.YtefabpgfhghpgaaDoor
end

section
/- The contracts of code.Writer's Text and Done, of script.Join. -/
namespace Go.Proofs.YtefabpgfhghpgaaDoor
open Go.RowKit Go.My

/-- a string, as bytes: a new row -/
theorem conv_str (l : List UInt8) (hl : l.length ≤ 9223372036854775807) (w : World) : ∃ gc w1, (convert 9 23 (.string (strB l))).run Tryd.prog w = .ok (.slice (some ⟨w.heap.size, 0, none⟩) l.length gc) w1 ∧
    IsBytes w1 l (.slice (some ⟨w.heap.size, 0, none⟩) l.length gc) ∧ Ext No w w1 ∧ w.heap.size < w1.heap.size := by
  have hs : (strB l).size = l.length := by simp [strB, ByteArray.size]
  refine ⟨grownCap w l.length 0 5, Lib.bytesWorld w 5 (strB l), ?_, ?_, ?_, ?_⟩
  · have := Lib.run_convert_string_bytes (P := Tryd.prog) w 9 23 5 (strB l) (show Tryd.prog.underlying 9 = some .string by kernel_rfl) Tryd.underlying23 (by kernel_rfl)
    rw [hs] at this
    exact this
  · refine ⟨_, _, rfl, grownCap_ge w _ _ _, by have := grownCap_le_maxLen w l.length 0 5 (by unfold maxLen; exact hl); unfold maxLen at this; exact this, fun i hi => ⟨_, 0, rfl, ?_⟩⟩
    rw [Nat.zero_add, Lib.bytesWorld_cell w 5 (strB l) i (by rw [hs]; exact hi), strB_data]
    rfl
  · exact ⟨rfl, rfl, rfl, by rw [Lib.bytesWorld_size]; omega, fun k hk _ => Lib.bytesWorld_at_old w 5 (strB l) k hk⟩
  · rw [Lib.bytesWorld_size]; omega

set_option maxRecDepth 100000 in
set_option maxHeartbeats 1000000 in
theorem wtext_any (x : List UInt8) (wb base : Nat) (l : List UInt8) (v : Value) (w : World) (h : WrT w wb base l v) (hl : l.length + x.length + 8 ≤ 1099511627776) (hb : base ≤ w.heap.size) :
    Calls Tryd.prog 40 #[.pointer (some ⟨wb, 0, none⟩), .string (strB x)] w fun e w' => e = .returned (.tuple #[]) ∧ ∃ v', WrT w' wb base (l ++ bytesB x) v' ∧ Wrote wb w w' v v' := by
  obtain ⟨gc, w1, hcv, hx1, he1, hz1⟩ := conv_str x (by omega) w
  have hlt := h.box.lt
  have hw1 : WrT w1 wb base l v := ⟨h.box.ext he1 (fun s => s), h.own.ext he1 (fun _ _ s => s)⟩
  have hvl := h.own.lt
  have HW1 := Lib.hid hw1; have HX1 := Lib.hid hx1; have HE1 := Lib.hid he1; have HL := Lib.hid hl; have HB := Lib.hid (Nat.le_trans hb he1.size)
  have HAP := Lib.hid (show ∀ n c, 0 < x.length → ∀ j, (Value.slice (some ⟨w.heap.size, 0, none⟩) n c).ownBlock = some j → j ≠ wb ∧ v.ownBlock ≠ some j from fun n c _ j hj => by
    have e : w.heap.size = j := Option.some.inj hj
    refine ⟨by omega, fun s => ?_⟩
    have := (hvl j s).2; omega)
  obtain ⟨n, hn⟩ : ∃ n, n = x.length := ⟨_, rfl⟩
  rw [← hn] at hcv HX1
  clear hw1 hx1 he1 hl hb hvl hlt hz1 h hn
  go_enter Tryd.func40, Tryd.ntmps40
  go_wp2_with fail
  clear hcv
  refine (wbytes_any x _ n gc wb base l v w1 HW1.out HX1.out (NilOk.some _ _ _) HL.out HB.out (HAP.out n gc)).mono ?_
  rintro e w2 ⟨rfl, v2, hw2, ht2⟩
  have HW2 := Lib.hid hw2; have HT2 := Lib.hid ht2; clear hw2 ht2
  dsimp only
  go_wp2_with fail
  go_end0
  exact ⟨rfl, v2, HW2.out, ⟨HE1.out.trans HT2.out.ext (fun _ _ s => s.elim) (fun _ _ s => s), by
    rcases HT2.out.moved with m | m
    · exact .inl m
    · exact .inr fun j hj => Nat.le_trans HE1.out.size (m j hj)⟩⟩

theorem eq_nil_bytes (w : World) (a : Option Addr) (n c : Nat) : (binOp .eql 23 (.slice a n c) (.slice none 0 0)).run Tryd.prog w = .ok (.bool a.isNone) w := Go.Lib.run_eql_slice_nil w _ _ a n c 0 0 Tryd.underlying23
attribute [local go_sem] eq_nil_bytes

set_option maxRecDepth 100000 in
set_option maxHeartbeats 2000000 in
theorem sclone_any (l : List UInt8) (a : Option Addr) (m cap : Nat) (w : World) (hv : IsBytes w l (.slice a m cap)) (hb : l.length ≤ 1099511627776) :
    Calls Tryd.prog 43 #[.slice a m cap] w fun e w' => ∃ v', e = .returned v' ∧ OwnB w' 5 w.heap.size l v' ∧ Ext No w w' := by
  have hm := hv.len
  cases a with
  | none =>
    have h0 : l = [] := by
      cases l with
      | nil => rfl
      | cons c t =>
        obtain ⟨b, off, hb', -⟩ := hv.get 0 (by rw [hm]; simp)
        cases hb'
    subst h0
    clear hv hm hb
    go_enter Tryd.func43, Tryd.ntmps43
    go_wp2_with fail
    go_ret
    exact ⟨_, rfl, ⟨rfl, .inl ⟨rfl, rfl⟩⟩, Ext.refl _ _⟩
  | some a =>
    have hx0 : Ext No w (w.alloc (.cells #[] 5)) := (Ext.refl No w).alloc _
    have hv1 : IsRow (w.alloc (.cells #[] 5)) (byt l) m (.slice (some a) m cap) := by have h := hv.ext0 hx0; unfold IsBytes at h; rw [← hm] at h; exact h
    have H63 := Lib.hid (show 0 + m ≤ 9223372036854775807 by omega)
    have HBY := Lib.hid (show (0 + m) * 1 ≤ 140737488355328 by omega)
    have HX := Lib.hid hx0; have HV1 := Lib.hid hv1; have HM := Lib.hid hm; clear hx0 hv1 hv hm hb
    go_enter Tryd.func43, Tryd.ntmps43
    go_wp2_with (at_builtin; refine wpList_appN _ rfl _ _ 23 rfl w.heap.size 5 _ _ u8_info Tryd.underlying23 rfl _ _ _ rfl (World.ownsRow_made w #[] 0 (Nat.le_refl _) (by decide) rfl) _ _ _ (byt l) rfl HV1.out (by simp) (fun _ _ => rfl) H63.out HBY.out (by simp) ?_; intro v' w1 hown hg)
    go_ret
    refine ⟨v', rfl, ?_, HX.out.grown hg (fun k hk hk' => ?_)⟩
    · unfold OwnB
      rw [Nat.zero_add, List.nil_append, HM.out, byts_range] at hown
      exact hown
    · exact absurd hk' (by have : w.heap.size = k := Option.some.inj hk; omega)

set_option maxRecDepth 100000 in
set_option maxHeartbeats 1000000 in
theorem done_any (wb base : Nat) (l : List UInt8) (v : Value) (w : World) (h : WrT w wb base l v) (hl : l.length ≤ 1099511627776) :
    Calls Tryd.prog 23 #[.pointer (some ⟨wb, 0, none⟩)] w fun e w' => ∃ x, e = .returned x ∧ OwnB w' 5 w.heap.size l x ∧ Ext No w w' := by
  obtain ⟨av, nv, cv, hvf⟩ : ∃ a n c, v = .slice a n c := by obtain ⟨a, c, h⟩ := own_form h.own; exact ⟨a, _, c, h⟩
  subst hvf
  have hc := h.box.cell 0
  simp only [List.getElem?_toArray, List.getElem?_cons_zero] at hc
  have H := Lib.hid h.own.bytes; clear h
  go_enter Tryd.func23, Tryd.ntmps23
  go_wp2_with fail
  refine (sclone_any l av nv cv w H.out hl).mono ?_
  rintro e w1 ⟨x, rfl, ho, hx⟩
  have HO := Lib.hid ho; have HX := Lib.hid hx; clear ho hx
  dsimp only
  go_wp2_with fail
  go_ret
  exact ⟨x, rfl, HO.out, HX.out⟩

end Go.Proofs.YtefabpgfhghpgaaDoor
end

section
/- Contracts of guard.Must and guard.Run, for whatever function is run. -/
namespace Go.Proofs.YtefabpgfhghpgaaDoor
open Go.RowKit Go.My

/-- an error's value as it is thrown -/
def errv (n : Int) : Value := .iface 27 (.int .i64 n)
def thrown (n : Int) : List PanicEntry := [{ v := errv n, recovered := false }]

theorem mkf (fn : Fn) (first cap : Array Value) (w : World) : (Instr.makeFunc fn first cap).run Tryd.prog w = .ok (.func fn first cap) w := rfl

set_option maxRecDepth 100000 in
set_option maxHeartbeats 400000 in
theorem must_ok (w : World) : Calls Tryd.prog 34 #[.int .i64 0] w fun e w' => e = .returned (.tuple #[]) ∧ w = w' := by
  go_enter Tryd.func34, Tryd.ntmps34
  go_wp2
  go_end0
  exact ⟨rfl, rfl⟩
set_option maxRecDepth 100000 in
set_option maxHeartbeats 400000 in
theorem must_no (n : Int) (hn : n ≠ 0) (w : World) : Calls Tryd.prog 34 #[.int .i64 n] w fun e w' => e = .panicked (thrown n) ∧ w = w' := by
  have h : (n != 0) = true := by simpa using hn
  go_enter Tryd.func34, Tryd.ntmps34
  go_wp2
  exact ⟨rfl, rfl, rfl⟩

set_option maxRecDepth 100000 in
set_option maxHeartbeats 400000 in
theorem run1_idle (p : Addr) (w : World) :
    CallsD Tryd.prog 49 #[.pointer (some p)] .returning w fun e u' w' => e = .returned (.tuple #[]) ∧ u' = .returning ∧ w' = w := by
  refine callsD_of_wpS Tryd.func49 rfl fun c₀ cs hu => ?_
  apply wpS_seq
  apply wpS_region
  simp [wpOpsS, go_sem, recoverD, hu, Tryd.ntmps49, Exit.thenS]
  refine wpS_of_wp ?_
  go_wp2_with fail
  exact ⟨rfl, .returning, by cases c₀; simp_all, .tuple #[], by simp [results, Tryd.results49], rfl, rfl, rfl⟩

theorem ta_yes (v : Value) (w : World) : (Instr.typeAssert (.iface 27 v) 20 27 true).run Tryd.prog w = .ok (.tuple #[v, .bool true]) w := by kernel_rfl

set_option maxRecDepth 100000 in
set_option maxHeartbeats 400000 in
theorem run1_error (p : Addr) (n : Int) (older : List PanicEntry) (x : Value) (w : World) (hc : w.cell? p = some x) (hz : w.frozen? p = false) :
    CallsD Tryd.prog 49 #[.pointer (some p)] (.panicking ({ v := errv n, recovered := false } :: older)) w fun e u' w' =>
      e = .returned (.tuple #[]) ∧ u' = .panicking ({ v := errv n, recovered := true } :: older) ∧ w' = w.setCell p (.int .i64 n) := by
  refine callsD_of_wpS Tryd.func49 rfl fun c₀ cs hu => ?_
  apply wpS_seq
  apply wpS_region
  unfold errv at hu
  simp [wpOpsS, go_sem, recoverD, hu, Tryd.ntmps49, Exit.thenS]
  refine wpS_of_wp ?_
  have hta := ta_yes
  go_wp2_with fail
  exact ⟨rfl, .panicking ({ v := errv n, recovered := true } :: older), by cases c₀; simp_all [errv], .tuple #[], by simp [results, Tryd.results49], rfl, rfl, rfl⟩

/-- what a function that is run comes to: it returns (n is 0), or throws the error n; the runner's own cell is untouched; Q tells the rest -/
def RunBody (h : Nat) (Q : Int → World → Prop) (e : Ending) (w1 : World) : Prop :=
  ∃ n : Int, ((e = .returned (.tuple #[]) ∧ n = 0) ∨ (e = .panicked (thrown n) ∧ n ≠ 0)) ∧ Blk w1 h #[.int .i64 0] 27 ∧ Q n w1
def RunPost (h : Nat) (Q : Int → World → Prop) (e : Ending) (w' : World) : Prop :=
  ∃ (n : Int) (w1 : World), e = .returned (.int .i64 n) ∧ Blk w1 h #[.int .i64 0] 27 ∧ Q n w1 ∧ w' = w1.setCell ⟨h, 0, none⟩ (.int .i64 n)

set_option maxRecDepth 100000 in
set_option maxHeartbeats 400000 in
theorem run_some (K : FuncId) (cap : Array Value) (w : World) (Q : Int → World → Prop) (hK : ∀ w, (callFunc K cap).run Tryd.prog w = .ok (.enter K cap) w)
    (hb : Calls Tryd.prog K cap (w.alloc (.cells #[.int .i64 0] 27)) (RunBody w.heap.size Q)) :
    Calls Tryd.prog 30 #[.func (.func K) #[] cap] w (RunPost w.heap.size Q) := by
  have hmf := mkf
  have hnf : ∀ w : World, (binOp BinOp.eql 1 (Value.func (Fn.func K) #[] cap) Value.nilFunc).run Tryd.prog w = .ok (.bool false) w := fun w => by kernel_rfl
  have HB := Lib.hid hb; clear hb
  go_enter_defers Tryd.func30, Tryd.ntmps30
  go_wp2_with fail
  refine HB.out.mono ?_
  rintro e w1 ⟨n, he, hblk, hq⟩
  have hc : w1.cell? ⟨w.heap.size, 0, none⟩ = some (.int .i64 0) := by rw [hblk.cell]; rfl
  have hz := hblk.free 0
  have HBK := Lib.hid hblk; have HQ := Lib.hid hq; clear hblk hq
  generalize w.heap.size = h at *
  rcases he with ⟨rfl, rfl⟩ | ⟨rfl, -⟩
  · go_wp2_with fail
    refine leaves_cons (f := 49) (args := #[.pointer (some ⟨h, 0, none⟩)]) (by simp) (by simp [go_sem]) ?_
    refine (run1_idle _ _).mono ?_
    rintro e u' w'' ⟨rfl, rfl, rfl⟩
    refine ⟨.int .i64 0, ?_, 0, w1, rfl, HBK.out, HQ.out, rfl⟩
    simp [results, Tryd.results30, go_sem, hc]
  · go_wp2_with fail
    refine leaves_cons (f := 49) (args := #[.pointer (some ⟨h, 0, none⟩)]) (by simp) (by simp [go_sem]) ?_
    refine (run1_error _ n [] _ _ hc hz).mono ?_
    rintro e u' w'' ⟨rfl, rfl, rfl⟩
    refine ⟨.int .i64 n, ?_, n, w1, rfl, HBK.out, HQ.out, rfl⟩
    simp [results, Tryd.results30, go_sem, hc]

/-- the same, told by what may have changed -/
def Ran (S : Nat → Prop) (w : World) (Q : Int → World → Prop) (e : Ending) (w' : World) : Prop := ∃ n : Int, e = .returned (.int .i64 n) ∧ Ext S w w' ∧ Q n w'
def Body (S : Nat → Prop) (w : World) (Q : Int → World → Prop) (e : Ending) (w1 : World) : Prop :=
  ∃ n : Int, ((e = .returned (.tuple #[]) ∧ n = 0) ∨ (e = .panicked (thrown n) ∧ n ≠ 0)) ∧ Ext S w w1 ∧ Q n w1
theorem run_ext (S : Nat → Prop) (K : FuncId) (cap : Array Value) (w : World) (Q : Int → World → Prop) (hK : ∀ w, (callFunc K cap).run Tryd.prog w = .ok (.enter K cap) w)
    (hS : ¬ S w.heap.size) (hQ : ∀ n w1, Q n w1 → Q n (w1.setCell ⟨w.heap.size, 0, none⟩ (.int .i64 n)))
    (hb : Calls Tryd.prog K cap (w.alloc (.cells #[.int .i64 0] 27)) (Body S (w.alloc (.cells #[.int .i64 0] 27)) Q)) :
    Calls Tryd.prog 30 #[.func (.func K) #[] cap] w (Ran S w Q) := by
  refine (run_some K cap w (fun n w1 => Ext S (w.alloc (.cells #[.int .i64 0] 27)) w1 ∧ Q n w1) hK (hb.mono ?_)).mono ?_
  · rintro e w1 ⟨n, he, hx, hq⟩
    exact ⟨n, he, (Blk.new w _ _).ext hx hS, hx, hq⟩
  · rintro e w' ⟨n, w1, rfl, hb, ⟨hx, hq⟩, rfl⟩
    refine ⟨n, rfl, ?_, hQ n w1 hq⟩
    exact (((Ext.refl S w).alloc (.cells #[.int .i64 0] 27)).trans' hx).setCell _ _ (fun h => absurd h (Nat.lt_irrefl _))

set_option maxRecDepth 100000 in
set_option maxHeartbeats 400000 in
theorem run_nil (w : World) :
    Calls Tryd.prog 30 #[.nilFunc] w fun e w' => e = .returned (.int .i64 0) ∧ Ext No w w' := by
  have hnf : ∀ w : World, (binOp BinOp.eql 1 Value.nilFunc Value.nilFunc).run Tryd.prog w = .ok (.bool true) w := fun w => by kernel_rfl
  go_enter_defers Tryd.func30, Tryd.ntmps30
  go_wp2_with fail
  refine ⟨.int .i64 0, ?_, rfl, ((Ext.refl No w).alloc _)⟩
  simp [results, Tryd.results30, go_sem]

end Go.Proofs.YtefabpgfhghpgaaDoor
end

section
/- The contracts of code.Reader. -/
namespace Go.Proofs.YtefabpgfhghpgaaDoor
open Go.RowKit Go.My

/-- a reader at block rb whose rest v reads l -/
structure RdS (w : World) (rb : Nat) (l : List UInt8) (v : Value) : Prop where
  box : Blk w rb #[v] 82
  row : IsBytes w l v
  apart : ∀ j, v.ownBlock = some j → 0 < l.length → j ≠ rb
/-- within the same row -/
def Inn (v x : Value) : Prop := ∀ j, x.ownBlock = some j → v.ownBlock = some j
theorem Inn.refl (v : Value) : Inn v v := fun _ h => h
theorem Inn.trans {u v x : Value} (h : Inn u v) (k : Inn v x) : Inn u x := fun j hj => h j (k j hj)

theorem IsBytes.capk {w : World} {l : List UInt8} {a : Option Addr} {n c : Nat} (h : IsBytes w l (.slice a n c)) : IsBytes w l (.slice a n n) := by
  obtain ⟨a', c', he, h1, h2, h3⟩ := h
  simp only [Value.slice.injEq] at he
  obtain ⟨rfl, rfl, rfl⟩ := he
  exact ⟨_, _, rfl, Nat.le_refl _, by omega, h3⟩
/-- behind a Raw -/
theorem rd_drop {w : World} {rb : Nat} {l : List UInt8} {a : Option Addr} {n c : Nat} (h : RdS w rb l (.slice a n c)) (k : Nat) (hk : k ≤ n) (v' : Value) (hv : v' = .slice (dropA a k c) (n - k) (c - k)) :
    IsBytes (w.setCell ⟨rb, 0, none⟩ v') (l.take k) (.slice a k k) ∧ RdS (w.setCell ⟨rb, 0, none⟩ v') rb (l.drop k) v' ∧ Ext (fun j => j = rb) w (w.setCell ⟨rb, 0, none⟩ v') ∧ Inn (.slice a n c) (.slice a k k) ∧ Inn (.slice a n c) v' := by
  have hx : Ext (fun j => j = rb) w (w.setCell ⟨rb, 0, none⟩ v') := (Ext.refl _ w).setCell _ _ (fun _ => rfl)
  have hn := h.row.len
  have i1 : Inn (.slice a n c) (.slice a k k) := fun j hj => by cases a with | none => cases hj | some x => exact hj
  have i2 : Inn (.slice a n c) v' := fun j hj => by rw [hv] at hj; exact dropA_own a k c _ _ n c j hj
  have hd := h.row.dropS k hk
  rw [dropS_eq, ← hv] at hd
  have hl : 0 < (l.drop k).length → 0 < l.length := fun h0 => by rw [List.length_drop] at h0; omega
  refine ⟨(IsBytes.capk (h.row.take k hk)).extP hx (fun h0 j hj s => h.apart j (i1 j hj) (by rw [List.length_take] at h0; omega) s), ⟨h.box.set 0 v', hd.extP hx (fun h0 j hj s => h.apart j (i2 j hj) (hl h0) s), fun j hj h0 => h.apart j (i2 j hj) (hl h0)⟩, hx, i1, i2⟩

theorem size8 (w : World) : (sizeOf 5).run Tryd.prog w = .ok 1 w := by kernel_rfl

set_option maxRecDepth 100000 in
set_option maxHeartbeats 1000000 in
theorem rraw_no (k : Nat) (rb : Nat) (l : List UInt8) (v : Value) (w : World) (h : RdS w rb l v) (hk : l.length < k) :
    Calls Tryd.prog 46 #[.pointer (some ⟨rb, 0, none⟩), .int .i64 k] w fun e w' => e = .panicked (thrown 20) ∧ w = w' := by
  obtain ⟨a, n, c, hvf, hn⟩ : ∃ a n c, v = .slice a n c ∧ n = l.length := by obtain ⟨a, c, h, -⟩ := h.row; exact ⟨a, _, c, h, rfl⟩
  subst hvf
  have hc := h.box.cell 0
  simp only [List.getElem?_toArray, List.getElem?_cons_zero] at hc
  rw [← hn] at hk
  clear h hn
  have hk0 : (0 : Int) ≤ k := by omega
  have hd : decide ((n : Int) < k) = true := by simp; omega
  go_enter Tryd.func46, Tryd.ntmps46
  go_wp2_with fail
  refine (must_no 20 (by decide) w).mono ?_
  rintro e w' ⟨rfl, rfl⟩
  dsimp only
  go_wp2_with fail
  exact ⟨rfl, rfl, rfl⟩

set_option maxRecDepth 100000 in
set_option maxHeartbeats 1000000 in
theorem rraw_ok (k : Nat) (rb : Nat) (l : List UInt8) (v : Value) (w : World) (h : RdS w rb l v) (hk : k ≤ l.length) :
    Calls Tryd.prog 46 #[.pointer (some ⟨rb, 0, none⟩), .int .i64 k] w fun e w' => ∃ ax, e = .returned (.slice ax k k) ∧ IsBytes w' (l.take k) (.slice ax k k) ∧ ∃ v', RdS w' rb (l.drop k) v' ∧ Ext (fun j => j = rb) w w' ∧ Inn v (.slice ax k k) ∧ Inn v v' := by
  obtain ⟨a, n, c, hvf, hn⟩ : ∃ a n c, v = .slice a n c ∧ n = l.length := by obtain ⟨a, c, h, -⟩ := h.row; exact ⟨a, _, c, h, rfl⟩
  subst hvf
  have hc := h.box.cell 0
  have hf := h.box.free 0
  simp only [List.getElem?_toArray, List.getElem?_cons_zero] at hc
  rw [← hn] at hk
  have hcc := (IsRow.len h.row).2
  have hk0 : (0 : Int) ≤ k := by omega
  have hd : decide ((n : Int) < k) = false := by simp; omega
  have hd2 : decide (n < k) = false := by simp; omega
  have hkc : k ≤ c := by omega
  have hk63 : k ≤ 9223372036854775807 := by omega
  have HN := Lib.hid hn; have H := Lib.hid h
  clear hn h
  go_enter Tryd.func46, Tryd.ntmps46
  by_cases hck : c = k
  · subst hck
    go_wp2_with fail
    go_ret
    obtain ⟨r1, r2, r3, r4, r5⟩ := rd_drop H.out c hk (.slice a 0 0) (by rw [dropA_def, if_pos rfl, Nat.sub_self, show n - c = 0 by omega])
    exact ⟨a, rfl, r1, _, r2, r3, r4, r5⟩
  · go_wp2_with fail
    go_ret
    obtain ⟨r1, r2, r3, r4, r5⟩ := rd_drop H.out k hk (.slice (a.map (fun x => x.add k)) (n - k) (c - k)) (by rw [dropA_def, if_neg hck])
    exact ⟨a, rfl, r1, _, r2, r3, r4, r5⟩


theorem or_step (j : Nat) (q c : Nat) (hj : j < 8) (hq : q < 256 ^ j) (hc : c < 256) : q ||| c * 2 ^ (8 * j) = q + c * 256 ^ j := by
  have h1 : (256 : Nat) ^ j = 2 ^ (8 * j) := by rw [show (256 : Nat) = 2 ^ 8 from rfl, ← Nat.pow_mul]
  rw [h1] at hq ⊢
  rw [Nat.or_comm, ← Nat.shiftLeft_eq, ← Nat.shiftLeft_add_eq_or_of_lt hq, Nat.add_comm]
theorem or_int (j q c : Nat) (hj : j < 8) (hq : q < 256 ^ j) (hc : c < 256) : bits .or .u64 (q : Int) (IntKind.u64.wrap ((c : Int) * 2 ^ (8 * j))) = ((q + c * 256 ^ j : Nat) : Int) := by
  have h1 : (256 : Nat) ^ j = 2 ^ (8 * j) := by rw [show (256 : Nat) = 2 ^ 8 from rfl, ← Nat.pow_mul]
  have h2 : (256 : Nat) ^ j ≤ 256 ^ 7 := Nat.pow_le_pow_right (by decide) (by omega)
  have h3 : c * 2 ^ (8 * j) < 18446744073709551616 := by
    rw [← h1]
    have : c * 256 ^ j ≤ 255 * 256 ^ 7 := Nat.mul_le_mul (by omega) h2
    have e : (255 : Nat) * 256 ^ 7 < 18446744073709551616 := by decide
    omega
  have h4 : q < 18446744073709551616 := by
    have e : (256 : Nat) ^ 7 < 18446744073709551616 := by decide
    omega
  have h5 : ((c : Int) * 2 ^ (8 * j)) = ((c * 2 ^ (8 * j) : Nat) : Int) := by simp
  have h6 : IntKind.u64.wrap ((c * 2 ^ (8 * j) : Nat) : Int) = ((c * 2 ^ (8 * j) : Nat) : Int) := by
    rw [w64_wrap]; omega
  rw [h5, h6, u64_or_nat _ _ h4 h3, or_step j q c hj hq hc]
theorem getN_snoc (l : List UInt8) (j : Nat) (h : j < l.length) : getN (l.take (j + 1)) = getN (l.take j) + (l.getD j 0).toNat * 256 ^ j := by
  rw [List.take_add_one, getN_append, List.length_take, Nat.min_eq_left (by omega), List.getElem?_eq_getElem h]
  simp [getN, List.getD_eq_getElem?_getD, List.getElem?_eq_getElem h, Nat.mul_comm]

set_option maxRecDepth 100000 in
set_option maxHeartbeats 2000000 in
theorem rnum_ok (k : Nat) (h1 : 1 ≤ k) (h8 : k ≤ 8) (rb : Nat) (l : List UInt8) (v : Value) (w : World) (h : RdS w rb l v) (hk : k ≤ l.length) :
    Calls Tryd.prog 27 #[.pointer (some ⟨rb, 0, none⟩), .int .i64 k] w fun e w' => e = .returned (.int .u64 (getN (l.take k) : Nat)) ∧ ∃ v', RdS w' rb (l.drop k) v' ∧ Ext (fun j => j = rb) w w' ∧ Inn v v' := by
  have H := Lib.hid h; clear h
  have HK := Lib.hid hk; clear hk
  go_enter Tryd.func27, Tryd.ntmps27
  go_wp2_with fail
  refine (held_any k h1 h8 w).mono ?_
  rintro e w' ⟨rfl, rfl⟩
  dsimp only
  go_wp2_with fail
  refine (rraw_ok k rb l v w H.out HK.out).mono ?_
  rintro e w1 ⟨ax, rfl, hx1, v1, hr1, he1, -, hi1⟩
  have HX := Lib.hid hx1; have HR := Lib.hid hr1; have HE := Lib.hid he1; have HI := Lib.hid hi1; clear hx1 hr1 he1 hi1
  dsimp only
  go_wp2_with fail
  go_loopw [5, 13] (fun n i wr => ∃ j : Nat, j ≤ k ∧ i = .int .i64 j ∧ n = .int .u64 ((getN (l.take j) : Nat) : Int) ∧ wr = w1) (fun _ i _ => k - (intOf i).toNat)
  case atStart => exact ⟨0, by omega, rfl, by simp [getN], rfl⟩
  case round =>
    obtain ⟨j, hj, rfl, rfl, rfl⟩ := hrel
    by_cases hlt : j < k
    · obtain ⟨b, o, rfl, hc⟩ := HX.out.get j hlt
      have hg : (l.take k).getD j 0 = l.getD j 0 := by simp [List.getD_eq_getElem?_getD, List.getElem?_take, hlt]
      rw [hg] at hc
      have hsn := getN_snoc l j (by have := HK.out; omega)
      have hlt2 := getN_lt (l.take j)
      rw [List.length_take, Nat.min_eq_left (by have := HK.out; omega)] at hlt2
      generalize getN (l.take j) = q at *
      have hcl := (l.getD j 0).toNat_lt
      generalize (l.getD j 0).toNat = c at *
      have HOR := Lib.hid (or_int j q c (by omega) hlt2 hcl); have HSN := Lib.hid hsn
      clear hsn hlt2 hg
      go_wp2_with fail
      go_roundw
      case rel => exact ⟨j + 1, by omega, by go_num, by rw [HOR.out, HSN.out], trivial⟩
      case measure => simp [intOf]; omega
    · have hjk : j = k := by omega
      subst hjk
      go_wp2_with fail
      go_ret
      exact ⟨rfl, _, HR.out, HE.out, HI.out⟩


set_option maxRecDepth 100000 in
set_option maxHeartbeats 1000000 in
theorem rnum_no (k : Nat) (h1 : 1 ≤ k) (h8 : k ≤ 8) (rb : Nat) (l : List UInt8) (v : Value) (w : World) (h : RdS w rb l v) (hk : l.length < k) :
    Calls Tryd.prog 27 #[.pointer (some ⟨rb, 0, none⟩), .int .i64 k] w fun e w' => e = .panicked (thrown 20) ∧ w = w' := by
  have H := Lib.hid h; clear h
  have HK := Lib.hid hk; clear hk
  go_enter Tryd.func27, Tryd.ntmps27
  go_wp2_with fail
  refine (held_any k h1 h8 w).mono ?_
  rintro e w' ⟨rfl, rfl⟩
  dsimp only
  go_wp2_with fail
  refine (rraw_no k rb l v w H.out HK.out).mono ?_
  rintro e w' ⟨rfl, rfl⟩
  dsimp only
  go_wp2_with fail
  exact ⟨rfl, rfl, rfl⟩

set_option maxRecDepth 100000 in
set_option maxHeartbeats 1000000 in
theorem rbytes_no (most : Nat) (hm : most ≤ 9223372036854775807) (rb : Nat) (l : List UInt8) (v : Value) (w : World) (h : RdS w rb l v) (hl : l.length ≤ 9223372036854775807) (hk : bytesP most l = none) :
    Calls Tryd.prog 55 #[.pointer (some ⟨rb, 0, none⟩), .int .i64 most] w fun e w' => ∃ n : Int, e = .panicked (thrown n) ∧ n ≠ 0 ∧ Ext (fun j => j = rb) w w' := by
  obtain ⟨a, n, c, hvf⟩ : ∃ a n c, v = .slice a n c := by obtain ⟨a, c, h, -⟩ := h.row; exact ⟨a, _, c, h⟩
  subst hvf
  have hc := h.box.cell 0
  simp only [List.getElem?_toArray, List.getElem?_cons_zero] at hc
  have hm0 : (0 : Int) ≤ most := by omega
  unfold bytesP numP at hk
  have H := Lib.hid h
  by_cases h4 : 4 ≤ l.length
  · rw [if_pos h4] at hk
    simp only at hk
    have hk2 : ¬ (getN (l.take 4) ≤ most ∧ getN (l.take 4) ≤ (l.drop 4).length) := fun hh => by rw [if_pos hh] at hk; cases hk
    clear hk h
    have hlt := getN_lt (l.take 4)
    rw [List.length_take, Nat.min_eq_left h4] at hlt
    have hld : (l.drop 4).length ≤ 9223372036854775807 := by rw [List.length_drop]; omega
    have H4 := Lib.hid h4; clear h4 hl
    go_enter Tryd.func55, Tryd.ntmps55
    go_wp2_with fail
    refine (rnum_ok 4 (by decide) (by decide) rb l _ w H.out H4.out).mono ?_
    rintro e w1 ⟨rfl, v1, hr1, he1, hi1⟩
    generalize getN (l.take 4) = q at *
    obtain ⟨a1, n1, c1, hvf, hn1⟩ : ∃ a n c, v1 = .slice a n c ∧ n = (l.drop 4).length := by obtain ⟨a, c, h, -⟩ := hr1.row; exact ⟨a, _, c, h, rfl⟩
    subst hvf
    rw [← hn1] at hk2 hld
    have hc1 := hr1.box.cell 0
    have hf1 := hr1.box.free 0
    simp only [List.getElem?_toArray, List.getElem?_cons_zero] at hc1
    have HE := Lib.hid he1; clear hr1 he1 hi1 hn1 hc
    have hq : q ≤ 4294967295 := by have e : (256 : Nat) ^ 4 = 4294967296 := by decide
                                   omega
    clear hlt
    by_cases hq1 : q ≤ most
    · have hq2 : n1 < q := by omega
      have hd1 : decide ((most : Int) < q) = false := by simp; omega
      have hd1n : decide (most < q) = false := by simp; omega
      have hd2 : decide ((n1 : Int) < q) = true := by simp; omega
      dsimp only
      go_wp2_with fail
      refine (must_no 20 (by decide) _).mono ?_
      rintro e w' ⟨rfl, rfl⟩
      dsimp only
      go_wp2_with fail
      exact ⟨rfl, 20, rfl, by decide, HE.out.setCell _ _ (fun _ => rfl)⟩
    · have hd1 : decide ((most : Int) < q) = true := by simp; omega
      have hd1n : most < q := by omega
      dsimp only
      go_wp2_with fail
      refine (must_no 2 (by decide) _).mono ?_
      rintro e w' ⟨rfl, rfl⟩
      dsimp only
      go_wp2_with fail
      exact ⟨rfl, 2, rfl, by decide, HE.out.setCell _ _ (fun _ => rfl)⟩
  · clear hk h hl
    have H4 := Lib.hid (show l.length < 4 by omega); clear h4
    go_enter Tryd.func55, Tryd.ntmps55
    go_wp2_with fail
    refine (rnum_no 4 (by decide) (by decide) rb l _ w H.out H4.out).mono ?_
    rintro e w1 ⟨rfl, rfl⟩
    dsimp only
    go_wp2_with fail
    exact ⟨rfl, 20, rfl, by decide, Ext.refl _ _⟩

set_option maxRecDepth 100000 in
set_option maxHeartbeats 1000000 in
theorem rbytes_ok (most : Nat) (hm : most ≤ 9223372036854775807) (rb : Nat) (l x r : List UInt8) (v : Value) (w : World) (h : RdS w rb l v) (hk : bytesP most l = some (x, r)) :
    Calls Tryd.prog 55 #[.pointer (some ⟨rb, 0, none⟩), .int .i64 most] w fun e w' => ∃ ax n, e = .returned (.slice ax n n) ∧ n = x.length ∧ IsBytes w' x (.slice ax n n) ∧ ∃ v', RdS w' rb r v' ∧ Ext (fun j => j = rb) w w' ∧ Inn v (.slice ax n n) ∧ Inn v v' := by
  obtain ⟨a, n, c, hvf⟩ : ∃ a n c, v = .slice a n c := by obtain ⟨a, c, h, -⟩ := h.row; exact ⟨a, _, c, h⟩
  subst hvf
  have hc := h.box.cell 0
  simp only [List.getElem?_toArray, List.getElem?_cons_zero] at hc
  have hm0 : (0 : Int) ≤ most := by omega
  obtain ⟨h4, hq1, hq2, hx, hr⟩ : 4 ≤ l.length ∧ getN (l.take 4) ≤ most ∧ getN (l.take 4) ≤ (l.drop 4).length ∧ x = (l.drop 4).take (getN (l.take 4)) ∧ r = (l.drop 4).drop (getN (l.take 4)) := by
    unfold bytesP numP at hk
    by_cases h4 : 4 ≤ l.length
    · rw [if_pos h4] at hk
      simp only at hk
      split at hk
      · rename_i hc
        simp only [Option.some.injEq, Prod.mk.injEq] at hk
        exact ⟨h4, hc.1, hc.2, hk.1.symm, hk.2.symm⟩
      · cases hk
    · rw [if_neg h4] at hk; cases hk
  have hlt := getN_lt (l.take 4)
  rw [List.length_take, Nat.min_eq_left h4] at hlt
  have H := Lib.hid h; have H4 := Lib.hid h4
  clear hk h h4
  go_enter Tryd.func55, Tryd.ntmps55
  go_wp2_with fail
  refine (rnum_ok 4 (by decide) (by decide) rb l _ w H.out H4.out).mono ?_
  rintro e w1 ⟨rfl, v1, hr1, he1, hi1⟩
  generalize getN (l.take 4) = q at *
  have hxl : q = x.length := by rw [hx, List.length_take]; omega
  obtain ⟨a1, n1, c1, hvf, hn1⟩ : ∃ a n c, v1 = .slice a n c ∧ n = (l.drop 4).length := by obtain ⟨a, c, h, -⟩ := hr1.row; exact ⟨a, _, c, h, rfl⟩
  subst hvf
  have HQ2 := Lib.hid hq2
  rw [← hn1] at hq2
  have hn63 : n1 ≤ 9223372036854775807 := by have := (IsRow.len hr1.row).2; omega
  have hc1 := hr1.box.cell 0
  simp only [List.getElem?_toArray, List.getElem?_cons_zero] at hc1
  have HE := Lib.hid he1; have HR := Lib.hid hr1; have HI := Lib.hid hi1; have HXL := Lib.hid hxl; have HXE := Lib.hid (And.intro hx hr); clear hr1 he1 hi1 hn1 hc hxl hx hr
  have hq : q ≤ 4294967295 := by have e : (256 : Nat) ^ 4 = 4294967296 := by decide
                                 omega
  have hd1 : decide ((most : Int) < q) = false := by simp; omega
  have hd1n : decide (most < q) = false := by simp; omega
  have hd2 : decide ((n1 : Int) < q) = false := by simp; omega
  have hd2n : decide (n1 < q) = false := by simp; omega
  clear hlt
  dsimp only
  go_wp2_with fail
  refine (rraw_ok q rb (l.drop 4) _ w1 HR.out HQ2.out).mono ?_
  rintro e w2 ⟨ax, rfl, hx2, v2, hr2, he2, hi2, hi3⟩
  rw [← HXE.out.1] at hx2
  rw [← HXE.out.2] at hr2
  have HX2 := Lib.hid hx2; have HR2 := Lib.hid hr2; have HE2 := Lib.hid (HE.out.trans' he2); have HI2 := Lib.hid (HI.out.trans hi2); have HI3 := Lib.hid (HI.out.trans hi3)
  clear hx2 hr2 he2 hi2 hi3
  dsimp only
  go_wp2_with fail
  go_ret
  exact ⟨ax, q, rfl, HXL.out, HX2.out, v2, HR2.out, HE2.out, HI2.out, HI3.out⟩

set_option maxRecDepth 100000 in
set_option maxHeartbeats 400000 in
theorem left_any (rb : Nat) (l : List UInt8) (v : Value) (w : World) (h : RdS w rb l v) :
    Calls Tryd.prog 45 #[.pointer (some ⟨rb, 0, none⟩)] w fun e w' => e = .returned (.int .i64 l.length) ∧ w = w' := by
  obtain ⟨a, n, c, hvf, hn⟩ : ∃ a n c, v = .slice a n c ∧ n = l.length := by obtain ⟨a, c, h, -⟩ := h.row; exact ⟨a, _, c, h, rfl⟩
  subst hvf
  have hc := h.box.cell 0
  simp only [List.getElem?_toArray, List.getElem?_cons_zero] at hc
  rw [← hn]
  clear h hn
  go_enter Tryd.func45, Tryd.ntmps45
  go_wp2_with fail
  go_ret
  exact ⟨rfl, rfl⟩

end Go.Proofs.YtefabpgfhghpgaaDoor
end

section
/- A range over a function whose iterator turns cells and hands out new rows: own contract and own law, over 'wpIn_rangeFunc'. No program in sight. -/
namespace Go.My
open Go.RowKit

theorem Ext.putObj {S : Nat → Prop} {a b : World} (h : Ext S a b) (l : Nat) (o : Obj) (hl : l < a.heap.size → S l) : Ext S a (b.putObj l o) :=
  h.grown (grownBy_putObj' b l o) (fun k e hk => by cases e; exact hl hk)

theorem Rd.putObj {W : World} {l : Nat} {r : Loop} (hl : W.heap[l]? = some (.loop r)) (o : Obj) {a : Option Addr} {f : Nat → Value} {n : Nat} (h : Rd W a f n) : Rd (W.putObj l o) a f n := by
  intro i hi
  obtain ⟨b, off, rfl, hc⟩ := h i hi
  refine ⟨b, off, rfl, ?_⟩
  rw [World.cell?_of_block (World.putObj_heap_other (o := o) (fun e => ?_))]
  · exact hc
  · simp only at e; subst e; simp [World.cell?, hl] at hc
theorem IsRow.putObj {W : World} {l : Nat} {r : Loop} (hl : W.heap[l]? = some (.loop r)) (o : Obj) {f : Nat → Value} {n : Nat} {v : Value} (h : IsRow W f n v) : IsRow (W.putObj l o) f n v := by
  obtain ⟨a, cap, rfl, h1, h2, h3⟩ := h
  exact ⟨a, cap, rfl, h1, h2, h3.putObj hl o⟩

theorem own_putObj {w : World} {base size n : Nat} {e : TypeId} {v : Value} {xs : List Value} (h : w.ownsRow base e size v n xs) {l : Nat} {r : Loop} (hl : w.heap[l]? = some (.loop r)) (o : Obj) : (w.putObj l o).ownsRow base e size v n xs := by
  refine ⟨h.1, ?_⟩
  rcases h.2 with hn | ⟨g, cap, cur, rfl, h1, h2, rest⟩
  · exact .inl hn
  · refine .inr ⟨g, cap, cur, rfl, h1, ?_, rest⟩
    rw [World.putObj_heap_other (o := o)]
    · exact h2
    · intro e; subst e; rw [hl] at h2; cases h2

/-- no row of cells -/
def NC (w : World) (j : Nat) : Prop := ∀ cs T f, w.heap[j]? ≠ some (.cells cs T f)
theorem NC.loop {w : World} {l : Nat} {r : Loop} (h : w.heap[l]? = some (.loop r)) : NC w l := fun cs T f e => by rw [h] at e; cases e
theorem NC.defs {w : World} {l : Nat} {d : Option (List Deferred)} (h : w.heap[l]? = some (.deferred d)) : NC w l := fun cs T f e => by rw [h] at e; cases e
section
variable {A B : World} {S : Nat → Prop} {D : Nat}
theorem Blk.extN {b : Nat} {cs : Array Value} {T : TypeId} (h : Blk A b cs T) (x : Ext (fun j => S j ∨ (j = D ∧ NC A j)) A B) (hs : ¬ S b) : Blk B b cs T :=
  h.ext x (fun h' => h'.elim hs (fun n => n.2 _ _ _ h))
theorem own_extN {base : Nat} {e : TypeId} {size n : Nat} {v : Value} {xs : List Value} (h : A.ownsRow base e size v n xs) (x : Ext (fun j => S j ∨ (j = D ∧ NC A j)) A B) (hs : ∀ k, v.ownBlock = some k → ¬ S k) : B.ownsRow base e size v n xs := by
  refine ⟨h.1, ?_⟩
  rcases h.2 with hn | ⟨g, cap, cur, rfl, hb, hg, rest⟩
  · exact .inl hn
  · refine .inr ⟨g, cap, cur, rfl, hb, ?_, rest⟩
    rw [x.block g (Array.getElem?_eq_some_iff.1 hg).1 (fun h' => h'.elim (hs g rfl) (fun n => n.2 _ _ _ hg))]
    exact hg
theorem OwnBs.extN {u8 sb : TypeId} {base : Nat} {ls : List (List UInt8)} {v : Value} (h : OwnBs A u8 sb base ls v) (x : Ext (fun j => S j ∨ (j = D ∧ NC A j)) A B) (hs : ∀ k, base ≤ k → ¬ S k) : OwnBs B u8 sb base ls v := by
  obtain ⟨xs, h1, h2⟩ := h
  exact ⟨xs, own_extN h1 x (fun k hk => hs k (World.ownsRow.lt h1 k hk).1), fun i hi => own_extN (h2 i hi) x (fun k hk => hs k (World.ownsRow.lt (h2 i hi) k hk).1)⟩
theorem IsRow.extN {f : Nat → Value} {n : Nat} {v : Value} (h : IsRow A f n v) (x : Ext (fun j => S j ∨ (j = D ∧ NC A j)) A B) (hs : ∀ k, v.ownBlock = some k → 0 < n → ¬ S k) : IsRow B f n v := by
  obtain ⟨a, cap, rfl, h1, h2, h3⟩ := h
  refine ⟨a, cap, rfl, h1, h2, fun i hi => ?_⟩
  obtain ⟨b, off, rfl, hc⟩ := h3 i hi
  refine ⟨b, off, rfl, ?_⟩
  rw [x.cell (World.block_lt_of_cell? _ _ hc) (fun h' => h'.elim (hs b rfl (by omega)) (fun n => ?_))]
  · exact hc
  · cases hb : A.heap[b]? with
    | none => simp [World.cell?, hb] at hc
    | some o =>
      cases o with
      | cells cs T f => exact n.2 _ _ _ hb
      | _ => simp [World.cell?, hb] at hc
theorem Ext.putObjN (W : World) (l : Nat) (o : Obj) (h : NC W l) : Ext (fun j => S j ∨ (j = l ∧ NC W j)) W (W.putObj l o) := (Ext.refl _ W).putObj _ _ (fun _ => .inr ⟨rfl, h⟩)
end

/-- WHAT AN ITERATOR OWES: N elements; of the k-th handed to yield 'A k' is known; it turns the blocks of S; a round that goes on turns those of T. -/
def SeqC (P : Program) (g : Nat) (lb : Array Value) (N : Nat) (A : Nat → Array Value → World → Prop) (S T : Nat → Prop) (Fin : World → Prop) (w : World) : Prop :=
  ∀ (l : Nat) (J Jx : Nat → World → Prop) (W : World), Ext No w W → w.heap.size + 2 ≤ W.heap.size →
    (∀ k A B, J k A → Ext S A B → J k B) → (∀ k A B, Jx k A → Ext S A B → Jx k B) →
    (∀ k args W1, k < N → J k W1 → A k args W1 → YieldAt Fence.wide 0 P l args W1 fun e W' => (e = .returned (.bool true) ∧ J (k + 1) W' ∧ Ext T W1 W') ∨ (e = .returned (.bool false) ∧ Jx (k + 1) W' ∧ Ext T W1 W')) →
    J 0 W →
    Calls P g (#[.func (.yield l) #[] #[]] ++ lb) W fun e W' => (∃ v, e = .returned v) ∧ (J N W' ∨ ∃ k, k ≤ N ∧ Jx k W') ∧ Fin W'

/-- how a round's body is left -/
def rPost (U : Nat → Prop) (I : Nat → World → Prop) (Ix : Code → Nat → World → Prop) (k : Nat) (W : World) : Exit → Act → World → Prop
  | .normal, _, W' => Ext U W W' ∧ I k W'
  | .ret, _, W' => Ext U W W' ∧ Ix .ret k W'
  | .exit id, _, W' => Ext U W W' ∧ Ix (.exit id) k W'
  | .goto t, _, W' => Ext U W W' ∧ Ix (.goto t) k W'
  | .panic _, _, _ => False
  | .outgrown, _, _ => False

variable {P : Program}

theorem wpIn_range {g : Operand} {ps : Array Tmp} {assign body : Code} {Q : Exit → Act → World → Prop} {a : Act} {w : World}
    {gf : Nat} {lb : Array Value} (hg : a.eval g = .func (.func gf) #[] lb) (eg : ∀ args w, (callFunc gf args).run P w = .ok (.enter gf args) w)
    (U S : Nat → Prop) {N : Nat} {A : Nat → Array Value → World → Prop} {Fin : World → Prop}
    (hseq : SeqC P gf lb N A S (fun k => U k ∨ k = w.heap.size ∨ k = w.heap.size + 1) Fin w)
    (hFin : ∀ A B, Fin A → Ext (fun j => False ∨ (j = w.heap.size + 1 ∧ NC A j)) A B → Fin B)
    (hps : ∀ k args W, A k args W → args.size = ps.size)
    (hA : ∀ k args W r o, A k args W → W.heap[w.heap.size + 1]? = some (.loop r) → A k args (W.putObj (w.heap.size + 1) o))
    (hU0 : ¬ U w.heap.size) (hU1 : ¬ U (w.heap.size + 1)) (hS0 : ¬ S w.heap.size) (hS1 : ¬ S (w.heap.size + 1))
    (I : Nat → World → Prop) (Ix : Code → Nat → World → Prop)
    (hI : ∀ k A B, I k A → Ext (fun j => S j ∨ (j = w.heap.size + 1 ∧ NC A j)) A B → I k B)
    (hIx : ∀ c k A B, Ix c k A → Ext (fun j => S j ∨ (j = w.heap.size + 1 ∧ NC A j)) A B → Ix c k B)
    (h0 : I 0 w) (a₁ : Array Value → Act)
    (hassign : ∀ (l k : Nat) (args : Array Value) (W : World) (K : Act → World → Prop), A k args W → K (a₁ args) W →
      assign.wpIn (Fence.wide.inRound l) 0 P (Exit.then K (fun _ _ _ => False)) { tmps := (ps.zip args).foldl (fun t (p, v) => t.setIfInBounds p v) a.tmps, defers := [] } W)
    (hbody : ∀ (l k : Nat) (args : Array Value) (W : World), k < N → I k W → A k args W → w.heap.size + 2 ≤ W.heap.size → body.wpIn (Fence.wide.inRound l) 0 P (rPost U I Ix (k + 1) W) (a₁ args) W)
    (hdone : ∀ W : World, I N W → Fin W → W.heap[w.heap.size]? = some (.deferred (some [])) → Q .normal { a with defers := { target := .collected w.heap.size, args := #[] } :: a.defers } W)
    (hstop : ∀ (c : Code) (k : Nat) (W : World), k ≤ N → Ix c k W → Fin W → W.heap[w.heap.size]? = some (.deferred (some [])) → c.wpIn Fence.wide 0 P Q { a with defers := { target := .collected w.heap.size, args := #[] } :: a.defers } W) :
    (Code.rangeFunc g ps assign body).wpIn Fence.wide 0 P Q a w := by
  refine wpIn_rangeFunc ?_
  intro fn hfn
  rw [show Fence.wide.round = none from rfl]
  obtain ⟨D, hD⟩ : ∃ D, w.heap.size = D := ⟨_, rfl⟩
  obtain ⟨rec, hrec⟩ : ∃ rec : LoopState → Option Code → Loop, rec = fun st pe => { state := st, pending := pe, fn, tmps := a.tmps, params := ps, assign, body, defers := D } := ⟨_, rfl⟩
  obtain ⟨W1, hW1⟩ : ∃ W1, (w.alloc (.deferred (some []))).alloc (.loop (rec .ready none)) = W1 := ⟨_, rfl⟩
  have hL1 : W1.heap[D + 1]? = some (.loop (rec .ready none)) := by
    rw [← hW1]; have := World.alloc_heap_new (w.alloc (.deferred (some []))) (.loop (rec .ready none)); rwa [World.size_alloc, hD] at this
  have hK1 : W1.heap[D]? = some (.deferred (some [])) := by
    rw [← hW1, ← hD]; exact (Below.heap_alloc _ _ _ (by simp)).trans (World.alloc_heap_new w _)
  have hx1 : Ext No w W1 := by rw [← hW1]; exact ((Ext.refl No w).alloc _).alloc _
  have hI1 : I 0 W1 := hI _ _ _ h0 (hx1.mono (fun _ _ h => h.elim))
  have hsz1 : D + 2 ≤ W1.heap.size := by rw [← hW1]; simp; omega
  refine ⟨D + 1, [{ target := .collected D, args := #[] }], W1, { target := .fn (.func gf) lb, args := #[.func (.yield (D + 1)) #[] #[]] }, W1, gf,
    #[.func (.yield (D + 1)) #[] #[]] ++ lb, W1, ?_, ?_, ?_, ?_, fun h => by simp [Fence.wide] at h, ?_⟩
  · rw [← hW1, hrec, ← hD]; exact run_enterLoop_outer _ _ _ _ _
  · simp only [resolve, hg]
    simp [go_sem]
  · intro f' hf'; trivial
  · simp [invoke, go_sem, eg]
  · rw [hD] at hseq hFin hA hU0 hU1 hS0 hS1 hI hIx hbody hdone hstop
    refine callsIn_wide.2 ((hseq (D + 1)
      (fun k W => I k W ∧ W.heap[D + 1]? = some (.loop (rec .ready none)) ∧ W.heap[D]? = some (.deferred (some [])) ∧ D + 2 ≤ W.heap.size)
      (fun k W => ∃ c, Ix c k W ∧ W.heap[D + 1]? = some (.loop (rec .done (some c))) ∧ W.heap[D]? = some (.deferred (some [])) ∧ D + 2 ≤ W.heap.size)
      W1 hx1 (by rw [hD]; exact hsz1) ?_ ?_ ?_ ⟨hI1, hL1, hK1, hsz1⟩).mono ?_)
    · rintro k A B ⟨h1, h2, h3, h4⟩ hx
      exact ⟨hI k A B h1 (hx.mono (fun _ _ h => .inl h)), (hx.block _ (by omega) hS1).trans h2, (hx.block _ (by omega) hS0).trans h3, Nat.le_trans h4 hx.size⟩
    · rintro k A B ⟨c, h1, h2, h3, h4⟩ hx
      exact ⟨c, hIx c k A B h1 (hx.mono (fun _ _ h => .inl h)), (hx.block _ (by omega) hS1).trans h2, (hx.block _ (by omega) hS0).trans h3, Nat.le_trans h4 hx.size⟩
    · -- ONE ROUND
      rintro k args W hkN ⟨hi, hl, hk, hs⟩ hAk
      have hy := run_yield (P := P) (args := args) hl (by rw [hrec]; exact hps k args W hAk)
      rw [hrec] at hy
      refine ⟨fn, _, assign, body, hy, roundIn_of_wpIn hfn (hassign _ k args W _ hAk ⟨_, run_beginRound hl (by rw [hrec]), ?_⟩)⟩
      have hl2 : (W.putObj (D + 1) (.loop { rec .ready none with state := .busy })).heap[D + 1]? = some (.loop { rec .ready none with state := .busy }) := World.putObj_heap_same (by omega)
      have hk2 : (W.putObj (D + 1) (.loop { rec .ready none with state := .busy })).heap[D]? = some (.deferred (some [])) := (World.putObj_heap_other (by omega)).trans hk
      have hx2 : ∀ {S' : Nat → Prop} (W : World) (o : Obj), S' (D + 1) → Ext S' W (W.putObj (D + 1) o) := fun W o h => (Ext.refl _ W).putObj _ _ (fun _ => h)
      refine wpIn_mono (hbody _ k args _ hkN (hI _ _ _ hi (Ext.putObjN _ _ _ (NC.loop hl))) (hA k args W _ _ hAk hl) (by rw [World.putObj_size]; exact hs)) ?_
      have fin : ∀ (jump : Option Code) (W3 : World), Ext U (W.putObj (D + 1) (.loop { rec .ready none with state := .busy })) W3 →
          (Instr.endRound (D + 1) jump).run P W3 = .ok (.bool jump.isNone) (W3.putObj (D + 1) (.loop (rec (if jump.isNone then .ready else .done) jump))) ∧
          (W3.putObj (D + 1) (.loop (rec (if jump.isNone then .ready else .done) jump))).heap[D + 1]? = some (.loop (rec (if jump.isNone then .ready else .done) jump)) ∧
          (W3.putObj (D + 1) (.loop (rec (if jump.isNone then .ready else .done) jump))).heap[D]? = some (.deferred (some [])) ∧ D + 2 ≤ (W3.putObj (D + 1) (.loop (rec (if jump.isNone then .ready else .done) jump))).heap.size := fun jump W3 hk3 => by
        have hl3 := (hk3.block (D + 1) (by rw [World.putObj_size]; omega) hU1).trans hl2
        have hd3 := (hk3.block D (by rw [World.putObj_size]; omega) hU0).trans hk2
        have hs3 : D + 2 ≤ W3.heap.size := Nat.le_trans (by rw [World.putObj_size]; exact hs) hk3.size
        have := run_endRound (P := P) jump hl3
        rw [hrec] at this ⊢
        exact ⟨this, World.putObj_heap_same (by omega), (World.putObj_heap_other (by omega)).trans hd3, by rw [World.putObj_size]; exact hs3⟩
      have ext3 : ∀ (W3 : World) (o o' : Obj), Ext U (W.putObj (D + 1) o) W3 → Ext (fun k => U k ∨ k = D ∨ k = D + 1) W (W3.putObj (D + 1) o') := fun W3 o o' hx3 =>
        (((hx2 W o (.inr (.inr rfl))).trans hx3 (fun _ _ h => h) (fun _ _ h => .inl h)).trans (hx2 W3 _ (.inr (.inr rfl))) (fun _ _ h => h) (fun _ _ h => h))
      have ncl : ∀ (W3 : World), Ext U (W.putObj (D + 1) (.loop { rec .ready none with state := .busy })) W3 → NC W3 (D + 1) := fun W3 hk3 => NC.loop ((hk3.block (D + 1) (by rw [World.putObj_size]; omega) hU1).trans hl2)
      rintro e a3 W3 hp
      cases e with
      | normal =>
        obtain ⟨hx3, hi3⟩ := hp
        obtain ⟨hr, h4⟩ := fin none W3 hx3
        refine ⟨_, _, hr, .inl ⟨rfl, ⟨hI _ _ _ hi3 (Ext.putObjN _ _ _ (ncl _ hx3)), h4⟩, ext3 _ _ _ hx3⟩⟩
      | ret =>
        obtain ⟨hx3, hi3⟩ := hp
        obtain ⟨hr, h4⟩ := fin (some .ret) W3 hx3
        exact ⟨_, _, hr, .inr ⟨rfl, ⟨.ret, hIx _ _ _ _ hi3 (Ext.putObjN _ _ _ (ncl _ hx3)), h4⟩, ext3 _ _ _ hx3⟩⟩
      | exit id =>
        obtain ⟨hx3, hi3⟩ := hp
        obtain ⟨hr, h4⟩ := fin (some (.exit id)) W3 hx3
        exact ⟨_, _, hr, .inr ⟨rfl, ⟨.exit id, hIx _ _ _ _ hi3 (Ext.putObjN _ _ _ (ncl _ hx3)), h4⟩, ext3 _ _ _ hx3⟩⟩
      | goto t =>
        obtain ⟨hx3, hi3⟩ := hp
        obtain ⟨hr, h4⟩ := fin (some (.goto t)) W3 hx3
        exact ⟨_, _, hr, .inr ⟨rfl, ⟨.goto t, hIx _ _ _ _ hi3 (Ext.putObjN _ _ _ (ncl _ hx3)), h4⟩, ext3 _ _ _ hx3⟩⟩
      | panic ch => exact hp.elim
      | outgrown => exact hp.elim
    · -- BEHIND THE ITERATOR
      rintro e W2 ⟨⟨v, rfl⟩, (⟨hi, hl, hk, hs⟩ | ⟨k, hkN, c, hi, hl, hk, hs⟩), hfin⟩
      · exact ⟨none, _, by have := run_endLoop (P := P) hl (by rw [hrec]; simp); rw [hrec] at this; exact this, hdone _ (hI _ _ _ hi (Ext.putObjN _ _ _ (NC.loop hl))) (hFin _ _ hfin (Ext.putObjN _ _ _ (NC.loop hl))) ((World.putObj_heap_other (by omega)).trans hk)⟩
      · exact ⟨some c, _, by have := run_endLoop (P := P) hl (by rw [hrec]; simp); rw [hrec] at this; exact this, hstop c k _ hkN (hIx _ _ _ _ hi (Ext.putObjN _ _ _ (NC.loop hl))) (hFin _ _ hfin (Ext.putObjN _ _ _ (NC.loop hl))) ((World.putObj_heap_other (by omega)).trans hk)⟩

/-- append of one element of one cell onto a row of the call's own, within a round: the row stands where it stood, or in a new block -/
theorem wpListIn_app1 {F : Fence} {nF : Nat} {ops : Array Oper} {rest : List Oper} {o : Oper} {a : Act} {Q : Exit → Act → World → Prop} (w : World) (u : Value) (hgd : o.guard = none) (s x : Operand) (t : TypeId)
    (ho : o.op = .call { callee := .builtin .append, args := #[s, x], argTypes := #[t, t] }) (base : Nat) (e : TypeId) (z : Value) (bytes : Nat)
    (hinfo : (P.info? e).map (fun i => (i.zero, i.size, i.bytes)) = some (some z, 1, bytes)) (ht : P.underlying t = some (.slice e)) (hzs : z.cells.size = 1)
    (v : Value) (n : Nat) (xs : List Value) (hs : a.eval s = v) (hown : w.ownsRow base e 1 v n xs) (ad : Addr) (hx : a.eval x = .slice (some ad) 1 1) (had : w.cell? ad = some u) (h1 : u.oneCell' = true)
    (h63 : n + 1 ≤ 9223372036854775807) (hbytes : (n + 1) * bytes ≤ 140737488355328) (hbase : base ≤ w.heap.size)
    (h : ∀ v' w', w'.ownsRow base e 1 v' (n + 1) (xs ++ [u]) → w.grownBy w' v.ownBlock → (v'.ownBlock = v.ownBlock ∨ v'.ownBlock = some w.heap.size) → wpListIn F nF P ops Q rest (a.put o.dst v') w') : wpListIn F nF P ops Q (o :: rest) a w := by
  obtain ⟨i0, hi, hz0, hz1, hz2⟩ := info_parts hinfo
  refine wpListIn_append_own_at w hgd s x t ho base e i0 z 1 bytes ht hi hz0 hz1 hz2 hzs (by decide) v n xs hs hown ad 1 1 [u] hx rfl ?_ ?_ (by unfold maxLen; omega) hbytes hbase fun v' w' h2 h3 _ h4 => h v' w' h2 h3 h4
  · intro j y hj
    cases j with
    | zero => simp at hj; subst hj; rw [Addr.add_zero']; exact had
    | succ j => simp at hj
  · intro y hy; simp at hy; subst hy; exact h1

/-- new blocks, one behind the other -/
def lay (w : World) : List (Array Value × TypeId) → World
  | [] => w
  | (c, T) :: r => lay (w.alloc (.cells c T)) r
theorem lay_ext (cs : List (Array Value × TypeId)) : ∀ {w0 w : World}, Ext No w0 w → Ext No w0 (lay w cs) := by
  induction cs with
  | nil => exact fun h => h
  | cons a r ih => obtain ⟨c, T⟩ := a; exact fun h => ih (h.alloc _)
theorem lay_size (cs : List (Array Value × TypeId)) : ∀ w : World, (lay w cs).heap.size = w.heap.size + cs.length := by
  induction cs with
  | nil => intro w; rfl
  | cons a r ih => obtain ⟨c, T⟩ := a; intro w; rw [lay, ih, World.size_alloc, List.length_cons]; omega
theorem lay_blk (cs : List (Array Value × TypeId)) : ∀ (w : World) (i : Nat) (c : Array Value) (T : TypeId), cs[i]? = some (c, T) → Blk (lay w cs) (w.heap.size + i) c T := by
  induction cs with
  | nil => intro w i c T h; simp at h
  | cons a r ih =>
    obtain ⟨c0, T0⟩ := a
    intro w i c T h
    cases i with
    | zero =>
      simp only [List.getElem?_cons_zero, Option.some.injEq, Prod.mk.injEq] at h
      obtain ⟨rfl, rfl⟩ := h
      exact (Blk.new w c0 T0).ext (lay_ext r (Ext.refl No _)) (fun x => x)
    | succ i =>
      have := ih (w.alloc (.cells c0 T0)) i c T (by simpa using h)
      rw [World.size_alloc] at this
      rw [show w.heap.size + (i + 1) = w.heap.size + 1 + i by omega]
      exact this
theorem lay_at {w w0 : World} {cs : List (Array Value × TypeId)} (h : lay w cs = w0) (i : Nat) (c : Array Value) (T : TypeId) (hi : cs[i]? = some (c, T)) : Blk w0 (w.heap.size + i) c T := by rw [← h]; exact lay_blk cs w i c T hi
end Go.My
end

section
/- The contracts of code.Reader's Text and of code.Decode. -/
namespace Go.Proofs.YtefabpgfhghpgaaDoor
open Go.RowKit Go.My

set_option maxRecDepth 100000 in
set_option maxHeartbeats 400000 in
theorem rtext_no (most : Nat) (hm : most ≤ 9223372036854775807) (rb : Nat) (l : List UInt8) (v : Value) (w : World) (h : RdS w rb l v) (hl : l.length ≤ 9223372036854775807) (hk : bytesP most l = none) :
    Calls Tryd.prog 47 #[.pointer (some ⟨rb, 0, none⟩), .int .i64 most] w fun e w' => ∃ n : Int, e = .panicked (thrown n) ∧ n ≠ 0 ∧ Ext (fun j => j = rb) w w' := by
  have H := Lib.hid (rbytes_no most hm rb l v w h hl hk); clear h hl hk
  go_enter Tryd.func47, Tryd.ntmps47
  go_wp2_with fail
  refine H.out.mono ?_
  rintro e w' ⟨n, rfl, hn, hx⟩
  dsimp only
  go_wp2_with fail
  exact ⟨rfl, n, rfl, hn, hx⟩

set_option maxRecDepth 100000 in
set_option maxHeartbeats 400000 in
theorem rtext_ok (most : Nat) (hm : most ≤ 9223372036854775807) (rb : Nat) (l x r : List UInt8) (v : Value) (w : World) (h : RdS w rb l v) (hk : bytesP most l = some (x, r)) :
    Calls Tryd.prog 47 #[.pointer (some ⟨rb, 0, none⟩), .int .i64 most] w fun e w' => e = .returned (.string (strB x)) ∧ ∃ v', RdS w' rb r v' ∧ Ext (fun j => j = rb) w w' ∧ Inn v v' := by
  have H := Lib.hid (rbytes_ok most hm rb l x r v w h hk); clear h hk
  go_enter Tryd.func47, Tryd.ntmps47
  go_wp2_with fail
  refine H.out.mono ?_
  rintro e w' ⟨ax, n, rfl, hn, hx, v', hr, he, -, hi⟩
  have hcv := conv_bytes x ax n n w' hx
  have HR := Lib.hid (And.intro hr (And.intro he hi)); clear hr he hi hx hn
  dsimp only
  go_wp2_with fail
  go_ret
  exact ⟨rfl, v', HR.out⟩

theorem own_blk {w : World} {B n j : Nat} {e : TypeId} {v : Value} {xs : List Value} (h : w.ownsRow B e 1 v n xs) (hj : v.ownBlock = some j) : ∃ cs, Blk w j cs e := by
  rcases h.2 with ⟨rfl, _⟩ | ⟨g, cap, cur, rfl, -, hg, -⟩
  · cases hj
  · have : g = j := Option.some.inj hj
    subst this; exact ⟨cur, hg⟩
/-- what a reading function owes: it parses; its own cells are those of S -/
def Reads {α : Type} (K : FuncId) (cap : Array Value) (S : Nat → Prop) (l : List UInt8) (parse : List UInt8 → Option (α × List UInt8)) (R : α → World → Prop) (Rx : World → Prop) (w : World) : Prop :=
  ∀ (rb : Nat) (v : Value) (w1 : World), Ext No w w1 → w.heap.size ≤ rb → RdS w1 rb l v → (∀ j, v.ownBlock = some j → w.heap.size ≤ j ∧ ∃ cs, Blk w1 j cs 5) →
    Calls Tryd.prog K (#[.pointer (some ⟨rb, 0, none⟩)] ++ cap) w1 fun e w2 => Ext (fun j => j = rb ∨ S j) w1 w2 ∧
      ((∃ a r v', parse l = some (a, r) ∧ e = .returned (.tuple #[]) ∧ RdS w2 rb r v' ∧ R a w2) ∨ (parse l = none ∧ Rx w2 ∧ ∃ n : Int, e = .panicked (thrown n) ∧ n ≠ 0))

/-- what is told by a reading's number -/
def Told {α : Type} (l : List UInt8) (parse : List UInt8 → Option (α × List UInt8)) (R : α → World → Prop) (Rx : World → Prop) (n : Int) (w : World) : Prop :=
  (n = 0 ∧ ∃ a, parse l = some (a, []) ∧ R a w) ∨ (n ≠ 0 ∧ (∀ a, parse l ≠ some (a, [])) ∧ Rx w)

set_option maxRecDepth 100000 in
set_option maxHeartbeats 1000000 in
theorem decode1_any {α : Type} (K : FuncId) (cap : Array Value) (S : Nat → Prop) (l : List UInt8) (parse : List UInt8 → Option (α × List UInt8)) (R : α → World → Prop) (Rx : World → Prop) (hRx : ∀ a A, R a A → Rx A) (w w1 : World)
    (hK : ∀ args w, (callFunc K args).run Tryd.prog w = .ok (.enter K args) w) (h : Reads K cap S l parse R Rx w) (hx : Ext No w w1) (rb fb pb : Nat) (v : Value) (hrb : w.heap.size ≤ rb) (hr : RdS w1 rb l v) (hv : ∀ j, v.ownBlock = some j → w.heap.size ≤ j ∧ ∃ cs, Blk w1 j cs 5)
    (hf : Blk w1 fb #[.func (.func K) #[] cap] 66) (hp : Blk w1 pb #[.pointer (some ⟨rb, 0, none⟩)] 63) (hS : ∀ j, S j → j < w.heap.size) (hpw : w.heap.size ≤ pb) :
    Calls Tryd.prog 44 #[.pointer (some ⟨fb, 0, none⟩), .pointer (some ⟨pb, 0, none⟩)] w1 (Body (fun j => j = rb ∨ S j) w1 (Told l parse R Rx)) := by
  have hcf := hf.cell 0
  have hcp := hp.cell 0
  simp only [List.getElem?_toArray, List.getElem?_cons_zero] at hcf hcp
  have hne : pb ≠ rb := Blk.ne_type hp hr.box (by decide)
  have HB := Lib.hid (h rb v w1 hx hrb hr hv)
  have HP := Lib.hid (show ∀ w2, Ext (fun j => j = rb ∨ S j) w1 w2 → Blk w2 pb #[.pointer (some ⟨rb, 0, none⟩)] 63 from fun w2 x => hp.ext x (fun s => by rcases s with s | s; exact hne s; have := hS _ s; omega))
  clear h hx hr hv hf hp hS hpw hne hrb
  go_enter Tryd.func44, Tryd.ntmps44
  go_wp2_with fail
  refine HB.out.mono ?_
  rintro e w2 ⟨hx2, (⟨a, r, v', hpa, rfl, hr2, hR⟩ | ⟨hpa, hxx, n, rfl, hn⟩)⟩
  · have hcp2 := (HP.out w2 hx2).cell 0
    simp only [List.getElem?_toArray, List.getElem?_cons_zero] at hcp2
    have HX := Lib.hid hx2; have HPA := Lib.hid hpa; have HR2 := Lib.hid hr2; have HR := Lib.hid hR; clear hx2 hpa hr2 hR
    dsimp only
    go_wp2_with fail
    refine (left_any rb r v' w2 HR2.out).mono ?_
    rintro e w3 ⟨rfl, rfl⟩
    dsimp only
    by_cases h0 : 0 < r.length
    · have hd : decide (0 < (r.length : Int)) = true := by simpa using h0
      have HRN := Lib.hid (show r ≠ [] from fun h => by rw [h] at h0; simp at h0)
      generalize r.length = m at *
      go_wp2_with fail
      refine (must_no 22 (by decide) _).mono ?_
      rintro e w4 ⟨rfl, rfl⟩
      dsimp only
      go_wp2_with fail
      refine ⟨rfl, 22, .inr ⟨rfl, by decide⟩, HX.out, .inr ⟨by decide, fun a' ha' => ?_, hRx a _ HR.out⟩⟩
      rw [HPA.out] at ha'
      exact HRN.out (congrArg Prod.snd (Option.some.inj ha'))
    · have hr0 : r = [] := List.length_eq_zero_iff.1 (by omega)
      subst hr0
      go_wp2_with fail
      go_end0
      exact ⟨0, .inl ⟨rfl, rfl⟩, HX.out, .inl ⟨rfl, a, HPA.out, HR.out⟩⟩
  · have HX := Lib.hid hx2; have HPA := Lib.hid hpa; have HXX := Lib.hid hxx; clear hx2 hpa hxx
    dsimp only
    go_wp2_with fail
    refine ⟨rfl, n, .inr ⟨rfl, hn⟩, HX.out, .inr ⟨hn, fun a' ha' => ?_, HXX.out⟩⟩
    rw [HPA.out] at ha'; cases ha'


/-- only cells of an error have changed -/
def ErrExt (A B : World) : Prop := Ext (fun j => ∃ cs, Blk A j cs 27) A B

set_option maxRecDepth 100000 in
set_option maxHeartbeats 2000000 in
theorem decode_any {α : Type} (K : FuncId) (cap : Array Value) (S : Nat → Prop) (l : List UInt8) (parse : List UInt8 → Option (α × List UInt8)) (R : α → World → Prop) (Rx : World → Prop) (hRx : ∀ a A, R a A → Rx A) (hRxE : ∀ A B, Rx A → ErrExt A B → Rx B) (a : Option Addr) (m c : Nat) (w : World)
    (hK : ∀ args w, (callFunc K args).run Tryd.prog w = .ok (.enter K args) w) (h : Reads K cap S l parse R Rx w) (hS : ∀ j, S j → j < w.heap.size) (hv : IsBytes w l (.slice a m c)) (hl : l.length ≤ 1099511627776)
    (hR : ∀ a A B, R a A → ErrExt A B → R a B) :
    Calls Tryd.prog 25 #[.slice a m c, .func (.func K) #[] cap] w fun e w' => ∃ n : Int, e = .returned (.int .i64 n) ∧ Told l parse R Rx n w' ∧ Ext S w w' := by
  have hmf := mkf
  have hbf := Blk.new w #[.func (.func K) #[] cap] 66
  have hx0 : Ext No w (w.alloc (.cells #[.func (.func K) #[] cap] 66)) := (Ext.refl No w).alloc _
  obtain ⟨w0, hw0⟩ : ∃ w0, w.alloc (.cells #[.func (.func K) #[] cap] 66) = w0 := ⟨_, rfl⟩
  obtain ⟨fb, hfb⟩ : ∃ fb, w.heap.size = fb := ⟨_, rfl⟩
  rw [hw0, hfb] at hbf; rw [hw0] at hx0
  have HV := Lib.hid (hv.ext0 hx0); have HBF := Lib.hid hbf; have HX0 := Lib.hid hx0; have HW0 := Lib.hid hw0; have HFB := Lib.hid hfb; have HL := Lib.hid hl; have HH := Lib.hid h; have HS := Lib.hid hS; have HRR := Lib.hid hR
  clear h hS hv hl hR hbf hx0 hw0 hfb
  go_enter Tryd.func25, Tryd.ntmps25
  go_wp2_with fail
  rw [HW0.out, HFB.out]
  refine (sclone_any l a m c w0 HV.out HL.out).mono ?_
  rintro e w1 ⟨x, rfl, ho, hx1⟩
  obtain ⟨ax, cx, hxf⟩ := own_form ho
  generalize hln : l.length = n at hxf
  subst hxf
  have HO := Lib.hid ho; have HX1 := Lib.hid (HX0.out.trans' hx1); have HBF1 := Lib.hid (HBF.out.ext hx1 (fun s => s)); have HZ0 := Lib.hid hx1.size
  clear ho hx1 HBF HV hln
  dsimp only
  go_wp2_with fail
  obtain ⟨w2, hw2⟩ : ∃ w2, lay w1 [(#[.slice ax n cx], 82), (#[.pointer (some ⟨w1.heap.size, 0, none⟩)], 63)] = w2 := ⟨_, rfl⟩
  have hx2 : Ext No w1 w2 := by rw [← hw2]; exact lay_ext _ (Ext.refl _ _)
  have hsz : w2.heap.size = w1.heap.size + 2 := by rw [← hw2]; exact lay_size _ _
  have hb0 := lay_at hw2 0 _ _ rfl
  have hb1 := lay_at hw2 1 _ _ rfl
  rw [Nat.add_zero] at hb0
  simp only [lay] at hw2
  rw [hw2]; clear hw2
  obtain ⟨rb, hrb⟩ : ∃ rb, w1.heap.size = rb := ⟨_, rfl⟩
  rw [hrb] at hb0 hb1 hsz ⊢
  have hol := HO.out.lt
  have hrd : RdS w2 rb l (.slice ax n cx) := ⟨hb0, (HO.out.ext hx2 (fun _ _ s => s)).bytes, fun j hj _ => by have := (hol j hj).2; omega⟩
  have hxw : Ext No w w2 := HX1.out.trans' hx2
  have hz1 := HX1.out.size
  have herr := Blk.new w2 #[.int .i64 0] 27
  have hxe : Ext No w2 (w2.alloc (.cells #[.int .i64 0] 27)) := (Ext.refl No w2).alloc _
  have hrd2 : RdS (w2.alloc (.cells #[.int .i64 0] 27)) rb l (.slice ax n cx) := ⟨hrd.box.ext hxe (fun s => s), hrd.row.ext0 hxe, hrd.apart⟩
  have hdec := decode1_any K cap S l parse R Rx hRx w (w2.alloc (.cells #[.int .i64 0] 27)) hK HH.out (hxw.trans' hxe) rb fb (rb + 1) (.slice ax n cx) (by omega) hrd2 (fun j hj => ⟨by have := (hol j hj).1; have := HX0.out.size; omega, by obtain ⟨cs, hb⟩ := own_blk HO.out hj; exact ⟨cs, (hb.ext hx2 (fun s => s)).ext hxe (fun s => s)⟩⟩)
    ((HBF1.out.ext hx2 (fun s => s)).ext hxe (fun s => s)) (hb1.ext hxe (fun s => s)) HS.out (by omega)
  have hSn : ¬ (w2.heap.size = rb ∨ S w2.heap.size) := fun s => by rcases s with s | s; omega; have := HS.out _ s; omega
  have hrun := run_ext (fun j => j = rb ∨ S j) 44 #[.pointer (some ⟨fb, 0, none⟩), .pointer (some ⟨rb + 1, 0, none⟩)] w2
    (fun n w' => (∃ x, Blk w' w2.heap.size #[x] 27) ∧ Told l parse R Rx n w') (fun w => by kernel_rfl) hSn (fun n w' hq => by
      obtain ⟨⟨x, hbx⟩, ht⟩ := hq
      have hE : ErrExt w' (w'.setCell ⟨w2.heap.size, 0, none⟩ (.int .i64 n)) := (Ext.refl _ w').setCell _ _ (fun _ => ⟨_, hbx⟩)
      refine ⟨⟨_, hbx.set 0 _⟩, ?_⟩
      rcases ht with ⟨h1, a, h2, h3⟩ | h
      · exact .inl ⟨h1, a, h2, HRR.out a _ _ h3 hE⟩
      · exact .inr ⟨h.1, h.2.1, hRxE _ _ h.2.2 hE⟩) (hdec.mono (fun e w' ⟨n, h1, h2, h3⟩ => ⟨n, h1, h2, ⟨_, herr.ext h2 hSn⟩, h3⟩))
  refine hrun.mono ?_
  rintro e w3 ⟨n3, rfl, hx3, -, ht⟩
  have HT := Lib.hid ht
  have HX3 := Lib.hid (show Ext S w w3 from hxw.trans hx3 (fun _ _ s => s.elim) (fun j hj s => by rcases s with s | s; omega; exact s))
  clear ht hx3 hrun hdec hrd hrd2 hxw hxe herr hx2 hb0 hb1 hSn hol
  dsimp only
  go_wp2_with fail
  go_ret
  exact ⟨n3, rfl, HT.out, HX3.out⟩

end Go.Proofs.YtefabpgfhghpgaaDoor
end
