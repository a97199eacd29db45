/-
  JOINED (1): plain laws on words and worlds; the contracts of guard; strings; a function that is ranged over; path.part, Parent, Base, Join, Within.
-/
import Derived.WalkKit
import Derived.WalkSpells
import Derived.WalkLawsBesides
import Derived.Lib.Hide
import Derived.BigQuiet
import Derived.StillTailTactics
import Derived.Deep.DeepCutAuto
import Derived.Deep.DeepFit
import Derived.Deep.RegionLaw
import Derived.RegionDies
import Derived.Laws.AppendOwnNone
import Derived.Test.YtajilboimjcfjaaDoorRows
import Derived.Laws.BytesArg
import Derived.Test.YtajilboimjcfjaaDoorProg
import Derived.Lib.Bytealg
import Derived.Lib.Strings
import Derived.Lib.Walk
import Derived.Laws.Strings3
import Derived.RangeFuncSeq
import Derived.RangeFuncBound
import Derived.RangeFuncOwn
import Derived.OwnWalkIn
import Derived.Maps.OwnIn
set_option linter.unusedVariables false
set_option linter.unusedSimpArgs false

section
/- Plain laws on machine words: the walk's own spelling of unsigned arithmetic, told by bit vectors behind opaque names. No program in sight. -/
namespace Go.My

/-- a word as the number that the machine holds -/
def w64 (x : BitVec 64) : Int := (x.toNat : Int)
theorem w64_def (x : BitVec 64) : w64 x = (x.toNat : Int) := rfl
theorem w64_bd (x : BitVec 64) : 0 ≤ w64 x ∧ w64 x ≤ 18446744073709551615 := by have := x.isLt; rw [w64_def]; omega
theorem w64_inj {x y : BitVec 64} (h : w64 x = w64 y) : x = y := by rw [w64_def, w64_def] at h; exact BitVec.eq_of_toNat_eq (by omega)
theorem w64_wrap (n : Int) : IntKind.u64.wrap n = n % 18446744073709551616 := IntKind.wrap_u64 n
theorem w64_self (x : BitVec 64) : IntKind.u64.wrap (w64 x) = w64 x := IntWalk.u64_in _ (w64_bd x)
theorem w64_ofInt (x : BitVec 64) : BitVec.ofInt 64 (w64 x) = x := by simp [w64_def]
theorem w64_xor (x y : BitVec 64) : bits .xor .u64 (w64 x) (w64 y) = w64 (x ^^^ y) := by
  show IntKind.u64.wrap ((BitVec.ofInt 64 (w64 x) ^^^ BitVec.ofInt 64 (w64 y)).toNat : Int) = _
  rw [w64_ofInt, w64_ofInt, ← w64_def, w64_self]
theorem w64_and (x y : BitVec 64) : bits .and .u64 (w64 x) (w64 y) = w64 (x &&& y) := by
  show IntKind.u64.wrap ((BitVec.ofInt 64 (w64 x) &&& BitVec.ofInt 64 (w64 y)).toNat : Int) = _
  rw [w64_ofInt, w64_ofInt, ← w64_def, w64_self]
theorem w64_or (x y : BitVec 64) : bits .or .u64 (w64 x) (w64 y) = w64 (x ||| y) := by
  show IntKind.u64.wrap ((BitVec.ofInt 64 (w64 x) ||| BitVec.ofInt 64 (w64 y)).toNat : Int) = _
  rw [w64_ofInt, w64_ofInt, ← w64_def, w64_self]
theorem w64_and_int (x : BitVec 64) (n : Int) : bits .and .u64 (w64 x) n = w64 (x &&& BitVec.ofInt 64 n) := by
  show IntKind.u64.wrap ((BitVec.ofInt 64 (w64 x) &&& BitVec.ofInt 64 n).toNat : Int) = _
  rw [w64_ofInt, ← w64_def, w64_self]
theorem w64_xor_int (x : BitVec 64) (n : Int) : bits .xor .u64 (w64 x) n = w64 (x ^^^ BitVec.ofInt 64 n) := by
  show IntKind.u64.wrap ((BitVec.ofInt 64 (w64 x) ^^^ BitVec.ofInt 64 n).toNat : Int) = _
  rw [w64_ofInt, ← w64_def, w64_self]
theorem w64_or_int (x : BitVec 64) (n : Int) : bits .or .u64 (w64 x) n = w64 (x ||| BitVec.ofInt 64 n) := by
  show IntKind.u64.wrap ((BitVec.ofInt 64 (w64 x) ||| BitVec.ofInt 64 n).toNat : Int) = _
  rw [w64_ofInt, ← w64_def, w64_self]
theorem w64_nat (n : Nat) : IntKind.u64.wrap (n : Int) = w64 (BitVec.ofNat 64 n) := by
  rw [w64_wrap, w64_def, BitVec.toNat_ofNat]; omega
theorem w64_int (n : Int) : IntKind.u64.wrap n = w64 (BitVec.ofInt 64 n) := by
  rw [w64_wrap, w64_def, BitVec.toNat_ofInt]; omega
theorem w64_lit (n : Nat) (h : n < 18446744073709551616) : (n : Int) = w64 (BitVec.ofNat 64 n) := by
  rw [w64_def, BitVec.toNat_ofNat]; omega
theorem w64_add (x y : BitVec 64) : IntKind.u64.wrap (w64 x + w64 y) = w64 (x + y) := by
  simp only [w64_wrap, w64_def, BitVec.toNat_add]; omega
theorem w64_sub (x y : BitVec 64) : IntKind.u64.wrap (w64 x - w64 y) = w64 (x - y) := by
  have := x.isLt; have := y.isLt
  simp only [w64_wrap, w64_def, BitVec.toNat_sub]; omega
theorem w64_mul (x y : BitVec 64) : IntKind.u64.wrap (w64 x * w64 y) = w64 (x * y) := by
  simp only [w64_wrap, w64_def]
  rw [BitVec.toNat_mul, Int.natCast_emod, Int.natCast_mul]; rfl
theorem w64_mul_nat (x : BitVec 64) (n : Nat) : IntKind.u64.wrap (w64 x * (n : Int)) = w64 (x * BitVec.ofNat 64 n) := by
  simp only [w64_wrap, w64_def]
  rw [BitVec.toNat_mul, BitVec.toNat_ofNat, Nat.mul_mod_mod, Int.natCast_emod, Int.natCast_mul]; rfl
theorem w64_shr (x : BitVec 64) (j : Nat) : w64 x / ((2 ^ j : Nat) : Int) = w64 (x >>> j) := by
  simp only [w64_def]
  rw [BitVec.toNat_ushiftRight, Nat.shiftRight_eq_div_pow]; exact (Int.natCast_ediv _ _).symm
theorem w64_quo (x : BitVec 64) (j : Nat) : IntKind.u64.wrap ((w64 x).tdiv ((2 ^ j : Nat) : Int)) = w64 (x >>> j) := by
  rw [Int.tdiv_eq_ediv_of_nonneg (w64_bd x).1, w64_shr, w64_self]
/-- a word as the number that the machine holds -/
def w32 (x : BitVec 32) : Int := (x.toNat : Int)
theorem w32_def (x : BitVec 32) : w32 x = (x.toNat : Int) := rfl
theorem w32_bd (x : BitVec 32) : 0 ≤ w32 x ∧ w32 x ≤ 4294967295 := by have := x.isLt; rw [w32_def]; omega
theorem w32_inj {x y : BitVec 32} (h : w32 x = w32 y) : x = y := by rw [w32_def, w32_def] at h; exact BitVec.eq_of_toNat_eq (by omega)
theorem w32_wrap (n : Int) : IntKind.u32.wrap n = n % 4294967296 := IntKind.wrap_u32 n
theorem w32_self (x : BitVec 32) : IntKind.u32.wrap (w32 x) = w32 x := IntWalk.u32_in _ (w32_bd x)
theorem w32_ofInt (x : BitVec 32) : BitVec.ofInt 32 (w32 x) = x := by simp [w32_def]
theorem w32_xor (x y : BitVec 32) : bits .xor .u32 (w32 x) (w32 y) = w32 (x ^^^ y) := by
  show IntKind.u32.wrap ((BitVec.ofInt 32 (w32 x) ^^^ BitVec.ofInt 32 (w32 y)).toNat : Int) = _
  rw [w32_ofInt, w32_ofInt, ← w32_def, w32_self]
theorem w32_and (x y : BitVec 32) : bits .and .u32 (w32 x) (w32 y) = w32 (x &&& y) := by
  show IntKind.u32.wrap ((BitVec.ofInt 32 (w32 x) &&& BitVec.ofInt 32 (w32 y)).toNat : Int) = _
  rw [w32_ofInt, w32_ofInt, ← w32_def, w32_self]
theorem w32_or (x y : BitVec 32) : bits .or .u32 (w32 x) (w32 y) = w32 (x ||| y) := by
  show IntKind.u32.wrap ((BitVec.ofInt 32 (w32 x) ||| BitVec.ofInt 32 (w32 y)).toNat : Int) = _
  rw [w32_ofInt, w32_ofInt, ← w32_def, w32_self]
theorem w32_and_int (x : BitVec 32) (n : Int) : bits .and .u32 (w32 x) n = w32 (x &&& BitVec.ofInt 32 n) := by
  show IntKind.u32.wrap ((BitVec.ofInt 32 (w32 x) &&& BitVec.ofInt 32 n).toNat : Int) = _
  rw [w32_ofInt, ← w32_def, w32_self]
theorem w32_xor_int (x : BitVec 32) (n : Int) : bits .xor .u32 (w32 x) n = w32 (x ^^^ BitVec.ofInt 32 n) := by
  show IntKind.u32.wrap ((BitVec.ofInt 32 (w32 x) ^^^ BitVec.ofInt 32 n).toNat : Int) = _
  rw [w32_ofInt, ← w32_def, w32_self]
theorem w32_or_int (x : BitVec 32) (n : Int) : bits .or .u32 (w32 x) n = w32 (x ||| BitVec.ofInt 32 n) := by
  show IntKind.u32.wrap ((BitVec.ofInt 32 (w32 x) ||| BitVec.ofInt 32 n).toNat : Int) = _
  rw [w32_ofInt, ← w32_def, w32_self]
theorem w32_nat (n : Nat) : IntKind.u32.wrap (n : Int) = w32 (BitVec.ofNat 32 n) := by
  rw [w32_wrap, w32_def, BitVec.toNat_ofNat]; omega
theorem w32_int (n : Int) : IntKind.u32.wrap n = w32 (BitVec.ofInt 32 n) := by
  rw [w32_wrap, w32_def, BitVec.toNat_ofInt]; omega
theorem w32_lit (n : Nat) (h : n < 4294967296) : (n : Int) = w32 (BitVec.ofNat 32 n) := by
  rw [w32_def, BitVec.toNat_ofNat]; omega
theorem w32_add (x y : BitVec 32) : IntKind.u32.wrap (w32 x + w32 y) = w32 (x + y) := by
  simp only [w32_wrap, w32_def, BitVec.toNat_add]; omega
theorem w32_sub (x y : BitVec 32) : IntKind.u32.wrap (w32 x - w32 y) = w32 (x - y) := by
  have := x.isLt; have := y.isLt
  simp only [w32_wrap, w32_def, BitVec.toNat_sub]; omega
theorem w32_mul (x y : BitVec 32) : IntKind.u32.wrap (w32 x * w32 y) = w32 (x * y) := by
  simp only [w32_wrap, w32_def]
  rw [BitVec.toNat_mul, Int.natCast_emod, Int.natCast_mul]; rfl
theorem w32_mul_nat (x : BitVec 32) (n : Nat) : IntKind.u32.wrap (w32 x * (n : Int)) = w32 (x * BitVec.ofNat 32 n) := by
  simp only [w32_wrap, w32_def]
  rw [BitVec.toNat_mul, BitVec.toNat_ofNat, Nat.mul_mod_mod, Int.natCast_emod, Int.natCast_mul]; rfl
theorem w32_shr (x : BitVec 32) (j : Nat) : w32 x / ((2 ^ j : Nat) : Int) = w32 (x >>> j) := by
  simp only [w32_def]
  rw [BitVec.toNat_ushiftRight, Nat.shiftRight_eq_div_pow]; exact (Int.natCast_ediv _ _).symm
theorem w32_quo (x : BitVec 32) (j : Nat) : IntKind.u32.wrap ((w32 x).tdiv ((2 ^ j : Nat) : Int)) = w32 (x >>> j) := by
  rw [Int.tdiv_eq_ediv_of_nonneg (w32_bd x).1, w32_shr, w32_self]
/-- a word as the number that the machine holds -/
def w8 (x : BitVec 8) : Int := (x.toNat : Int)
theorem w8_def (x : BitVec 8) : w8 x = (x.toNat : Int) := rfl
theorem w8_bd (x : BitVec 8) : 0 ≤ w8 x ∧ w8 x ≤ 255 := by have := x.isLt; rw [w8_def]; omega
theorem w8_inj {x y : BitVec 8} (h : w8 x = w8 y) : x = y := by rw [w8_def, w8_def] at h; exact BitVec.eq_of_toNat_eq (by omega)
theorem w8_wrap (n : Int) : IntKind.u8.wrap n = n % 256 := IntKind.wrap_u8 n
theorem w8_self (x : BitVec 8) : IntKind.u8.wrap (w8 x) = w8 x := IntWalk.u8_in _ (w8_bd x)
theorem w8_ofInt (x : BitVec 8) : BitVec.ofInt 8 (w8 x) = x := by simp [w8_def]
theorem w8_xor (x y : BitVec 8) : bits .xor .u8 (w8 x) (w8 y) = w8 (x ^^^ y) := by
  show IntKind.u8.wrap ((BitVec.ofInt 8 (w8 x) ^^^ BitVec.ofInt 8 (w8 y)).toNat : Int) = _
  rw [w8_ofInt, w8_ofInt, ← w8_def, w8_self]
theorem w8_and (x y : BitVec 8) : bits .and .u8 (w8 x) (w8 y) = w8 (x &&& y) := by
  show IntKind.u8.wrap ((BitVec.ofInt 8 (w8 x) &&& BitVec.ofInt 8 (w8 y)).toNat : Int) = _
  rw [w8_ofInt, w8_ofInt, ← w8_def, w8_self]
theorem w8_or (x y : BitVec 8) : bits .or .u8 (w8 x) (w8 y) = w8 (x ||| y) := by
  show IntKind.u8.wrap ((BitVec.ofInt 8 (w8 x) ||| BitVec.ofInt 8 (w8 y)).toNat : Int) = _
  rw [w8_ofInt, w8_ofInt, ← w8_def, w8_self]
theorem w8_and_int (x : BitVec 8) (n : Int) : bits .and .u8 (w8 x) n = w8 (x &&& BitVec.ofInt 8 n) := by
  show IntKind.u8.wrap ((BitVec.ofInt 8 (w8 x) &&& BitVec.ofInt 8 n).toNat : Int) = _
  rw [w8_ofInt, ← w8_def, w8_self]
theorem w8_xor_int (x : BitVec 8) (n : Int) : bits .xor .u8 (w8 x) n = w8 (x ^^^ BitVec.ofInt 8 n) := by
  show IntKind.u8.wrap ((BitVec.ofInt 8 (w8 x) ^^^ BitVec.ofInt 8 n).toNat : Int) = _
  rw [w8_ofInt, ← w8_def, w8_self]
theorem w8_or_int (x : BitVec 8) (n : Int) : bits .or .u8 (w8 x) n = w8 (x ||| BitVec.ofInt 8 n) := by
  show IntKind.u8.wrap ((BitVec.ofInt 8 (w8 x) ||| BitVec.ofInt 8 n).toNat : Int) = _
  rw [w8_ofInt, ← w8_def, w8_self]
theorem w8_nat (n : Nat) : IntKind.u8.wrap (n : Int) = w8 (BitVec.ofNat 8 n) := by
  rw [w8_wrap, w8_def, BitVec.toNat_ofNat]; omega
theorem w8_int (n : Int) : IntKind.u8.wrap n = w8 (BitVec.ofInt 8 n) := by
  rw [w8_wrap, w8_def, BitVec.toNat_ofInt]; omega
theorem w8_lit (n : Nat) (h : n < 256) : (n : Int) = w8 (BitVec.ofNat 8 n) := by
  rw [w8_def, BitVec.toNat_ofNat]; omega
theorem w8_add (x y : BitVec 8) : IntKind.u8.wrap (w8 x + w8 y) = w8 (x + y) := by
  simp only [w8_wrap, w8_def, BitVec.toNat_add]; omega
theorem w8_sub (x y : BitVec 8) : IntKind.u8.wrap (w8 x - w8 y) = w8 (x - y) := by
  have := x.isLt; have := y.isLt
  simp only [w8_wrap, w8_def, BitVec.toNat_sub]; omega
theorem w8_mul (x y : BitVec 8) : IntKind.u8.wrap (w8 x * w8 y) = w8 (x * y) := by
  simp only [w8_wrap, w8_def]
  rw [BitVec.toNat_mul, Int.natCast_emod, Int.natCast_mul]; rfl
theorem w8_mul_nat (x : BitVec 8) (n : Nat) : IntKind.u8.wrap (w8 x * (n : Int)) = w8 (x * BitVec.ofNat 8 n) := by
  simp only [w8_wrap, w8_def]
  rw [BitVec.toNat_mul, BitVec.toNat_ofNat, Nat.mul_mod_mod, Int.natCast_emod, Int.natCast_mul]; rfl
theorem w8_shr (x : BitVec 8) (j : Nat) : w8 x / ((2 ^ j : Nat) : Int) = w8 (x >>> j) := by
  simp only [w8_def]
  rw [BitVec.toNat_ushiftRight, Nat.shiftRight_eq_div_pow]; exact (Int.natCast_ediv _ _).symm
theorem w8_quo (x : BitVec 8) (j : Nat) : IntKind.u8.wrap ((w8 x).tdiv ((2 ^ j : Nat) : Int)) = w8 (x >>> j) := by
  rw [Int.tdiv_eq_ediv_of_nonneg (w8_bd x).1, w8_shr, w8_self]
theorem w32_of_64 (x : BitVec 64) : IntKind.u32.wrap (w64 x) = w32 (x.setWidth 32) := by
  simp only [w32_wrap, w32_def, w64_def, BitVec.toNat_setWidth]; omega
theorem w32_of_64' (x : BitVec 64) : w64 x % (4294967296 : Int) = w32 (x.setWidth 32) := by
  simp only [w32_def, w64_def, BitVec.toNat_setWidth]; omega
theorem w64_of_32 (x : BitVec 32) : IntKind.u64.wrap (w32 x) = w64 (x.setWidth 64) := by
  have := x.isLt
  simp only [w64_wrap, w32_def, w64_def, BitVec.toNat_setWidth]; omega
theorem w8_of_64 (x : BitVec 64) : IntKind.u8.wrap (w64 x) = w8 (x.setWidth 8) := by
  simp only [w8_wrap, w8_def, w64_def, BitVec.toNat_setWidth]; omega
theorem w8_of_64' (x : BitVec 64) : w64 x % (256 : Int) = w8 (x.setWidth 8) := by
  simp only [w8_def, w64_def, BitVec.toNat_setWidth]; omega
theorem w64_of_8 (x : BitVec 8) : IntKind.u64.wrap (w8 x) = w64 (x.setWidth 64) := by
  have := x.isLt
  simp only [w64_wrap, w8_def, w64_def, BitVec.toNat_setWidth]; omega
theorem w8_of_32 (x : BitVec 32) : IntKind.u8.wrap (w32 x) = w8 (x.setWidth 8) := by
  simp only [w8_wrap, w8_def, w32_def, BitVec.toNat_setWidth]; omega
theorem w8_of_32' (x : BitVec 32) : w32 x % (256 : Int) = w8 (x.setWidth 8) := by
  simp only [w8_def, w32_def, BitVec.toNat_setWidth]; omega
theorem w32_of_8 (x : BitVec 8) : IntKind.u32.wrap (w8 x) = w32 (x.setWidth 32) := by
  have := x.isLt
  simp only [w32_wrap, w8_def, w32_def, BitVec.toNat_setWidth]; omega
theorem i64_mask (n : Int) (j : Nat) (hj : j < 63) : bits .and .i64 n ((2 ^ j - 1 : Nat) : Int) = n % ((2 ^ j : Nat) : Int) := by
  have hp : 2 ^ j < 2 ^ 63 := Nat.pow_lt_pow_right (by decide) hj
  have h1 : 0 < 2 ^ j := Nat.two_pow_pos j
  have hd : 2 ^ j ∣ 2 ^ 64 := Nat.pow_dvd_pow 2 (by omega)
  have e63 : (2 : Nat) ^ 63 = 9223372036854775808 := rfl
  have e64 : (2 : Nat) ^ 64 = 18446744073709551616 := rfl
  have hn : (BitVec.ofInt 64 n &&& BitVec.ofInt 64 ((2 ^ j - 1 : Nat) : Int)).toNat = (n % ((2 ^ j : Nat) : Int)).toNat := by
    rw [BitVec.toNat_and, BitVec.ofInt_natCast, BitVec.toNat_ofNat, Nat.mod_eq_of_lt (by omega), Nat.and_two_pow_sub_one_eq_mod, BitVec.toNat_ofInt]
    have h2 : (n % ((2 ^ 64 : Nat) : Int)) % ((2 ^ j : Nat) : Int) = n % ((2 ^ j : Nat) : Int) := Int.emod_emod_of_dvd n (by exact_mod_cast hd)
    have h3 : 0 ≤ n % ((2 ^ 64 : Nat) : Int) := Int.emod_nonneg _ (by omega)
    rw [← h2]
    generalize n % ((2 ^ 64 : Nat) : Int) = m at h3
    obtain ⟨k, rfl⟩ := Int.eq_ofNat_of_zero_le h3
    rfl
  show IntKind.i64.wrap ((BitVec.ofInt 64 n &&& BitVec.ofInt 64 ((2 ^ j - 1 : Nat) : Int)).toNat : Int) = _
  rw [hn]
  have h4 : 0 ≤ n % ((2 ^ j : Nat) : Int) := Int.emod_nonneg _ (by omega)
  have h5 : n % ((2 ^ j : Nat) : Int) < ((2 ^ j : Nat) : Int) := Int.emod_lt_of_pos _ (by omega)
  rw [Int.toNat_of_nonneg h4]
  exact IntWalk.i64_in _ (by omega)
attribute [irreducible] w64 w32 w8
end Go.My
end

section
/- Plain laws on worlds: what a call may have changed ('Ext'), a block known whole ('Blk'), a row of bytes that is read ('Rd'). No program in sight. -/
namespace Go.My
open Go.RowKit

/-- The blocks of S may have changed; every other block that was there, and the streams, are as they were. -/
structure Ext (S : Nat → Prop) (w w' : World) : Prop where
  os : w'.os = w.os
  tape : w'.tape = w.tape
  output : w'.output = w.output
  size : w.heap.size ≤ w'.heap.size
  block : ∀ k, k < w.heap.size → ¬ S k → w'.heap[k]? = w.heap[k]?

def No : Nat → Prop := fun _ => False

theorem Ext.refl (S : Nat → Prop) (w : World) : Ext S w w := ⟨rfl, rfl, rfl, Nat.le_refl _, fun _ _ _ => rfl⟩
theorem Ext.trans {S T U : Nat → Prop} {a b c : World} (h : Ext S a b) (k : Ext T b c) (hs : ∀ i, i < a.heap.size → S i → U i) (ht : ∀ i, i < a.heap.size → T i → U i) : Ext U a c :=
  ⟨k.os.trans h.os, k.tape.trans h.tape, k.output.trans h.output, Nat.le_trans h.size k.size, fun i hi hu =>
    (k.block i (Nat.lt_of_lt_of_le hi h.size) (fun t => hu (ht i hi t))).trans (h.block i hi (fun s => hu (hs i hi s)))⟩
theorem Ext.trans' {S : Nat → Prop} {a b c : World} (h : Ext S a b) (k : Ext S b c) : Ext S a c := h.trans k (fun _ _ s => s) (fun _ _ s => s)
theorem Ext.mono {S T : Nat → Prop} {a b : World} (h : Ext S a b) (hs : ∀ i, i < a.heap.size → S i → T i) : Ext T a b :=
  ⟨h.os, h.tape, h.output, h.size, fun i hi ht => h.block i hi (fun s => ht (hs i hi s))⟩
theorem Ext.drew {S : Nat → Prop} {a b : World} (h : Ext S a b) : Ext S a b.drew := ⟨h.os, h.tape, h.output, h.size, h.block⟩
theorem Ext.drewN {S : Nat → Prop} {a b : World} (h : Ext S a b) (n : Nat) : Ext S a (b.drewN n) := ⟨h.os, h.tape, h.output, h.size, h.block⟩
theorem Ext.alloc {S : Nat → Prop} {a b : World} (h : Ext S a b) (o : Obj) : Ext S a (b.alloc o) :=
  ⟨h.os, h.tape, h.output, by have := h.size; simp; omega, fun i hi hs => by rw [Below.heap_alloc _ _ _ (Nat.lt_of_lt_of_le hi h.size)]; exact h.block i hi hs⟩
theorem Ext.setCell {S : Nat → Prop} {a b : World} (h : Ext S a b) (p : Addr) (u : Value) (hp : p.block < a.heap.size → S p.block) : Ext S a (b.setCell p u) :=
  ⟨h.os, h.tape, h.output, by have := h.size; simp; omega, fun i hi hs => by
    rw [Below.heap_setCell _ _ _ _ (fun e => hs (by subst e; exact hp hi))]; exact h.block i hi hs⟩
theorem Ext.grown {S : Nat → Prop} {a b c : World} {row : Option Nat} (h : Ext S a b) (g : b.grownBy c row) (hr : ∀ k, row = some k → k < a.heap.size → S k) : Ext S a c :=
  ⟨g.os.trans h.os, g.tape.trans h.tape, g.output.trans h.output, Nat.le_trans h.size g.size, fun i hi hs =>
    (g.block i (Nat.lt_of_lt_of_le hi h.size) (fun e => hs (hr i e.symm hi))).trans (h.block i hi hs)⟩
theorem Ext.below {w w' : World} (h : Ext No w w') : Below w.heap.size w w' :=
  ⟨h.os, h.tape, h.output, h.size, fun k hk => h.block k hk (fun x => x)⟩
theorem Ext.of_below {S : Nat → Prop} {w w' : World} (h : Below w.heap.size w w') : Ext S w w' :=
  ⟨h.os, h.tape, h.output, h.size, fun k hk _ => h.block k hk⟩
theorem Ext.cell {S : Nat → Prop} {w w' : World} (h : Ext S w w') {p : Addr} (hp : p.block < w.heap.size) (hs : ¬ S p.block) : w'.cell? p = w.cell? p :=
  World.cell?_of_block (h.block p.block hp hs)
theorem Ext.frozen {S : Nat → Prop} {w w' : World} (h : Ext S w w') {p : Addr} (hp : p.block < w.heap.size) (hs : ¬ S p.block) : w'.frozen? p = w.frozen? p :=
  World.frozen?_of_block (h.block p.block hp hs)
theorem Ext.drewN_self (S : Nat → Prop) (w : World) (n : Nat) : Ext S w (w.drewN n) := (Ext.refl S w).drewN n

/-- Only draws lie between. -/
def Dr (w w' : World) : Prop := ∃ n, w' = w.drewN n
theorem Dr.refl (w : World) : Dr w w := ⟨0, rfl⟩
theorem Dr.mk (w : World) (n : Nat) : Dr w (w.drewN n) := ⟨n, rfl⟩
theorem Dr.trans {a b c : World} (h : Dr a b) (k : Dr b c) : Dr a c := by
  obtain ⟨n, rfl⟩ := h; obtain ⟨m, rfl⟩ := k; exact ⟨n + m, World.drewN_drewN _ _ _⟩
theorem Dr.more {a b : World} (h : Dr a b) (n : Nat) : Dr a (b.drewN n) := h.trans (Dr.mk b n)
theorem Dr.drew {a b : World} (h : Dr a b) : Dr a b.drew := h.trans ⟨1, rfl⟩
theorem Dr.heap {w w' : World} (h : Dr w w') : w'.heap = w.heap := by obtain ⟨n, rfl⟩ := h; rfl
theorem Dr.cell {w w' : World} (h : Dr w w') (a : Addr) : w'.cell? a = w.cell? a := by obtain ⟨n, rfl⟩ := h; rfl
theorem Dr.frozen {w w' : World} (h : Dr w w') (a : Addr) : w'.frozen? a = w.frozen? a := by obtain ⟨n, rfl⟩ := h; rfl
theorem Dr.ext {w w' : World} (h : Dr w w') (S : Nat → Prop) : Ext S w w' := by obtain ⟨n, rfl⟩ := h; exact Ext.drewN_self S w n
theorem quiet_of_Dr {P : Program} {f : FuncId} {args : Array Value} {w : World} {n : Nat} {v : Value}
    (h : Calls P f args (w.drewN n) fun e w' => e = .returned v ∧ Dr (w.drewN n) w') : Calls P f args (w.drewN n) fun e w'' => e = .returned v ∧ ∃ m, w'' = w.drewN m := Calls.quiet_of h
theorem quiet_of_eq {P : Program} {f : FuncId} {args : Array Value} {w : World} {n : Nat} {v : Value}
    (h : Calls P f args (w.drewN n) fun e w' => e = .returned v ∧ w.drewN n = w') : Calls P f args (w.drewN n) fun e w'' => e = .returned v ∧ ∃ m, w'' = w.drewN m :=
  h.mono fun _ _ ⟨he, hm⟩ => ⟨he, n, hm.symm⟩
theorem still_of_eq {P : Program} {f : FuncId} {args : Array Value} {w : World} {v : Value}
    (h : Calls P f args w fun e w' => e = .returned v ∧ w = w') : Calls P f args w fun e w'' => e = .returned v ∧ w'' = w :=
  h.mono fun _ _ ⟨he, hm⟩ => ⟨he, hm.symm⟩

/-- Block b is a row of the cells cs, none of them frozen. -/
def Blk (w : World) (b : Nat) (cs : Array Value) (T : TypeId) : Prop := w.heap[b]? = some (.cells cs T (0, 0))
theorem Blk.lt {w : World} {b : Nat} {cs : Array Value} {T : TypeId} (h : Blk w b cs T) : b < w.heap.size := by
  unfold Blk at h; exact (Array.getElem?_eq_some_iff.1 h).1
theorem Blk.cell {w : World} {b : Nat} {cs : Array Value} {T : TypeId} (h : Blk w b cs T) (i : Nat) : w.cell? ⟨b, i, none⟩ = cs[i]? := by
  unfold Blk at h; simp [World.cell?, h]
theorem Blk.free {w : World} {b : Nat} {cs : Array Value} {T : TypeId} (h : Blk w b cs T) (i : Nat) : w.frozen? ⟨b, i, none⟩ = false := by
  unfold Blk at h; simp [World.frozen?, h]
theorem Blk.ext {w w' : World} {b : Nat} {cs : Array Value} {T : TypeId} {S : Nat → Prop} (h : Blk w b cs T) (e : Ext S w w') (hs : ¬ S b) : Blk w' b cs T := by
  have := h.lt; unfold Blk at *; rw [e.block b this hs]; exact h
theorem Blk.new (w : World) (cs : Array Value) (T : TypeId) : Blk (w.alloc (.cells cs T)) w.heap.size cs T := by
  unfold Blk World.alloc; simp
theorem Blk.alloc {w : World} {b : Nat} {cs : Array Value} {T : TypeId} (h : Blk w b cs T) (o : Obj) : Blk (w.alloc o) b cs T := h.ext ((Ext.refl No w).alloc o) (fun x => x)
theorem Blk.drew {w : World} {b : Nat} {cs : Array Value} {T : TypeId} (h : Blk w b cs T) : Blk w.drew b cs T := h
theorem Blk.drewN {w : World} {b : Nat} {cs : Array Value} {T : TypeId} (h : Blk w b cs T) (n : Nat) : Blk (w.drewN n) b cs T := h
theorem Blk.set {w : World} {b : Nat} {cs : Array Value} {T : TypeId} (h : Blk w b cs T) (i : Nat) (v : Value) : Blk (w.setCell ⟨b, i, none⟩ v) b (cs.setIfInBounds i v) T := by
  have := h.lt; unfold Blk at *; simp only [World.setCell]; rw [Array.getElem?_modify]; simp [h]
theorem Blk.set_other {w : World} {b : Nat} {cs : Array Value} {T : TypeId} (h : Blk w b cs T) (p : Addr) (v : Value) (hp : b ≠ p.block) : Blk (w.setCell p v) b cs T := by
  unfold Blk at *; rw [Below.heap_setCell _ _ _ _ hp]; exact h

theorem Blk.ne_type {w : World} {b b' : Nat} {cs cs' : Array Value} {T T' : TypeId} (h : Blk w b cs T) (h' : Blk w b' cs' T') (ht : T ≠ T') : b ≠ b' := by
  intro e; subst e; unfold Blk at *; rw [h] at h'; simp at h'; exact ht h'.2
/-- an owned row's block bears its type -/
theorem own_ne_type {w : World} {base b : Nat} {e T : TypeId} {size n : Nat} {v : Value} {xs : List Value} {cs : Array Value} (h : w.ownsRow base e size v n xs) (hb : Blk w b cs T) (ht : e ≠ T) : v.ownBlock ≠ some b := by
  intro hk
  rcases h.2 with ⟨rfl, _⟩ | ⟨g, cap, cur, rfl, _, hg, _⟩
  · simp [Value.ownBlock] at hk
  · simp [Value.ownBlock] at hk
    subst hk
    exact Blk.ne_type (w := w) (b := g) hg hb ht rfl
theorem Blk.grown {w w' : World} {b : Nat} {cs : Array Value} {T : TypeId} {row : Option Nat} (h : Blk w b cs T) (g : w.grownBy w' row) (hr : row ≠ some b) : Blk w' b cs T := by
  have := h.lt; unfold Blk at *; rw [g.block b this (fun e => hr e.symm)]; exact h
theorem own_form {w : World} {base : Nat} {e : TypeId} {size n : Nat} {v : Value} {xs : List Value} (h : w.ownsRow base e size v n xs) : ∃ a c, v = .slice a n c := by
  rcases h.2 with ⟨rfl, rfl⟩ | ⟨g, cap, cur, rfl, _⟩
  · exact ⟨none, 0, rfl⟩
  · exact ⟨_, cap, rfl⟩
theorem own_ext {w w' : World} {base : Nat} {e : TypeId} {size n : Nat} {v : Value} {xs : List Value} {S : Nat → Prop} (h : w.ownsRow base e size v n xs) (x : Ext S w w') (hs : ∀ k, v.ownBlock = some k → ¬ S k) : w'.ownsRow base e size v n xs := by
  refine ⟨h.1, ?_⟩
  rcases h.2 with hn | ⟨g, cap, cur, rfl, hb, hg, rest⟩
  · exact .inl hn
  · refine .inr ⟨g, cap, cur, rfl, hb, ?_, rest⟩
    rw [x.block g (Array.getElem?_eq_some_iff.1 hg).1 (hs g rfl)]
    exact hg

/-- A row of values that can be read from address a on. -/
def Rd (w : World) (a : Option Addr) (f : Nat → Value) (n : Nat) : Prop := ∀ i, i < n → ∃ b off, a = some ⟨b, off, none⟩ ∧ w.cell? ⟨b, off + i, none⟩ = some (f i)
theorem Rd.ext {w w' : World} {a : Option Addr} {f : Nat → Value} {n : Nat} {S : Nat → Prop} (h : Rd w a f n) (e : Ext S w w') (hs : ∀ p, a = some p → ¬ S p.block) : Rd w' a f n := by
  intro i hi
  obtain ⟨b, off, rfl, hc⟩ := h i hi
  exact ⟨b, off, rfl, by rw [e.cell (World.block_lt_of_cell? _ _ hc) (hs ⟨b, off, none⟩ rfl)]; exact hc⟩
theorem Rd.ext0 {w w' : World} {a : Option Addr} {f : Nat → Value} {n : Nat} (h : Rd w a f n) (e : Ext No w w') : Rd w' a f n := h.ext e (fun _ _ x => x)
theorem Rd.congr {w : World} {a : Option Addr} {f g : Nat → Value} {n : Nat} (h : Rd w a f n) (e : ∀ i, i < n → f i = g i) : Rd w a g n := by
  intro i hi
  obtain ⟨b, off, rfl, hc⟩ := h i hi
  exact ⟨b, off, rfl, by rw [hc, e i hi]⟩
theorem Rd.le {w : World} {a : Option Addr} {f : Nat → Value} {n m : Nat} (h : Rd w a f n) (hm : m ≤ n) : Rd w a f m := fun i hi => h i (by omega)
theorem Rd.drop {w : World} {b off : Nat} {f : Nat → Value} {n k : Nat} (h : Rd w (some ⟨b, off, none⟩) f n) : Rd w (some ⟨b, off + k, none⟩) (fun i => f (k + i)) (n - k) := by
  intro i hi
  obtain ⟨b', off', h1, hc⟩ := h (k + i) (by omega)
  simp only [Option.some.injEq, Addr.mk.injEq] at h1
  obtain ⟨rfl, rfl, _⟩ := h1
  exact ⟨b, off + k, rfl, by rw [show off + k + i = off + (k + i) by omega]; exact hc⟩
theorem Rd.of_blk {w : World} {b : Nat} {cs : Array Value} {T : TypeId} {f : Nat → Value} {n : Nat} (h : Blk w b cs T) (hf : ∀ i, i < n → cs[i]? = some (f i)) : Rd w (some ⟨b, 0, none⟩) f n := by
  intro i hi
  exact ⟨b, 0, rfl, by rw [h.cell, Nat.zero_add]; exact hf i hi⟩

/-- a byte of a list, as the machine holds it -/
def byt (l : List UInt8) (i : Nat) : Value := .int .u8 ((l.getD i 0).toNat : Int)
theorem byt_getD (l : List UInt8) (i : Nat) : byt l i = .int .u8 ((l.getD i 0).toNat : Int) := rfl
theorem byt_drop (l : List UInt8) (k : Nat) : byt (l.drop k) = fun i => byt l (k + i) := by
  funext i; simp [byt, List.getD_eq_getElem?_getD, List.getElem?_drop]
theorem byt_take (l : List UInt8) (k i : Nat) (h : i < k) : byt (l.take k) i = byt l i := by
  simp [byt, List.getD_eq_getElem?_getD, List.getElem?_take, h]
/-- what is left of a slice behind k elements of one cell each -/
def dropS (a : Option Addr) (k len cap : Nat) : Value := .slice (if cap = k then a else a.map (·.add k)) (len - k) (cap - k)
theorem run_dropS {P : Program} {t e : TypeId} (ht : P.underlying t = some (.slice e)) (hs : ∀ w, (sizeOf e).run P w = .ok 1 w) (a : Option Addr) (kd : IntKind) (k len cap : Nat) (hk : k ≤ len) (w : World) :
    (Instr.sliceAt t (.slice a len cap) (some (.int kd k)) none none).run P w = .ok (dropS a k len cap) w := by
  have hel : P.elem t = e := by simp [Program.elem, ht]
  have ht' : P.underlying t = some (.slice (P.elem t)) := by rw [hel]; exact ht
  rw [run_sliceAt_slice w t _ _ _ _ ht', run_slice_l w t a len cap ht' kd k (by omega) (by omega), hel, hs]
  simp [Result.andThen, sliced, dropS]
/-- the first k of a slice -/
theorem run_takeS {P : Program} {t e : TypeId} (ht : P.underlying t = some (.slice e)) (hs : ∀ w, (sizeOf e).run P w = .ok 1 w) (a : Option Addr) (kd : IntKind) (k len cap : Nat) (hk : k ≤ cap) (w : World) :
    (Instr.sliceAt t (.slice a len cap) none (some (.int kd k)) none).run P w = .ok (.slice a k cap) w := by
  have hel : P.elem t = e := by simp [Program.elem, ht]
  have ht' : P.underlying t = some (.slice (P.elem t)) := by rw [hel]; exact ht
  rw [run_sliceAt_slice w t _ _ _ _ ht', run_slice_h w t a len cap ht' kd k (by omega) (by omega), hel, hs]
  simp [Result.andThen, sliced]
  cases a <;> simp [Addr.add]
attribute [irreducible] dropS

/-- append of one element of one cell onto a row of the call's own -/
theorem wpList_app1 {P : Program} {ops : Array Oper} {rest : List Oper} {o : Oper} {a : Act} {Q : Exit → Act → World → Prop} (w : World) (u : Value) (hgd : o.guard = none) (s x : Operand) (t : TypeId)
    (ho : o.op = .call { callee := .builtin .append, args := #[s, x], argTypes := #[t, t] }) (base : Nat) (e : TypeId) (z : Value) (bytes : Nat)
    (hinfo : (P.info? e).map (fun i => (i.zero, i.size, i.bytes)) = some (some z, 1, bytes)) (ht : P.underlying t = some (.slice e)) (hzs : z.cells.size = 1)
    (v : Value) (n : Nat) (xs : List Value) (hs : a.eval s = v) (hown : w.ownsRow base e 1 v n xs) (ad : Addr) (hx : a.eval x = .slice (some ad) 1 1) (had : w.cell? ad = some u) (h1 : u.oneCell' = true)
    (h63 : n + 1 ≤ 9223372036854775807) (hbytes : (n + 1) * bytes ≤ 140737488355328) (hbase : base ≤ w.heap.size)
    (h : ∀ v' w', w'.ownsRow base e 1 v' (n + 1) (xs ++ [u]) → w.grownBy w' v.ownBlock → wpList P ops Q rest (a.put o.dst v') w') : wpList P ops Q (o :: rest) a w := by
  obtain ⟨i0, hi, hz0, hz1, hz2⟩ := info_parts hinfo
  refine wpList_append_own w hgd s x t ho base e i0 z 1 bytes ht hi hz0 hz1 hz2 hzs (by decide) v n xs hs hown ad 1 1 [u] hx rfl ?_ ?_ (by unfold maxLen; omega) hbytes hbase fun v' w' h2 h3 _ => h v' w' h2 h3
  · intro j y hj
    cases j with
    | zero => simp at hj; subst hj; rw [Addr.add_zero']; exact had
    | succ j => simp at hj
  · intro y hy; simp at hy; subst hy; exact h1
/-- the same, as one step of a region that draws its order -/
theorem step_app1 {P : Program} {ops : Array Oper} {o : Oper} {a : Act} {K : Act → World → Prop} {Q : Exit → Act → World → Prop} {E : Prop} (w : World) (u : Value) (hgd : o.guard = none) (s x : Operand) (t : TypeId)
    (ho : o.op = .call { callee := .builtin .append, args := #[s, x], argTypes := #[t, t] }) (base : Nat) (e : TypeId) (z : Value) (bytes : Nat)
    (hinfo : (P.info? e).map (fun i => (i.zero, i.size, i.bytes)) = some (some z, 1, bytes)) (ht : P.underlying t = some (.slice e)) (hzs : z.cells.size = 1)
    (v : Value) (n : Nat) (xs : List Value) (hs : a.eval s = v) (hown : w.ownsRow base e 1 v n xs) (ad : Addr) (hx : a.eval x = .slice (some ad) 1 1) (had : w.cell? ad = some u) (h1 : u.oneCell' = true)
    (h63 : n + 1 ≤ 9223372036854775807) (hbytes : (n + 1) * bytes ≤ 140737488355328) (hbase : base ≤ w.heap.size)
    (h : ∀ v' w', w'.ownsRow base e 1 v' (n + 1) (xs ++ [u]) → w.grownBy w' v.ownBlock → K (a.put o.dst v') w') : if Region.wanted o (yielded ops a.tmps) = true then Oper.wp P o a w K Q else E := by
  have hw : Region.wanted o (yielded ops a.tmps) = true := by simp [Region.wanted, hgd]
  rw [if_pos hw]
  obtain ⟨i0, hi, hz0, hz1, hz2⟩ := info_parts hinfo
  refine wp_append_own w s x t ho base e i0 z 1 bytes ht hi hz0 hz1 hz2 hzs (by decide) v n xs hs hown ad 1 1 [u] hx rfl ?_ ?_ (by unfold maxLen; omega) hbytes hbase fun v' w' h2 h3 _ => h v' w' h2 h3
  · intro j y hj
    cases j with
    | zero => simp at hj; subst hj; rw [Addr.add_zero']; exact had
    | succ j => simp at hj
  · intro y hy; simp at hy; subst hy; exact h1
theorem le_alloc {w : World} {B : Nat} (h : B ≤ w.heap.size) (o : Obj) : B ≤ (w.alloc o).heap.size := by rw [World.size_alloc]; omega
theorem cell_new {w : World} (u : Value) (T : TypeId) (n : Nat) (hn : n = w.heap.size) : (w.alloc (.cells #[u] T)).cell? ⟨n, 0, none⟩ = some u := by subst hn; rw [(Blk.new w #[u] T).cell]; rfl

/-- The value is a slice of n elements of one cell each, that read as f. -/
def IsRow (w : World) (f : Nat → Value) (n : Nat) (v : Value) : Prop := ∃ a cap, v = .slice a n cap ∧ n ≤ cap ∧ cap ≤ 9223372036854775807 ∧ Rd w a f n
section
variable {w w' : World} {f : Nat → Value} {n : Nat} {v : Value}
theorem IsRow.ext {S : Nat → Prop} (h : IsRow w f n v) (e : Ext S w w') (hs : ∀ k, v.ownBlock = some k → ¬ S k) : IsRow w' f n v := by
  obtain ⟨a, cap, rfl, h1, h2, h3⟩ := h
  exact ⟨a, cap, rfl, h1, h2, h3.ext e (fun p hp => hs _ (by rw [hp]; rfl))⟩
theorem IsRow.extP {S : Nat → Prop} (h : IsRow w f n v) (e : Ext S w w') (hs : 0 < n → ∀ k, v.ownBlock = some k → ¬ S k) : IsRow w' f n v := by
  by_cases hn : 0 < n
  · exact h.ext e (hs hn)
  · obtain ⟨a, cap, rfl, h1, h2, h3⟩ := h
    exact ⟨a, cap, rfl, h1, h2, fun i hi => by omega⟩
theorem IsRow.ext0 (h : IsRow w f n v) (e : Ext No w w') : IsRow w' f n v := h.ext e (fun _ _ x => x)
theorem IsRow.nil (w : World) (f : Nat → Value) : IsRow w f 0 (.slice none 0 0) := ⟨none, 0, rfl, by omega, by omega, fun i hi => by omega⟩
theorem IsRow.take {a : Option Addr} {m cap : Nat} (h : IsRow w f n (.slice a m cap)) (k : Nat) (hk : k ≤ m) : IsRow w f k (.slice a k cap) := by
  obtain ⟨a', cap', he, h1, h2, h3⟩ := h
  simp only [Value.slice.injEq] at he
  obtain ⟨rfl, rfl, rfl⟩ := he
  exact ⟨a, cap, rfl, by omega, h2, h3.le hk⟩
theorem IsRow.drop {b off : Nat} {m cap : Nat} (h : IsRow w f n (.slice (some ⟨b, off, none⟩) m cap)) (k : Nat) (hk : k ≤ m) : IsRow w (fun i => f (k + i)) (m - k) (.slice (some ⟨b, off + k, none⟩) (m - k) (cap - k)) := by
  obtain ⟨a', cap', he, h1, h2, h3⟩ := h
  simp only [Value.slice.injEq] at he
  obtain ⟨rfl, rfl, rfl⟩ := he
  exact ⟨_, _, rfl, by omega, by omega, h3.drop⟩
theorem IsRow.dropS {a : Option Addr} {m cap : Nat} (h : IsRow w f n (.slice a m cap)) (k : Nat) (hk : k ≤ m) : IsRow w (fun i => f (k + i)) (m - k) (dropS a k m cap) := by
  obtain ⟨a', cap', he, h1, h2, h3⟩ := h
  simp only [Value.slice.injEq] at he
  obtain ⟨rfl, rfl, rfl⟩ := he
  unfold My.dropS
  refine ⟨_, _, rfl, by omega, by omega, ?_⟩
  intro i hi
  obtain ⟨b, off, rfl, hc⟩ := h3 (k + i) (by omega)
  rw [if_neg (by omega)]
  refine ⟨b, off + k, ?_, by rw [show off + k + i = off + (k + i) by omega]; exact hc⟩
  cases k <;> simp [Addr.add]
theorem IsRow.len {a : Option Addr} {m cap : Nat} (h : IsRow w f n (.slice a m cap)) : m = n ∧ m ≤ cap ∧ cap ≤ 9223372036854775807 := by
  obtain ⟨a', cap', he, h1, h2, -⟩ := h
  simp only [Value.slice.injEq] at he
  obtain ⟨rfl, rfl, rfl⟩ := he
  exact ⟨rfl, h1, h2⟩
theorem IsRow.get {a : Option Addr} {m cap : Nat} (h : IsRow w f n (.slice a m cap)) (k : Nat) (hk : k < m) :
    ∃ b off, a = some ⟨b, off, none⟩ ∧ w.cell? ⟨b, off + k, none⟩ = some (f k) := by
  obtain ⟨a', cap', he, h1, h2, h3⟩ := h
  simp only [Value.slice.injEq] at he
  obtain ⟨rfl, rfl, rfl⟩ := he
  exact h3 k hk
theorem IsRow.congr {g : Nat → Value} (h : IsRow w f n v) (e : ∀ i, i < n → f i = g i) : IsRow w g n v := by
  obtain ⟨a, cap, rfl, h1, h2, h3⟩ := h
  exact ⟨a, cap, rfl, h1, h2, h3.congr e⟩
theorem IsRow.lt {k : Nat} (h : IsRow w f n v) (hn : 0 < n) (hk : v.ownBlock = some k) : k < w.heap.size := by
  obtain ⟨a, cap, rfl, h1, h2, h3⟩ := h
  obtain ⟨b, off, rfl, hc⟩ := h3 0 hn
  simp only [Value.ownBlock, Option.some.injEq] at hk
  subst hk
  exact World.block_lt_of_cell? _ _ hc
theorem IsRow.of_own {base : Nat} {T : TypeId} {xs : List Value} (h : w.ownsRow base T 1 v n xs) : IsRow w (fun i => xs.getD i undef) n v := by
  obtain ⟨hl, h⟩ := h
  rcases h with ⟨rfl, rfl⟩ | ⟨g, cap, cur, rfl, -, hg, h1, h2, h3, h4⟩
  · exact IsRow.nil w _
  · refine ⟨_, cap, rfl, h1, by unfold maxLen at h2; exact h2, ?_⟩
    refine Rd.of_blk (T := T) (cs := cur) hg ?_
    intro i hi
    have hi2 : i < cur.size := by omega
    rw [← h4]
    simp [List.getD_eq_getElem?_getD, List.getElem?_take, hi, hi2]
end
def int64 (l : List Int) (i : Nat) : Value := .int .i64 (l.getD i 0)
theorem int64_def (l : List Int) (i : Nat) : int64 l i = .int .i64 (l.getD i 0) := rfl

/-- The value is a slice that reads as the bytes l. -/
def IsBytes (w : World) (l : List UInt8) (v : Value) : Prop := IsRow w (byt l) l.length v
theorem IsBytes.ext {w w' : World} {l : List UInt8} {v : Value} {S : Nat → Prop} (h : IsBytes w l v) (e : Ext S w w') (hs : ∀ k, v.ownBlock = some k → ¬ S k) : IsBytes w' l v := IsRow.ext h e hs
theorem IsBytes.take {w : World} {l : List UInt8} {a : Option Addr} {m cap : Nat} (h : IsBytes w l (.slice a m cap)) (k : Nat) (hk : k ≤ m) : IsBytes w (l.take k) (.slice a k cap) := by
  have hm := (IsRow.len h).1
  have hle : (l.take k).length = k := by simp; omega
  unfold IsBytes; rw [hle]
  exact (IsRow.take h k hk).congr (fun i hi => (byt_take l k i hi).symm)
theorem IsBytes.drop {w : World} {l : List UInt8} {b off : Nat} {m cap : Nat} (h : IsBytes w l (.slice (some ⟨b, off, none⟩) m cap)) (k : Nat) (hk : k ≤ m) : IsBytes w (l.drop k) (.slice (some ⟨b, off + k, none⟩) (m - k) (cap - k)) := by
  have hm := (IsRow.len h).1
  have hle : (l.drop k).length = m - k := by simp; omega
  unfold IsBytes; rw [hle, byt_drop]; exact IsRow.drop h k hk
theorem IsBytes.dropS {w : World} {l : List UInt8} {a : Option Addr} {m cap : Nat} (h : IsBytes w l (.slice a m cap)) (k : Nat) (hk : k ≤ m) : IsBytes w (l.drop k) (dropS a k m cap) := by
  have hm := (IsRow.len h).1
  have hle : (l.drop k).length = m - k := by simp; omega
  unfold IsBytes; rw [hle, byt_drop]; exact IsRow.dropS h k hk
theorem IsBytes.len {w : World} {l : List UInt8} {a : Option Addr} {m cap : Nat} (h : IsBytes w l (.slice a m cap)) : m = l.length := (IsRow.len h).1
theorem IsBytes.get {w : World} {l : List UInt8} {a : Option Addr} {m cap : Nat} (h : IsBytes w l (.slice a m cap)) (k : Nat) (hk : k < m) :
    ∃ b off, a = some ⟨b, off, none⟩ ∧ w.cell? ⟨b, off + k, none⟩ = some (.int .u8 ((l.getD k 0).toNat : Int)) := IsRow.get h k hk
theorem IsBytes.ext0 {w w' : World} {l : List UInt8} {v : Value} (h : IsBytes w l v) (e : Ext No w w') : IsBytes w' l v := h.ext e (fun _ _ x => x)
end Go.My
end

section
/- Plain laws: append of a whole row, rows of the call's own bytes, clear. No program in sight. -/
namespace Go.My
open Go.RowKit

theorem addr_add (b off j : Nat) : (⟨b, off, none⟩ : Addr).add j = ⟨b, off + j, none⟩ := by unfold Addr.add; split <;> simp_all
theorem IsRow.news {w : World} {f : Nat → Value} {m c : Nat} {ad : Addr} (h : IsRow w f m (.slice (some ad) m c)) : ∀ j u, ((List.range m).map f)[j]? = some u → w.cell? (ad.add j) = some u := by
  intro j u hj
  have hjm : j < m := by
    rcases Nat.lt_or_ge j m with h | h
    · exact h
    · rw [List.getElem?_eq_none (by simpa using h)] at hj; cases hj
  obtain ⟨b, off, ha, hc⟩ := h.get j hjm
  cases ha
  rw [addr_add, hc]
  simpa [hjm] using hj

/-- append of a whole row onto a row of the call's own -/
theorem wpList_appN {P : Program} {ops : Array Oper} {rest : List Oper} {o : Oper} {a : Act} {Q : Exit → Act → World → Prop} (w : World) (hgd : o.guard = none) (s x : Operand) (t : TypeId)
    (ho : o.op = .call { callee := .builtin .append, args := #[s, x], argTypes := #[t, t] }) (base : Nat) (e : TypeId) (z : Value) (bytes : Nat)
    (hinfo : (P.info? e).map (fun i => (i.zero, i.size, i.bytes)) = some (some z, 1, bytes)) (ht : P.underlying t = some (.slice e)) (hzs : z.cells.size = 1)
    (v : Value) (n : Nat) (xs : List Value) (hs : a.eval s = v) (hown : w.ownsRow base e 1 v n xs) (ad : Option Addr) (m c : Nat) (f : Nat → Value) (hx : a.eval x = .slice ad m c) (hrow : IsRow w f m (.slice ad m c)) (hnone : ad = none → c = 0) (h1 : ∀ i, i < m → (f i).oneCell' = true)
    (h63 : n + m ≤ 9223372036854775807) (hbytes : (n + m) * bytes ≤ 140737488355328) (hbase : base ≤ w.heap.size)
    (h : ∀ v' w', w'.ownsRow base e 1 v' (n + m) (xs ++ (List.range m).map f) → w.grownBy w' v.ownBlock → wpList P ops Q rest (a.put o.dst v') w') : wpList P ops Q (o :: rest) a w := by
  obtain ⟨i0, hi, hz0, hz1, hz2⟩ := info_parts hinfo
  cases ad with
  | none =>
    have hc := hnone rfl
    have hm : m = 0 := by have := hrow.len; omega
    subst hc; subst hm
    refine wpList_append_own_none hgd s x t ho base e i0 1 ht hi v n xs hs hown hx ?_
    refine h v w ?_ ⟨rfl, rfl, rfl, Nat.le_refl _, fun _ _ _ => rfl⟩
    simpa using hown
  | some ad =>
    refine wpList_append_own w hgd s x t ho base e i0 z 1 bytes ht hi hz0 hz1 hz2 hzs (by decide) v n xs hs hown ad m c ((List.range m).map f) hx (by simp) hrow.news ?_ (by unfold maxLen; omega) hbytes hbase fun v' w' h2 h3 _ => h v' w' h2 h3
    intro u hu
    simp only [List.mem_map, List.mem_range] at hu
    obtain ⟨i, hi, rfl⟩ := hu
    exact h1 i hi

/-- the bytes as values -/
def byts (l : List UInt8) : List Value := l.map fun c => .int .u8 (c.toNat : Int)
theorem byts_range (l : List UInt8) : (List.range l.length).map (byt l) = byts l := by
  apply List.ext_getElem
  · simp [byts]
  · intro i h1 h2
    have hi : i < l.length := by simpa using h1
    simp [byts, byt, hi]
theorem byts_getD (l : List UInt8) (i : Nat) (h : i < l.length) : (byts l).getD i undef = byt l i := by
  simp [byts, byt, h]
theorem byts_length (l : List UInt8) : (byts l).length = l.length := by simp [byts]
theorem byts_append (l k : List UInt8) : byts (l ++ k) = byts l ++ byts k := by simp [byts]
theorem byts_nil : byts [] = [] := rfl
theorem byt_one (l : List UInt8) (i : Nat) : (byt l i).oneCell' = true := rfl

/-- a row of bytes of the call's own (blocks from base on), that reads l -/
def OwnB (w : World) (u8 : TypeId) (base : Nat) (l : List UInt8) (v : Value) : Prop := w.ownsRow base u8 1 v l.length (byts l)
theorem OwnB.bytes {w : World} {u8 : TypeId} {base : Nat} {l : List UInt8} {v : Value} (h : OwnB w u8 base l v) : IsBytes w l v :=
  (IsRow.of_own h).congr fun i hi => byts_getD l i hi
theorem OwnB.ext {w w' : World} {u8 : TypeId} {base : Nat} {l : List UInt8} {v : Value} {S : Nat → Prop} (h : OwnB w u8 base l v) (x : Ext S w w') (hs : ∀ k, v.ownBlock = some k → ¬ S k) : OwnB w' u8 base l v := own_ext h x hs
theorem OwnB.lt {w : World} {u8 : TypeId} {base : Nat} {l : List UInt8} {v : Value} (h : OwnB w u8 base l v) : ∀ k, v.ownBlock = some k → base ≤ k ∧ k < w.heap.size := World.ownsRow.lt h
theorem own_le {w : World} {base base' size n : Nat} {e : TypeId} {v : Value} {xs : List Value} (h : w.ownsRow base e size v n xs) (hb : base' ≤ base) : w.ownsRow base' e size v n xs := by
  refine ⟨h.1, ?_⟩
  rcases h.2 with hn | ⟨g, cap, cur, rfl, h1, rest⟩
  · exact .inl hn
  · exact .inr ⟨g, cap, cur, rfl, by omega, rest⟩
theorem own_ne_own {w : World} {base base' size size' n n' : Nat} {e e' : TypeId} {v v' : Value} {xs xs' : List Value} (h : w.ownsRow base e size v n xs) (h' : w.ownsRow base' e' size' v' n' xs') (ht : e ≠ e') : v.ownBlock = none ∨ v.ownBlock ≠ v'.ownBlock := by
  rcases h.2 with ⟨rfl, _⟩ | ⟨g, cap, cur, rfl, -, hg, -⟩
  · exact .inl rfl
  · refine .inr fun hk => ?_
    rcases h'.2 with ⟨rfl, _⟩ | ⟨g', cap', cur', rfl, -, hg', -⟩
    · cases hk
    · have : g = g' := Option.some.inj hk
      subst this
      rw [hg] at hg'; simp at hg'; exact ht hg'.2

/-- a row of rows of bytes, all of the call's own -/
def OwnBs (w : World) (u8 sb : TypeId) (base : Nat) (ls : List (List UInt8)) (v : Value) : Prop :=
  ∃ xs, w.ownsRow base sb 1 v ls.length xs ∧ ∀ i, i < ls.length → OwnB w u8 base (ls.getD i []) (xs.getD i undef)
section
variable {w w' : World} {u8 sb : TypeId} {base : Nat} {ls : List (List UInt8)} {v : Value}
theorem OwnBs.nil (w : World) (u8 sb : TypeId) (base : Nat) : OwnBs w u8 sb base [] (.slice none 0 0) := ⟨[], World.ownsRow_nil w base sb 1, fun i hi => by simp at hi⟩
theorem OwnBs.ext {S : Nat → Prop} (h : OwnBs w u8 sb base ls v) (x : Ext S w w') (hs : ∀ k, base ≤ k → ¬ S k) : OwnBs w' u8 sb base ls v := by
  obtain ⟨xs, h1, h2⟩ := h
  exact ⟨xs, own_ext h1 x (fun k hk => hs k (World.ownsRow.lt h1 k hk).1), fun i hi => (h2 i hi).ext x (fun k hk => hs k ((h2 i hi).lt k hk).1)⟩
theorem OwnBs.le {base' : Nat} (h : OwnBs w u8 sb base ls v) (hb : base' ≤ base) : OwnBs w u8 sb base' ls v := by
  obtain ⟨xs, h1, h2⟩ := h
  exact ⟨xs, own_le h1 hb, fun i hi => own_le (h2 i hi) hb⟩
theorem OwnBs.app {xs : List Value} {v' x : Value} {c : List UInt8} (ht : u8 ≠ sb) (h1 : w.ownsRow base sb 1 v ls.length xs) (h2 : ∀ i, i < ls.length → OwnB w u8 base (ls.getD i []) (xs.getD i undef))
    (hx : OwnB w u8 base c x) (h3 : w'.ownsRow base sb 1 v' (ls.length + 1) (xs ++ [x])) (g : w.grownBy w' v.ownBlock) : OwnBs w' u8 sb base (ls ++ [c]) v' := by
  have hl : xs.length = ls.length := by have := h1.1; omega
  have kept : ∀ {l : List UInt8} {y : Value}, OwnB w u8 base l y → OwnB w' u8 base l y := fun h => World.ownsRow.kept h g (own_ne_own h h1 ht)
  refine ⟨xs ++ [x], by rw [List.length_append]; exact h3, fun i hi => ?_⟩
  rw [List.length_append, List.length_singleton] at hi
  by_cases hi' : i < ls.length
  · have e1 : (ls ++ [c]).getD i [] = ls.getD i [] := by simp [List.getD_eq_getElem?_getD, List.getElem?_append_left hi']
    have e2 : (xs ++ [x]).getD i undef = xs.getD i undef := by simp [List.getD_eq_getElem?_getD, List.getElem?_append_left (show i < xs.length by omega)]
    rw [e1, e2]; exact kept (h2 i hi')
  · have : i = ls.length := by omega
    subst this
    have e1 : (ls ++ [c]).getD ls.length [] = c := by simp [List.getD_eq_getElem?_getD]
    have e2 : (xs ++ [x]).getD ls.length undef = x := by rw [← hl]; simp [List.getD_eq_getElem?_getD]
    rw [e1, e2]; exact kept hx
/-- its elements, read -/
theorem OwnBs.row (h : OwnBs w u8 sb base ls v) : ∃ f, IsRow w f ls.length v ∧ ∀ i, i < ls.length → OwnB w u8 base (ls.getD i []) (f i) := by
  obtain ⟨xs, h1, h2⟩ := h
  exact ⟨_, IsRow.of_own h1, h2⟩
theorem OwnBs.extT {S : Nat → Prop} (h : OwnBs w u8 sb base ls v) (x : Ext S w w') (hs : ∀ k, S k → ∃ cs T, Blk w k cs T ∧ u8 ≠ T ∧ sb ≠ T) : OwnBs w' u8 sb base ls v := by
  obtain ⟨xs, h1, h2⟩ := h
  refine ⟨xs, own_ext h1 x (fun k hk hS => ?_), fun i hi => own_ext (h2 i hi) x (fun k hk hS => ?_)⟩
  · obtain ⟨cs, T, hb, -, ht⟩ := hs k hS
    exact own_ne_type h1 hb ht hk
  · obtain ⟨cs, T, hb, ht, -⟩ := hs k hS
    exact own_ne_type (h2 i hi) hb ht hk
end
/-- The value is a slice of slices that read as the rows of bytes ls. -/
def IsRows (w : World) (ls : List (List UInt8)) (v : Value) : Prop := ∃ f, IsRow w f ls.length v ∧ ∀ i, i < ls.length → IsBytes w (ls.getD i []) (f i)
section
variable {w w' : World} {ls : List (List UInt8)} {v : Value}
theorem OwnBs.rows {u8 sb : TypeId} {base : Nat} (h : OwnBs w u8 sb base ls v) : IsRows w ls v := by
  obtain ⟨f, h1, h2⟩ := h.row
  exact ⟨f, h1, fun i hi => (h2 i hi).bytes⟩
theorem IsRows.ext0 (h : IsRows w ls v) (x : Ext No w w') : IsRows w' ls v := by
  obtain ⟨f, h1, h2⟩ := h
  exact ⟨f, h1.ext0 x, fun i hi => (h2 i hi).ext0 x⟩
theorem IsRows.take {a : Option Addr} {m cap : Nat} (h : IsRows w ls (.slice a m cap)) (k : Nat) (hk : k ≤ m) : IsRows w (ls.take k) (.slice a k cap) := by
  obtain ⟨f, h1, h2⟩ := h
  have hm := h1.len.1
  have hl : (ls.take k).length = k := by rw [List.length_take]; omega
  refine ⟨f, by rw [hl]; exact IsRow.take h1 k hk, fun i hi => ?_⟩
  rw [hl] at hi
  have e : (ls.take k).getD i [] = ls.getD i [] := by simp [List.getD_eq_getElem?_getD, List.getElem?_take, hi]
  rw [e]; exact h2 i (by omega)
theorem IsRows.dropS {a : Option Addr} {m cap : Nat} (h : IsRows w ls (.slice a m cap)) (k : Nat) (hk : k ≤ m) : IsRows w (ls.drop k) (dropS a k m cap) := by
  obtain ⟨f, h1, h2⟩ := h
  have hm := h1.len.1
  have hl : (ls.drop k).length = m - k := by rw [List.length_drop]; omega
  refine ⟨fun i => f (k + i), by rw [hl]; exact IsRow.dropS h1 k hk, fun i hi => ?_⟩
  rw [hl] at hi
  have e : (ls.drop k).getD i [] = ls.getD (k + i) [] := by simp [List.getD_eq_getElem?_getD, List.getElem?_drop]
  rw [e]; exact h2 (k + i) (by omega)
theorem IsRows.len {a : Option Addr} {m cap : Nat} (h : IsRows w ls (.slice a m cap)) : m = ls.length := by
  obtain ⟨f, h1, -⟩ := h; exact h1.len.1
theorem IsRows.get {a : Option Addr} {m cap : Nat} (h : IsRows w ls (.slice a m cap)) (k : Nat) (hk : k < m) : ∃ b off x, a = some ⟨b, off, none⟩ ∧ w.cell? ⟨b, off + k, none⟩ = some x ∧ IsBytes w (ls.getD k []) x := by
  obtain ⟨f, h1, h2⟩ := h
  obtain ⟨b, off, ha, hc⟩ := h1.get k hk
  exact ⟨b, off, f k, ha, hc, h2 k (by have := h1.len.1; omega)⟩
end
/-- the address of what is left behind k elements -/
def dropA (a : Option Addr) (k cap : Nat) : Option Addr := if cap = k then a else a.map (·.add k)
theorem dropS_eq (a : Option Addr) (k len cap : Nat) : dropS a k len cap = .slice (dropA a k cap) (len - k) (cap - k) := by unfold dropS dropA; rfl
theorem dropA_own (a : Option Addr) (k cap n c n' c' : Nat) (j : Nat) (h : (Value.slice (dropA a k cap) n c).ownBlock = some j) : (Value.slice a n' c').ownBlock = some j := by
  unfold dropA at h
  split at h
  · cases a with
    | none => cases h
    | some x => exact h
  · cases a with
    | none => cases h
    | some x =>
      simp only [Option.map_some, Value.ownBlock] at h ⊢
      have hb : (x.add k).block = x.block := by unfold Addr.add; split <;> rfl
      rw [← hb]; exact h
theorem dropA_def (a : Option Addr) (k cap : Nat) : dropA a k cap = if cap = k then a else a.map (fun x => x.add k) := rfl
attribute [irreducible] dropA
def lenOf : Value → Nat
  | .slice _ n _ => n
  | _ => 0
/-- a nil slice has no capacity -/
def NilOk (v : Value) : Prop := ∀ n c, v = .slice none n c → c = 0
theorem NilOk.some (a : Addr) (n c : Nat) : NilOk (.slice (some a) n c) := fun _ _ h => by simp at h
theorem NilOk.own {w : World} {base size n : Nat} {e : TypeId} {v : Value} {xs : List Value} (h : w.ownsRow base e size v n xs) : NilOk v := by
  rcases h.2 with ⟨rfl, _⟩ | ⟨g, cap, cur, rfl, _⟩
  · intro n c h; simp at h; exact h.2.symm
  · exact NilOk.some _ _ _
theorem NilOk.none {a : Option Addr} {n c : Nat} (h : NilOk (.slice a n c)) : a = none → c = 0 := by rintro rfl; exact h _ _ rfl
/-- rows of rows, none of them an odd nil -/
def IsRowsN (w : World) (ls : List (List UInt8)) (v : Value) : Prop := ∃ f, IsRow w f ls.length v ∧ ∀ i, i < ls.length → IsBytes w (ls.getD i []) (f i) ∧ NilOk (f i)
section
variable {w w' : World} {ls : List (List UInt8)} {v : Value}
theorem OwnBs.rowsN {u8 sb : TypeId} {base : Nat} (h : OwnBs w u8 sb base ls v) : IsRowsN w ls v := by
  obtain ⟨f, h1, h2⟩ := h.row
  exact ⟨f, h1, fun i hi => ⟨(h2 i hi).bytes, NilOk.own (h2 i hi)⟩⟩
theorem IsRowsN.rows (h : IsRowsN w ls v) : IsRows w ls v := by
  obtain ⟨f, h1, h2⟩ := h
  exact ⟨f, h1, fun i hi => (h2 i hi).1⟩
theorem IsRowsN.ext0 (h : IsRowsN w ls v) (x : Ext No w w') : IsRowsN w' ls v := by
  obtain ⟨f, h1, h2⟩ := h
  exact ⟨f, h1.ext0 x, fun i hi => ⟨(h2 i hi).1.ext0 x, (h2 i hi).2⟩⟩
theorem IsRowsN.take {a : Option Addr} {m cap : Nat} (h : IsRowsN w ls (.slice a m cap)) (k : Nat) (hk : k ≤ m) : IsRowsN w (ls.take k) (.slice a k cap) := by
  obtain ⟨f, h1, h2⟩ := h
  have hm := h1.len.1
  have hl : (ls.take k).length = k := by rw [List.length_take]; omega
  refine ⟨f, by rw [hl]; exact IsRow.take h1 k hk, fun i hi => ?_⟩
  rw [hl] at hi
  have e : (ls.take k).getD i [] = ls.getD i [] := by simp [List.getD_eq_getElem?_getD, List.getElem?_take, hi]
  rw [e]; exact h2 i (by omega)
theorem IsRowsN.len {a : Option Addr} {m cap : Nat} (h : IsRowsN w ls (.slice a m cap)) : m = ls.length := by
  obtain ⟨f, h1, -⟩ := h; exact h1.len.1
theorem IsRowsN.get {a : Option Addr} {m cap : Nat} (h : IsRowsN w ls (.slice a m cap)) (k : Nat) (hk : k < m) : ∃ b off x, a = some ⟨b, off, none⟩ ∧ w.cell? ⟨b, off + k, none⟩ = some x ∧ IsBytes w (ls.getD k []) x ∧ NilOk x := by
  obtain ⟨f, h1, h2⟩ := h
  obtain ⟨b, off, ha, hc⟩ := h1.get k hk
  exact ⟨b, off, f k, ha, hc, h2 k (by have := h1.len.1; omega)⟩
end
end Go.My
end

section
/- Contracts of guard.Must and guard.Run, for whatever function is run. -/
namespace Go.Proofs.YtajilboimjcfjaaDoor
open Go.RowKit Go.My

/-- an error's value as it is thrown -/
def errv (n : Int) : Value := .iface 23 (.int .i64 n)
def thrown (n : Int) : List PanicEntry := [{ v := errv n, recovered := false }]

theorem mkf (fn : Fn) (first cap : Array Value) (w : World) : (Instr.makeFunc fn first cap).run Tryd.prog w = .ok (.func fn first cap) w := rfl

set_option maxRecDepth 100000 in
set_option maxHeartbeats 400000 in
theorem must_ok (w : World) : Calls Tryd.prog 29 #[.int .i64 0] w fun e w' => e = .returned (.tuple #[]) ∧ w = w' := by
  go_enter Tryd.func29, Tryd.ntmps29
  go_wp2
  go_end0
  exact ⟨rfl, rfl⟩
set_option maxRecDepth 100000 in
set_option maxHeartbeats 400000 in
theorem must_no (n : Int) (hn : n ≠ 0) (w : World) : Calls Tryd.prog 29 #[.int .i64 n] w fun e w' => e = .panicked (thrown n) ∧ w = w' := by
  have h : (n != 0) = true := by simpa using hn
  go_enter Tryd.func29, Tryd.ntmps29
  go_wp2
  exact ⟨rfl, rfl, rfl⟩

set_option maxRecDepth 100000 in
set_option maxHeartbeats 400000 in
theorem run1_idle (p : Addr) (w : World) :
    CallsD Tryd.prog 37 #[.pointer (some p)] .returning w fun e u' w' => e = .returned (.tuple #[]) ∧ u' = .returning ∧ w' = w := by
  refine callsD_of_wpS Tryd.func37 rfl fun c₀ cs hu => ?_
  apply wpS_seq
  apply wpS_region
  simp [wpOpsS, go_sem, recoverD, hu, Tryd.ntmps37, Exit.thenS]
  refine wpS_of_wp ?_
  go_wp2_with fail
  exact ⟨rfl, .returning, by cases c₀; simp_all, .tuple #[], by simp [results, Tryd.results37], rfl, rfl, rfl⟩

theorem ta_yes (v : Value) (w : World) : (Instr.typeAssert (.iface 23 v) 20 23 true).run Tryd.prog w = .ok (.tuple #[v, .bool true]) w := by kernel_rfl

set_option maxRecDepth 100000 in
set_option maxHeartbeats 400000 in
theorem run1_error (p : Addr) (n : Int) (older : List PanicEntry) (x : Value) (w : World) (hc : w.cell? p = some x) (hz : w.frozen? p = false) :
    CallsD Tryd.prog 37 #[.pointer (some p)] (.panicking ({ v := errv n, recovered := false } :: older)) w fun e u' w' =>
      e = .returned (.tuple #[]) ∧ u' = .panicking ({ v := errv n, recovered := true } :: older) ∧ w' = w.setCell p (.int .i64 n) := by
  refine callsD_of_wpS Tryd.func37 rfl fun c₀ cs hu => ?_
  apply wpS_seq
  apply wpS_region
  unfold errv at hu
  simp [wpOpsS, go_sem, recoverD, hu, Tryd.ntmps37, Exit.thenS]
  refine wpS_of_wp ?_
  have hta := ta_yes
  go_wp2_with fail
  exact ⟨rfl, .panicking ({ v := errv n, recovered := true } :: older), by cases c₀; simp_all [errv], .tuple #[], by simp [results, Tryd.results37], rfl, rfl, rfl⟩

/-- what a function that is run comes to: it returns (n is 0), or throws the error n; the runner's own cell is untouched; Q tells the rest -/
def RunBody (h : Nat) (Q : Int → World → Prop) (e : Ending) (w1 : World) : Prop :=
  ∃ n : Int, ((e = .returned (.tuple #[]) ∧ n = 0) ∨ (e = .panicked (thrown n) ∧ n ≠ 0)) ∧ Blk w1 h #[.int .i64 0] 23 ∧ Q n w1
def RunPost (h : Nat) (Q : Int → World → Prop) (e : Ending) (w' : World) : Prop :=
  ∃ (n : Int) (w1 : World), e = .returned (.int .i64 n) ∧ Blk w1 h #[.int .i64 0] 23 ∧ Q n w1 ∧ w' = w1.setCell ⟨h, 0, none⟩ (.int .i64 n)

set_option maxRecDepth 100000 in
set_option maxHeartbeats 400000 in
theorem run_some (K : FuncId) (cap : Array Value) (w : World) (Q : Int → World → Prop) (hK : ∀ w, (callFunc K cap).run Tryd.prog w = .ok (.enter K cap) w)
    (hb : Calls Tryd.prog K cap (w.alloc (.cells #[.int .i64 0] 23)) (RunBody w.heap.size Q)) :
    Calls Tryd.prog 24 #[.func (.func K) #[] cap] w (RunPost w.heap.size Q) := by
  have hmf := mkf
  have hnf : ∀ w : World, (binOp BinOp.eql 1 (Value.func (Fn.func K) #[] cap) Value.nilFunc).run Tryd.prog w = .ok (.bool false) w := fun w => by kernel_rfl
  have HB := Lib.hid hb; clear hb
  go_enter_defers Tryd.func24, Tryd.ntmps24
  go_wp2_with fail
  refine HB.out.mono ?_
  rintro e w1 ⟨n, he, hblk, hq⟩
  have hc : w1.cell? ⟨w.heap.size, 0, none⟩ = some (.int .i64 0) := by rw [hblk.cell]; rfl
  have hz := hblk.free 0
  have HBK := Lib.hid hblk; have HQ := Lib.hid hq; clear hblk hq
  generalize w.heap.size = h at *
  rcases he with ⟨rfl, rfl⟩ | ⟨rfl, -⟩
  · go_wp2_with fail
    refine leaves_cons (f := 37) (args := #[.pointer (some ⟨h, 0, none⟩)]) (by simp) (by simp [go_sem]) ?_
    refine (run1_idle _ _).mono ?_
    rintro e u' w'' ⟨rfl, rfl, rfl⟩
    refine ⟨.int .i64 0, ?_, 0, w1, rfl, HBK.out, HQ.out, rfl⟩
    simp [results, Tryd.results24, go_sem, hc]
  · go_wp2_with fail
    refine leaves_cons (f := 37) (args := #[.pointer (some ⟨h, 0, none⟩)]) (by simp) (by simp [go_sem]) ?_
    refine (run1_error _ n [] _ _ hc hz).mono ?_
    rintro e u' w'' ⟨rfl, rfl, rfl⟩
    refine ⟨.int .i64 n, ?_, n, w1, rfl, HBK.out, HQ.out, rfl⟩
    simp [results, Tryd.results24, go_sem, hc]

/-- the same, told by what may have changed -/
def Ran (S : Nat → Prop) (w : World) (Q : Int → World → Prop) (e : Ending) (w' : World) : Prop := ∃ n : Int, e = .returned (.int .i64 n) ∧ Ext S w w' ∧ Q n w'
def Body (S : Nat → Prop) (w : World) (Q : Int → World → Prop) (e : Ending) (w1 : World) : Prop :=
  ∃ n : Int, ((e = .returned (.tuple #[]) ∧ n = 0) ∨ (e = .panicked (thrown n) ∧ n ≠ 0)) ∧ Ext S w w1 ∧ Q n w1
theorem run_ext (S : Nat → Prop) (K : FuncId) (cap : Array Value) (w : World) (Q : Int → World → Prop) (hK : ∀ w, (callFunc K cap).run Tryd.prog w = .ok (.enter K cap) w)
    (hS : ¬ S w.heap.size) (hQ : ∀ n w1, Q n w1 → Q n (w1.setCell ⟨w.heap.size, 0, none⟩ (.int .i64 n)))
    (hb : Calls Tryd.prog K cap (w.alloc (.cells #[.int .i64 0] 23)) (Body S (w.alloc (.cells #[.int .i64 0] 23)) Q)) :
    Calls Tryd.prog 24 #[.func (.func K) #[] cap] w (Ran S w Q) := by
  refine (run_some K cap w (fun n w1 => Ext S (w.alloc (.cells #[.int .i64 0] 23)) w1 ∧ Q n w1) hK (hb.mono ?_)).mono ?_
  · rintro e w1 ⟨n, he, hx, hq⟩
    exact ⟨n, he, (Blk.new w _ _).ext hx hS, hx, hq⟩
  · rintro e w' ⟨n, w1, rfl, hb, ⟨hx, hq⟩, rfl⟩
    refine ⟨n, rfl, ?_, hQ n w1 hq⟩
    exact (((Ext.refl S w).alloc (.cells #[.int .i64 0] 23)).trans' hx).setCell _ _ (fun h => absurd h (Nat.lt_irrefl _))

set_option maxRecDepth 100000 in
set_option maxHeartbeats 400000 in
theorem run_nil (w : World) :
    Calls Tryd.prog 24 #[.nilFunc] w fun e w' => e = .returned (.int .i64 0) ∧ Ext No w w' := by
  have hnf : ∀ w : World, (binOp BinOp.eql 1 Value.nilFunc Value.nilFunc).run Tryd.prog w = .ok (.bool true) w := fun w => by kernel_rfl
  go_enter_defers Tryd.func24, Tryd.ntmps24
  go_wp2_with fail
  refine ⟨.int .i64 0, ?_, rfl, ((Ext.refl No w).alloc _)⟩
  simp [results, Tryd.results24, go_sem]

end Go.Proofs.YtajilboimjcfjaaDoor
end

section
/- Strings as lists of bytes. -/
namespace Go.Proofs.YtajilboimjcfjaaDoor
open Go.RowKit Go.My

/-- a string of bytes -/
def strB (l : List UInt8) : ByteArray := ⟨l.toArray⟩
theorem strB_data (l : List UInt8) : (strB l).data.toList = l := rfl
theorem strB_inj (l k : List UInt8) : strB l = strB k ↔ l = k := by
  constructor
  · intro h; have := congrArg (fun s => s.data.toList) h; simpa [strB] using this
  · rintro rfl; rfl
theorem strB_list (l : List UInt8) : (strB l).toList = l := ByteArray.toList_eq _
theorem strB_eq (l k : List UInt8) : ((strB l).toList == (strB k).toList) = decide (l = k) := by
  rw [strB_list, strB_list, Bool.eq_iff_iff, beq_iff_eq, decide_eq_true_eq]
theorem strB_size (l : List UInt8) : (strB l).size = l.length := by simp [strB, ByteArray.size]
theorem strB_of (s : ByteArray) : s = strB s.data.toList := rfl
def strV (ns : List (List UInt8)) (i : Nat) : Value := .string (strB (ns.getD i []))
def IsStrs (w : World) (ns : List (List UInt8)) (v : Value) : Prop := IsRow w (strV ns) ns.length v
theorem IsStrs.ext0 {w w' : World} {ns : List (List UInt8)} {v : Value} (h : IsStrs w ns v) (x : Ext No w w') : IsStrs w' ns v := IsRow.ext0 h x
def strVs (ns : List (List UInt8)) : List Value := ns.map fun s => .string (strB s)
theorem strs_own {w : World} {B : Nat} {T : TypeId} {ns : List (List UInt8)} {v : Value} (h : w.ownsRow B T 1 v ns.length (strVs ns)) : IsStrs w ns v :=
  (IsRow.of_own h).congr (fun i hi => by unfold strVs strV; simp [List.getD_eq_getElem?_getD, hi])
theorem str_info : (Tryd.prog.info? 9).map (fun i => (i.zero, i.size, i.bytes)) = some (some (.string ⟨#[]⟩), 1, 16) := by kernel_rfl

end Go.Proofs.YtajilboimjcfjaaDoor
end

section
/- Contracts on strings: the search for a byte (IndexByte, Index at one byte), letter. -/
namespace Go.Proofs.YtajilboimjcfjaaDoor
open Go.RowKit Go.My

set_option maxHeartbeats 1000000 in
set_option maxRecDepth 100000 in
theorem indexByteL_any (l : List UInt8) (c : UInt8) (w : World) :
    Calls Tryd.prog 59 #[.string (strB l), .int .u8 (c.toNat : Int)] w fun e w' => e = .returned (.int .i64 (Lib.indexByte l c)) ∧ w = w' := by
  go_enter Tryd.func59, Tryd.ntmps59
  go_wp2_with fail
  rw [run_callFunc_extern Tryd.func62 (by kernel_rfl) (by kernel_rfl) (by kernel_rfl) (e := Extern.BytealgIndexByte.indexByte) (by kernel_rfl), Lib.run_indexByteString]
  simp only [Result.andThen]
  rw [Oper.upon_value]
  have hc : (c.toNat : Int).toNat.toUInt8 = c := by simp
  rw [hc, strB_data]
  go_wp2_with fail
  go_ret
  exact ⟨rfl, rfl⟩
set_option maxRecDepth 100000 in
theorem indexByteS_any (l : List UInt8) (c : UInt8) (w : World) :
    Calls Tryd.prog 51 #[.string (strB l), .int .u8 (c.toNat : Int)] w fun e w' => e = .returned (.int .i64 (Lib.indexByte l c)) ∧ w = w' := by
  go_enter Tryd.func51, Tryd.ntmps51
  go_wp2_with fail
  refine (indexByteL_any l c w).mono ?_
  rintro e w' ⟨rfl, rfl⟩
  dsimp only
  go_wp2_with fail
  go_ret
  exact ⟨rfl, rfl⟩
set_option maxRecDepth 100000 in
set_option maxHeartbeats 1000000 in
theorem indexL_sep (l : List UInt8) (w : World) :
    Calls Tryd.prog 61 #[.string (strB l), .string ⟨#[47]⟩] w fun e w' => e = .returned (.int .i64 (Lib.indexByte l 47)) ∧ w = w' := by
  by_cases hl : l = [47]
  · subst hl
    have hs : (([47] : List UInt8) == (strB [47]).toList) = true := by rw [strB_list]; rfl
    go_enter Tryd.func61, Tryd.ntmps61
    go_wp2_with fail
    go_ret
    exact ⟨rfl, rfl⟩
  · have hs : (([47] : List UInt8) == (strB l).toList) = false := by rw [strB_list]; rw [beq_eq_false_iff_ne]; exact fun h => hl h.symm
    go_enter Tryd.func61, Tryd.ntmps61
    go_wp2_with fail
    refine (indexByteL_any l 47 w).mono ?_
    rintro e w' ⟨rfl, rfl⟩
    dsimp only
    go_wp2_with fail
    go_ret
    exact ⟨rfl, rfl⟩
set_option maxRecDepth 100000 in
theorem index_sep (l : List UInt8) (w : World) :
    Calls Tryd.prog 56 #[.string (strB l), .string ⟨#[47]⟩] w fun e w' => e = .returned (.int .i64 (Lib.indexByte l 47)) ∧ w = w' := by
  go_enter Tryd.func56, Tryd.ntmps56
  go_wp2_with fail
  refine (indexL_sep l w).mono ?_
  rintro e w' ⟨rfl, rfl⟩
  dsimp only
  go_wp2_with fail
  go_ret
  exact ⟨rfl, rfl⟩

/-- a letter of a part -/
def letterB (c : UInt8) : Bool := (decide (97 ≤ c.toNat) && decide (c.toNat ≤ 122)) || (decide (48 ≤ c.toNat) && decide (c.toNat ≤ 57)) || decide (c.toNat = 46) || decide (c.toNat = 95) || decide (c.toNat = 45)
theorem sep_index (c : UInt8) : (decide (0 ≤ Lib.indexByte [46, 95, 45] c)) = (decide (c.toNat = 46) || decide (c.toNat = 95) || decide (c.toNat = 45)) := by
  have h : ∀ d : UInt8, (d == c) = decide (c.toNat = d.toNat) := fun d => by
    rw [Bool.eq_iff_iff, beq_iff_eq, decide_eq_true_eq]
    exact ⟨fun h => by rw [h], fun h => (UInt8.toNat_inj.1 h).symm⟩
  unfold Lib.indexByte Lib.indexByte Lib.indexByte Lib.indexByte
  rw [h 46, h 95, h 45]
  rw [show (46 : UInt8).toNat = 46 from rfl, show (95 : UInt8).toNat = 95 from rfl, show (45 : UInt8).toNat = 45 from rfl]
  by_cases h1 : c.toNat = 46
  · simp [h1]
  · by_cases h2 : c.toNat = 95
    · simp [h2]
    · by_cases h3 : c.toNat = 45
      · simp [h3]
      · simp [h1, h2, h3]
set_option maxHeartbeats 1000000 in
set_option maxRecDepth 100000 in
theorem letter_any (c : UInt8) (w : World) :
    Calls Tryd.prog 43 #[.int .u8 (c.toNat : Int)] w fun e w' => e = .returned (.bool (letterB c)) ∧ w = w' := by
  by_cases h1 : 97 ≤ c.toNat ∧ c.toNat ≤ 122
  · have a1 : (97 : Int) ≤ c.toNat := by omega
    have a2 : (c.toNat : Int) ≤ 122 := by omega
    go_enter Tryd.func43, Tryd.ntmps43
    go_wp2_with fail
    go_ret
    refine ⟨?_, rfl⟩
    unfold letterB; simp [h1.1, h1.2]
  · by_cases h2 : 48 ≤ c.toNat ∧ c.toNat ≤ 57
    · have a1 : decide ((97 : Int) ≤ c.toNat) = false := by simp; omega
      have a2 : (48 : Int) ≤ c.toNat := by omega
      have a3 : (c.toNat : Int) ≤ 57 := by omega
      go_enter Tryd.func43, Tryd.ntmps43
      go_wp2_with fail
      go_ret
      refine ⟨?_, rfl⟩
      unfold letterB; simp [h2.1, h2.2]
    · have hf1 : (decide ((97 : Int) ≤ c.toNat) = true ∧ decide ((c.toNat : Int) ≤ 122) = false) ∨ decide ((97 : Int) ≤ c.toNat) = false := by simp; omega
      have hf2 : (decide ((48 : Int) ≤ c.toNat) = true ∧ decide ((c.toNat : Int) ≤ 57) = false) ∨ decide ((48 : Int) ≤ c.toNat) = false := by simp; omega
      have hi := sep_index c
      have hlet : letterB c = decide (0 ≤ Lib.indexByte [46, 95, 45] c) := by
        rw [hi]; unfold letterB
        have e1 : (decide (97 ≤ c.toNat) && decide (c.toNat ≤ 122)) = false := by simp; omega
        have e2 : (decide (48 ≤ c.toNat) && decide (c.toNat ≤ 57)) = false := by simp; omega
        rw [e1, e2]; simp
      have HL := Lib.hid hlet
      clear hi hlet
      have HX := indexByteS_any [46, 95, 45] c w
      have hst : strB [46, 95, 45] = ⟨#[46, 95, 45]⟩ := rfl
      rw [hst] at HX
      have HX := Lib.hid HX
      clear hst h1 h2
      rcases hf1 with ⟨f1, f2⟩ | f1
      all_goals rcases hf2 with ⟨f3, f4⟩ | f3
      all_goals
        go_enter Tryd.func43, Tryd.ntmps43
        go_wp2_with fail
        refine HX.out.mono ?_
        rintro e w' ⟨rfl, rfl⟩
        dsimp only
        go_wp2_with fail
        go_ret
        refine ⟨?_, rfl⟩
        rw [HL.out]
        rfl

/-- a part of a path -/
def partB (s : List UInt8) : Bool := !(decide (s = [])) && !(decide (s = [46])) && !(decide (s = [46, 46])) && decide (s.length ≤ 40) && s.all letterB
theorem list_beq {l k : List UInt8} (h : ¬ l = k) : (l == k) = false := by rw [beq_eq_false_iff_ne]; exact h
theorem strB_get (s : List UInt8) (k : Nat) : ∀ h : k < (strB s).size, (strB s)[k]'h = s.getD k 0 := fun h => by
  have h2 : k < s.length := by rw [strB_size] at h; exact h
  show (s.toArray)[k]'(by simpa using h2) = _
  simp [List.getD_eq_getElem?_getD, List.getElem?_eq_getElem h2]
set_option maxHeartbeats 2000000 in
set_option maxRecDepth 100000 in
theorem part_any (s : List UInt8) (w : World) (hs : s.length ≤ 9223372036854775807) :
    Calls Tryd.prog 33 #[.string (strB s)] w fun e w' => e = .returned (.bool (partB s)) ∧ Dr w w' := by
  have hz := strB_size s
  have hl := strB_list s
  by_cases h0 : s = []
  · subst h0
    go_enter Tryd.func33, Tryd.ntmps33
    go_wp2_with fail
    go_ret
    exact ⟨rfl, Dr.refl _⟩
  have b0 : ((strB s).toList == []) = false := by rw [hl]; exact list_beq h0
  by_cases h1 : s = [46]
  · subst h1
    go_enter Tryd.func33, Tryd.ntmps33
    go_wp2_with fail
    go_ret
    exact ⟨rfl, Dr.refl _⟩
  have b1 : ((strB s).toList == [46]) = false := by rw [hl]; exact list_beq h1
  by_cases h2 : s = [46, 46]
  · subst h2
    go_enter Tryd.func33, Tryd.ntmps33
    go_wp2_with fail
    go_ret
    exact ⟨rfl, Dr.refl _⟩
  have b2 : ((strB s).toList == [46, 46]) = false := by rw [hl]; exact list_beq h2
  have hpart : partB s = (decide (s.length ≤ 40) && s.all letterB) := by unfold partB; simp [h0, h1, h2]
  have HP := Lib.hid hpart
  obtain ⟨n, hn⟩ : ∃ n, n = s.length := ⟨_, rfl⟩
  rw [← hn] at hz hs
  have HN := Lib.hid hn; have HLs := Lib.hid hl
  clear hpart h0 h1 h2 hn hl
  by_cases h40 : 40 < n
  · have h40i : (40 : Int) < n := by omega
    go_enter Tryd.func33, Tryd.ntmps33
    go_wp2_with fail
    go_ret
    refine ⟨?_, Dr.refl _⟩
    rw [HP.out, ← HN.out]
    have : decide (n ≤ 40) = false := by simp; omega
    rw [this]; rfl
  have h40i : decide ((40 : Int) < n) = false := by simp; omega
  go_enter Tryd.func33, Tryd.ntmps33
  go_wp2_with fail
  go_loopw [21] (fun i wr => ∃ k : Nat, i = .int .i64 k ∧ k ≤ n ∧ wr = w ∧ (s.take k).all letterB = true) (fun i _ => n - (intOf i).toNat)
  case atStart => exact ⟨0, rfl, Nat.zero_le _, rfl, rfl⟩
  case round =>
    obtain ⟨k, rfl, hk, rfl, hall⟩ := hrel
    have HALL := Lib.hid hall; clear hall
    by_cases hlt : k < n
    · have hltI : (k : Int) < n := by omega
      have hgc := strB_get s k
      go_wp2_with fail
      refine (letter_any _ wr).mono ?_
      rintro e w' ⟨rfl, rfl⟩
      rw [← List.getD_eq_getElem?_getD]
      have htk : (s.take (k + 1)).all letterB = ((s.take k).all letterB && letterB (s.getD k 0)) := by
        rw [List.take_add_one, List.all_append, List.getElem?_eq_getElem (by rw [← HN.out]; exact hlt)]
        simp [List.getD_eq_getElem?_getD, List.getElem?_eq_getElem (show k < s.length by rw [← HN.out]; exact hlt)]
      have hno : letterB (s.getD k 0) = false → s.all letterB = false := fun h => by
        rw [List.all_eq_false]
        refine ⟨s.getD k 0, ?_, by rw [h]; decide⟩
        rw [List.getD_eq_getElem?_getD, List.getElem?_eq_getElem (show k < s.length by rw [← HN.out]; exact hlt)]
        exact List.getElem_mem _
      generalize letterB (s.getD k 0) = t at *
      have HTK := Lib.hid htk; have HNO := Lib.hid hno
      clear htk hno hgc
      dsimp only
      cases t
      · go_wp2_with fail
        go_ret
        refine ⟨?_, Dr.refl _⟩
        rw [HP.out, HNO.out trivial, Bool.and_false]
        rfl
      · go_wp2_with fail
        go_roundw
        case rel => exact ⟨k + 1, by go_num, by omega, by trivial, by rw [HTK.out, HALL.out]; rfl⟩
        case measure => simp [intOf]; omega
    · have hkn : n = k := by omega
      subst hkn
      go_wp2_with fail
      go_ret
      refine ⟨?_, Dr.refl _⟩
      rw [HP.out, ← HN.out]
      have h := HALL.out
      rw [List.take_of_length_le (by rw [← HN.out]; exact Nat.le_refl _)] at h
      have h2 : decide (n ≤ 40) = true := by simp; omega
      rw [h2, h]; rfl

end Go.Proofs.YtajilboimjcfjaaDoor
end

section
/- Contracts on strings: the last separator, prefixes; path.Parent, Base, Join, Within. -/
namespace Go.Proofs.YtajilboimjcfjaaDoor
open Go.RowKit Go.My

def lastN (l : List UInt8) : Nat → Int
  | 0 => -1
  | k + 1 => if l.getD k 0 = 47 then k else lastN l k
/-- the last separator's place, or -1 -/
def lastI (l : List UInt8) : Int := lastN l l.length
theorem lastN_bd (l : List UInt8) : ∀ k, -1 ≤ lastN l k ∧ lastN l k < k := by
  intro k
  induction k with
  | zero => exact ⟨Int.le_refl _, by show (-1 : Int) < 0; decide⟩
  | succ k ih =>
    rw [lastN]
    split
    · omega
    · omega
theorem lastI_bd (l : List UInt8) : -1 ≤ lastI l ∧ lastI l < l.length := lastN_bd l l.length

set_option maxHeartbeats 1000000 in
set_option maxRecDepth 100000 in
theorem lastByte_any (l : List UInt8) (w : World) (hs : l.length ≤ 9223372036854775807) :
    Calls Tryd.prog 44 #[.string (strB l), .int .u8 47] w fun e w' => e = .returned (.int .i64 (lastI l)) ∧ w = w' := by
  have hz := strB_size l
  obtain ⟨n, hn⟩ : ∃ n, n = l.length := ⟨_, rfl⟩
  rw [← hn] at hz hs
  have hla : lastI l = lastN l n := by rw [hn]; rfl
  have HN := Lib.hid hn; have HLA := Lib.hid hla
  clear hn hla
  go_enter Tryd.func44, Tryd.ntmps44
  go_wp2_with fail
  go_loopw [5] (fun i wr => ∃ k : Nat, i = .int .i64 ((k : Int) - 1) ∧ k ≤ n ∧ wr = w ∧ lastI l = lastN l k) (fun i _ => ((intOf i) + 1).toNat)
  case atStart => exact ⟨n, rfl, Nat.le_refl _, rfl, HLA.out⟩
  case round =>
    obtain ⟨k, rfl, hk, rfl, hla⟩ := hrel
    have HK := Lib.hid hla; clear hla
    cases k with
    | zero =>
      go_wp2_with fail
      go_ret
      refine ⟨?_, rfl⟩
      rw [HK.out]; rfl
    | succ k =>
      have hgc := strB_get l k
      have hkn : k < n := by omega
      have e1 : ((k + 1 : Nat) : Int) - 1 = k := by omega
      rw [e1]
      by_cases hc : l.getD k 0 = 47
      · have hc2 : ((l[k]?.getD 0).toNat : Int) = 47 := by rw [← List.getD_eq_getElem?_getD, hc]; rfl
        go_wp2_with fail
        go_ret
        refine ⟨?_, rfl⟩
        rw [HK.out, lastN, if_pos hc]; rfl
      · have hc2 : ¬ ((l[k]?.getD 0).toNat : Int) = 47 := by
          rw [← List.getD_eq_getElem?_getD]
          intro h
          apply hc
          apply UInt8.toNat_inj.1
          rw [show (47 : UInt8).toNat = 47 from rfl]; omega
        go_wp2_with fail
        go_roundw
        case rel => exact ⟨k, by go_num, by omega, by trivial, by rw [HK.out, lastN, if_neg hc]⟩
        case measure => simp [intOf]

set_option maxHeartbeats 1000000 in
set_option maxRecDepth 100000 in
theorem lastIndex_sep (l : List UInt8) (w : World) (hs : l.length ≤ 9223372036854775807) :
    Calls Tryd.prog 34 #[.string (strB l), .string ⟨#[47]⟩] w fun e w' => e = .returned (.int .i64 (lastI l)) ∧ w = w' := by
  go_enter Tryd.func34, Tryd.ntmps34
  go_wp2_with fail
  refine (lastByte_any l w hs).mono ?_
  rintro e w' ⟨rfl, rfl⟩
  dsimp only
  go_wp2_with fail
  go_ret
  exact ⟨rfl, rfl⟩
def parentL (l : List UInt8) : List UInt8 := l.take (lastI l).toNat
def baseL (l : List UInt8) : List UInt8 := l.drop (lastI l + 1).toNat
theorem strB_extract (l : List UInt8) (a b : Nat) : (strB l).extract a b = strB ((l.take b).drop a) := by
  apply ByteArray.ext
  show ((strB l).extract a b).data = ((l.take b).drop a).toArray
  rw [ByteArray.data_extract]
  show (l.toArray).extract a b = _
  rw [← Array.toList_inj]
  simp [List.extract_eq_take_drop, List.drop_take]
theorem strB_append (l k : List UInt8) : strB l ++ strB k = strB (l ++ k) := by
  apply ByteArray.ext
  rw [ByteArray.data_append]
  show l.toArray ++ k.toArray = (l ++ k).toArray
  simp
set_option maxHeartbeats 1000000 in
set_option maxRecDepth 100000 in
theorem parent_any (l : List UInt8) (w : World) (hs : l.length ≤ 9223372036854775807) :
    Calls Tryd.prog 15 #[.string (strB l)] w fun e w' => e = .returned (.string (strB (parentL l))) ∧ w = w' := by
  unfold parentL
  have hz := strB_size l
  have hb := lastI_bd l
  go_enter Tryd.func15, Tryd.ntmps15
  go_wp2_with fail
  refine (lastIndex_sep l w hs).mono ?_
  rintro e w' ⟨rfl, rfl⟩
  generalize hgi : lastI l = i at *
  have HGI := Lib.hid hgi; clear hgi
  dsimp only
  have hm : (max i 0).toNat = i.toNat := by omega
  by_cases hi : 0 ≤ i
  all_goals
    go_wp2_with fail
    go_ret
    refine ⟨?_, rfl⟩
    show Ending.returned (.string ((strB l).extract 0 i.toNat)) = _
    rw [strB_extract, List.drop_zero, HGI.out]

set_option maxHeartbeats 1000000 in
set_option maxRecDepth 100000 in
theorem base_any (l : List UInt8) (w : World) (hs : l.length ≤ 9223372036854775807) :
    Calls Tryd.prog 16 #[.string (strB l)] w fun e w' => e = .returned (.string (strB (baseL l))) ∧ w = w' := by
  unfold baseL
  have hz := strB_size l
  have hb := lastI_bd l
  go_enter Tryd.func16, Tryd.ntmps16
  go_wp2_with fail
  refine (lastIndex_sep l w hs).mono ?_
  rintro e w' ⟨rfl, rfl⟩
  generalize hgi : lastI l = i at *
  have HGI := Lib.hid hgi; clear hgi
  dsimp only
  go_wp2_with fail
  go_ret
  refine ⟨?_, rfl⟩
  show Ending.returned (.string ((strB l).extract (i + 1).toNat l.length)) = _
  rw [strB_extract, List.take_length, HGI.out]

set_option maxHeartbeats 1000000 in
set_option maxRecDepth 100000 in
theorem join_any (l k : List UInt8) (w : World) (hb : l.length + k.length + 1 ≤ 1099511627776) :
    Calls Tryd.prog 17 #[.string (strB l), .string (strB k)] w fun e w' => e = .returned (.string (strB (if l = [] then k else l ++ 47 :: k))) ∧ w = w' := by
  have hl := strB_list l
  have hz := strB_size l
  have hz2 := strB_size k
  by_cases h0 : l = []
  · subst h0
    rw [if_pos rfl]
    have b0 : ((strB []).toList == []) = true := by rw [hl]; rfl
    go_enter Tryd.func17, Tryd.ntmps17
    go_wp2_with fail
    go_ret
    exact ⟨rfl, rfl⟩
  · rw [if_neg h0]
    have b0 : ((strB l).toList == []) = false := by rw [hl]; exact list_beq h0
    have hle : l.isEmpty = false := by cases l with
      | nil => exact absurd rfl h0
      | cons c t => rfl
    have e2 : strB l ++ (⟨#[47]⟩ : ByteArray) = strB (l ++ [47]) := strB_append l [47]
    have e3 := strB_append (l ++ [47]) k
    have hz3 := strB_size (l ++ [47])
    have hz4 := strB_size (l ++ [47] ++ k)
    rw [List.length_append, List.length_singleton] at hz3
    rw [List.length_append, List.length_append, List.length_singleton] at hz4
    have e4 : l ++ [47] ++ k = l ++ 47 :: k := by simp
    have hn1 : l.length + 1 ≤ 9223372036854775807 := by omega
    have hn2 : l.length + 1 + k.length ≤ 9223372036854775807 := by omega
    have hn3 : ¬ 9223372036854775807 < l.length + 1 := by omega
    have hn4 : ¬ 9223372036854775807 < l.length + 1 + k.length := by omega
    have hie : (strB l).toList.isEmpty = false := by rw [hl]; exact hle
    clear hl b0
    go_enter Tryd.func17, Tryd.ntmps17
    go_wp2_with fail
    go_ret
    exact ⟨rfl, rfl⟩

/-- is k the beginning of l? -/
def preB (l k : List UInt8) : Bool := decide (k.length ≤ l.length) && decide (l.take k.length = k)
set_option maxHeartbeats 1000000 in
set_option maxRecDepth 100000 in
theorem prefixL_any (l k : List UInt8) (w : World) (h1 : l.length ≤ 9223372036854775807) (h2 : k.length ≤ 9223372036854775807) :
    Calls Tryd.prog 47 #[.string (strB l), .string (strB k)] w fun e w' => e = .returned (.bool (preB l k)) ∧ w = w' := by
  have hz := strB_size l
  have hz2 := strB_size k
  by_cases hle : k.length ≤ l.length
  · have hlei : (k.length : Int) ≤ l.length := by omega
    have hex : (strB l).extract 0 k.length = strB (l.take k.length) := by rw [strB_extract, List.drop_zero]
    have heq := strB_eq (l.take k.length) k
    have hpre : preB l k = decide (l.take k.length = k) := by unfold preB; simp [hle]
    generalize hd : decide (l.take k.length = k) = d at *
    have HP := Lib.hid hpre; clear hpre hd
    go_enter Tryd.func47, Tryd.ntmps47
    go_wp2_with fail
    go_ret
    refine ⟨?_, rfl⟩
    rw [HP.out]; rfl
  · have hlei : decide ((k.length : Int) ≤ l.length) = false := by simp; omega
    have hpre : preB l k = false := by unfold preB; simp; omega
    have HP := Lib.hid hpre; clear hpre
    go_enter Tryd.func47, Tryd.ntmps47
    go_wp2_with fail
    go_ret
    refine ⟨?_, rfl⟩
    rw [HP.out]; rfl

set_option maxRecDepth 100000 in
theorem prefix_any (l k : List UInt8) (w : World) (h1 : l.length ≤ 9223372036854775807) (h2 : k.length ≤ 9223372036854775807) :
    Calls Tryd.prog 36 #[.string (strB l), .string (strB k)] w fun e w' => e = .returned (.bool (preB l k)) ∧ w = w' := by
  go_enter Tryd.func36, Tryd.ntmps36
  go_wp2_with fail
  refine (prefixL_any l k w h1 h2).mono ?_
  rintro e w' ⟨rfl, rfl⟩
  dsimp only
  go_wp2_with fail
  go_ret
  exact ⟨rfl, rfl⟩
/-- is p in a directory? -/
def withinB (p d : List UInt8) : Bool := decide (d = []) || preB p (d ++ [47])
set_option maxHeartbeats 1000000 in
set_option maxRecDepth 100000 in
theorem within_any (l k : List UInt8) (w : World) (h1 : l.length ≤ 9223372036854775807) (h2 : k.length ≤ 1099511627776) :
    Calls Tryd.prog 20 #[.string (strB l), .string (strB k)] w fun e w' => e = .returned (.bool (withinB l k)) ∧ w = w' := by
  have hl := strB_list k
  have hz := strB_size k
  by_cases h0 : k = []
  · subst h0
    have b0 : ((strB []).toList == []) = true := by rw [hl]; rfl
    go_enter Tryd.func20, Tryd.ntmps20
    go_wp2_with fail
    go_ret
    exact ⟨rfl, rfl⟩
  · have hle : k.isEmpty = false := by cases k with
      | nil => exact absurd rfl h0
      | cons c t => rfl
    have e2 : strB k ++ (⟨#[47]⟩ : ByteArray) = strB (k ++ [47]) := strB_append k [47]
    have hn1 : k.length + 1 ≤ 9223372036854775807 := by omega
    have hn3 : ¬ 9223372036854775807 < k.length + 1 := by omega
    have hie : (strB k).toList.isEmpty = false := by rw [hl]; exact hle
    have hw : withinB l k = preB l (k ++ [47]) := by unfold withinB; simp [h0]
    have HW := Lib.hid hw
    clear hl hw
    go_enter Tryd.func20, Tryd.ntmps20
    go_wp2_with fail
    refine (prefix_any l (k ++ [47]) w h1 (by rw [List.length_append, List.length_singleton]; omega)).mono ?_
    rintro e w' ⟨rfl, rfl⟩
    rw [← HW.out]
    dsimp only
    go_wp2_with fail
    go_ret
    exact ⟨rfl, rfl⟩

end Go.Proofs.YtajilboimjcfjaaDoor
end

section
/- A range over a function whose iterator turns cells and hands out new rows: own contract and own law, over 'wpIn_rangeFunc'. No program in sight. -/
namespace Go.My
open Go.RowKit

theorem Ext.putObj {S : Nat → Prop} {a b : World} (h : Ext S a b) (l : Nat) (o : Obj) (hl : l < a.heap.size → S l) : Ext S a (b.putObj l o) :=
  h.grown (grownBy_putObj' b l o) (fun k e hk => by cases e; exact hl hk)

theorem Rd.putObj {W : World} {l : Nat} {r : Loop} (hl : W.heap[l]? = some (.loop r)) (o : Obj) {a : Option Addr} {f : Nat → Value} {n : Nat} (h : Rd W a f n) : Rd (W.putObj l o) a f n := by
  intro i hi
  obtain ⟨b, off, rfl, hc⟩ := h i hi
  refine ⟨b, off, rfl, ?_⟩
  rw [World.cell?_of_block (World.putObj_heap_other (o := o) (fun e => ?_))]
  · exact hc
  · simp only at e; subst e; simp [World.cell?, hl] at hc
theorem IsRow.putObj {W : World} {l : Nat} {r : Loop} (hl : W.heap[l]? = some (.loop r)) (o : Obj) {f : Nat → Value} {n : Nat} {v : Value} (h : IsRow W f n v) : IsRow (W.putObj l o) f n v := by
  obtain ⟨a, cap, rfl, h1, h2, h3⟩ := h
  exact ⟨a, cap, rfl, h1, h2, h3.putObj hl o⟩

theorem own_putObj {w : World} {base size n : Nat} {e : TypeId} {v : Value} {xs : List Value} (h : w.ownsRow base e size v n xs) {l : Nat} {r : Loop} (hl : w.heap[l]? = some (.loop r)) (o : Obj) : (w.putObj l o).ownsRow base e size v n xs := by
  refine ⟨h.1, ?_⟩
  rcases h.2 with hn | ⟨g, cap, cur, rfl, h1, h2, rest⟩
  · exact .inl hn
  · refine .inr ⟨g, cap, cur, rfl, h1, ?_, rest⟩
    rw [World.putObj_heap_other (o := o)]
    · exact h2
    · intro e; subst e; rw [hl] at h2; cases h2

/-- no row of cells -/
def NC (w : World) (j : Nat) : Prop := ∀ cs T f, w.heap[j]? ≠ some (.cells cs T f)
theorem NC.loop {w : World} {l : Nat} {r : Loop} (h : w.heap[l]? = some (.loop r)) : NC w l := fun cs T f e => by rw [h] at e; cases e
theorem NC.defs {w : World} {l : Nat} {d : Option (List Deferred)} (h : w.heap[l]? = some (.deferred d)) : NC w l := fun cs T f e => by rw [h] at e; cases e
section
variable {A B : World} {S : Nat → Prop} {D : Nat}
theorem Blk.extN {b : Nat} {cs : Array Value} {T : TypeId} (h : Blk A b cs T) (x : Ext (fun j => S j ∨ (j = D ∧ NC A j)) A B) (hs : ¬ S b) : Blk B b cs T :=
  h.ext x (fun h' => h'.elim hs (fun n => n.2 _ _ _ h))
theorem own_extN {base : Nat} {e : TypeId} {size n : Nat} {v : Value} {xs : List Value} (h : A.ownsRow base e size v n xs) (x : Ext (fun j => S j ∨ (j = D ∧ NC A j)) A B) (hs : ∀ k, v.ownBlock = some k → ¬ S k) : B.ownsRow base e size v n xs := by
  refine ⟨h.1, ?_⟩
  rcases h.2 with hn | ⟨g, cap, cur, rfl, hb, hg, rest⟩
  · exact .inl hn
  · refine .inr ⟨g, cap, cur, rfl, hb, ?_, rest⟩
    rw [x.block g (Array.getElem?_eq_some_iff.1 hg).1 (fun h' => h'.elim (hs g rfl) (fun n => n.2 _ _ _ hg))]
    exact hg
theorem OwnBs.extN {u8 sb : TypeId} {base : Nat} {ls : List (List UInt8)} {v : Value} (h : OwnBs A u8 sb base ls v) (x : Ext (fun j => S j ∨ (j = D ∧ NC A j)) A B) (hs : ∀ k, base ≤ k → ¬ S k) : OwnBs B u8 sb base ls v := by
  obtain ⟨xs, h1, h2⟩ := h
  exact ⟨xs, own_extN h1 x (fun k hk => hs k (World.ownsRow.lt h1 k hk).1), fun i hi => own_extN (h2 i hi) x (fun k hk => hs k (World.ownsRow.lt (h2 i hi) k hk).1)⟩
theorem IsRow.extN {f : Nat → Value} {n : Nat} {v : Value} (h : IsRow A f n v) (x : Ext (fun j => S j ∨ (j = D ∧ NC A j)) A B) (hs : ∀ k, v.ownBlock = some k → 0 < n → ¬ S k) : IsRow B f n v := by
  obtain ⟨a, cap, rfl, h1, h2, h3⟩ := h
  refine ⟨a, cap, rfl, h1, h2, fun i hi => ?_⟩
  obtain ⟨b, off, rfl, hc⟩ := h3 i hi
  refine ⟨b, off, rfl, ?_⟩
  rw [x.cell (World.block_lt_of_cell? _ _ hc) (fun h' => h'.elim (hs b rfl (by omega)) (fun n => ?_))]
  · exact hc
  · cases hb : A.heap[b]? with
    | none => simp [World.cell?, hb] at hc
    | some o =>
      cases o with
      | cells cs T f => exact n.2 _ _ _ hb
      | _ => simp [World.cell?, hb] at hc
theorem Ext.putObjN (W : World) (l : Nat) (o : Obj) (h : NC W l) : Ext (fun j => S j ∨ (j = l ∧ NC W j)) W (W.putObj l o) := (Ext.refl _ W).putObj _ _ (fun _ => .inr ⟨rfl, h⟩)
end

/-- WHAT AN ITERATOR OWES: N elements; of the k-th handed to yield 'A k' is known; it turns the blocks of S; a round that goes on turns those of T. -/
def SeqC (P : Program) (g : Nat) (lb : Array Value) (N : Nat) (A : Nat → Array Value → World → Prop) (S T : Nat → Prop) (Fin : World → Prop) (w : World) : Prop :=
  ∀ (l : Nat) (J Jx : Nat → World → Prop) (W : World), Ext No w W → w.heap.size + 2 ≤ W.heap.size →
    (∀ k A B, J k A → Ext S A B → J k B) → (∀ k A B, Jx k A → Ext S A B → Jx k B) →
    (∀ k args W1, k < N → J k W1 → A k args W1 → YieldAt Fence.wide 0 P l args W1 fun e W' => (e = .returned (.bool true) ∧ J (k + 1) W' ∧ Ext T W1 W') ∨ (e = .returned (.bool false) ∧ Jx (k + 1) W' ∧ Ext T W1 W')) →
    J 0 W →
    Calls P g (#[.func (.yield l) #[] #[]] ++ lb) W fun e W' => (∃ v, e = .returned v) ∧ (J N W' ∨ ∃ k, k ≤ N ∧ Jx k W') ∧ Fin W'

/-- how a round's body is left -/
def rPost (U : Nat → Prop) (I : Nat → World → Prop) (Ix : Code → Nat → World → Prop) (k : Nat) (W : World) : Exit → Act → World → Prop
  | .normal, _, W' => Ext U W W' ∧ I k W'
  | .ret, _, W' => Ext U W W' ∧ Ix .ret k W'
  | .exit id, _, W' => Ext U W W' ∧ Ix (.exit id) k W'
  | .goto t, _, W' => Ext U W W' ∧ Ix (.goto t) k W'
  | .panic _, _, _ => False
  | .outgrown, _, _ => False

variable {P : Program}

theorem wpIn_range {g : Operand} {ps : Array Tmp} {assign body : Code} {Q : Exit → Act → World → Prop} {a : Act} {w : World}
    {gf : Nat} {lb : Array Value} (hg : a.eval g = .func (.func gf) #[] lb) (eg : ∀ args w, (callFunc gf args).run P w = .ok (.enter gf args) w)
    (U S : Nat → Prop) {N : Nat} {A : Nat → Array Value → World → Prop} {Fin : World → Prop}
    (hseq : SeqC P gf lb N A S (fun k => U k ∨ k = w.heap.size ∨ k = w.heap.size + 1) Fin w)
    (hFin : ∀ A B, Fin A → Ext (fun j => False ∨ (j = w.heap.size + 1 ∧ NC A j)) A B → Fin B)
    (hps : ∀ k args W, A k args W → args.size = ps.size)
    (hA : ∀ k args W r o, A k args W → W.heap[w.heap.size + 1]? = some (.loop r) → A k args (W.putObj (w.heap.size + 1) o))
    (hU0 : ¬ U w.heap.size) (hU1 : ¬ U (w.heap.size + 1)) (hS0 : ¬ S w.heap.size) (hS1 : ¬ S (w.heap.size + 1))
    (I : Nat → World → Prop) (Ix : Code → Nat → World → Prop)
    (hI : ∀ k A B, I k A → Ext (fun j => S j ∨ (j = w.heap.size + 1 ∧ NC A j)) A B → I k B)
    (hIx : ∀ c k A B, Ix c k A → Ext (fun j => S j ∨ (j = w.heap.size + 1 ∧ NC A j)) A B → Ix c k B)
    (h0 : I 0 w) (a₁ : Array Value → Act)
    (hassign : ∀ (l k : Nat) (args : Array Value) (W : World) (K : Act → World → Prop), A k args W → K (a₁ args) W →
      assign.wpIn (Fence.wide.inRound l) 0 P (Exit.then K (fun _ _ _ => False)) { tmps := (ps.zip args).foldl (fun t (p, v) => t.setIfInBounds p v) a.tmps, defers := [] } W)
    (hbody : ∀ (l k : Nat) (args : Array Value) (W : World), k < N → I k W → A k args W → w.heap.size + 2 ≤ W.heap.size → body.wpIn (Fence.wide.inRound l) 0 P (rPost U I Ix (k + 1) W) (a₁ args) W)
    (hdone : ∀ W : World, I N W → Fin W → W.heap[w.heap.size]? = some (.deferred (some [])) → Q .normal { a with defers := { target := .collected w.heap.size, args := #[] } :: a.defers } W)
    (hstop : ∀ (c : Code) (k : Nat) (W : World), k ≤ N → Ix c k W → Fin W → W.heap[w.heap.size]? = some (.deferred (some [])) → c.wpIn Fence.wide 0 P Q { a with defers := { target := .collected w.heap.size, args := #[] } :: a.defers } W) :
    (Code.rangeFunc g ps assign body).wpIn Fence.wide 0 P Q a w := by
  refine wpIn_rangeFunc ?_
  intro fn hfn
  rw [show Fence.wide.round = none from rfl]
  obtain ⟨D, hD⟩ : ∃ D, w.heap.size = D := ⟨_, rfl⟩
  obtain ⟨rec, hrec⟩ : ∃ rec : LoopState → Option Code → Loop, rec = fun st pe => { state := st, pending := pe, fn, tmps := a.tmps, params := ps, assign, body, defers := D } := ⟨_, rfl⟩
  obtain ⟨W1, hW1⟩ : ∃ W1, (w.alloc (.deferred (some []))).alloc (.loop (rec .ready none)) = W1 := ⟨_, rfl⟩
  have hL1 : W1.heap[D + 1]? = some (.loop (rec .ready none)) := by
    rw [← hW1]; have := World.alloc_heap_new (w.alloc (.deferred (some []))) (.loop (rec .ready none)); rwa [World.size_alloc, hD] at this
  have hK1 : W1.heap[D]? = some (.deferred (some [])) := by
    rw [← hW1, ← hD]; exact (Below.heap_alloc _ _ _ (by simp)).trans (World.alloc_heap_new w _)
  have hx1 : Ext No w W1 := by rw [← hW1]; exact ((Ext.refl No w).alloc _).alloc _
  have hI1 : I 0 W1 := hI _ _ _ h0 (hx1.mono (fun _ _ h => h.elim))
  have hsz1 : D + 2 ≤ W1.heap.size := by rw [← hW1]; simp; omega
  refine ⟨D + 1, [{ target := .collected D, args := #[] }], W1, { target := .fn (.func gf) lb, args := #[.func (.yield (D + 1)) #[] #[]] }, W1, gf,
    #[.func (.yield (D + 1)) #[] #[]] ++ lb, W1, ?_, ?_, ?_, ?_, fun h => by simp [Fence.wide] at h, ?_⟩
  · rw [← hW1, hrec, ← hD]; exact run_enterLoop_outer _ _ _ _ _
  · simp only [resolve, hg]
    simp [go_sem]
  · intro f' hf'; trivial
  · simp [invoke, go_sem, eg]
  · rw [hD] at hseq hFin hA hU0 hU1 hS0 hS1 hI hIx hbody hdone hstop
    refine callsIn_wide.2 ((hseq (D + 1)
      (fun k W => I k W ∧ W.heap[D + 1]? = some (.loop (rec .ready none)) ∧ W.heap[D]? = some (.deferred (some [])) ∧ D + 2 ≤ W.heap.size)
      (fun k W => ∃ c, Ix c k W ∧ W.heap[D + 1]? = some (.loop (rec .done (some c))) ∧ W.heap[D]? = some (.deferred (some [])) ∧ D + 2 ≤ W.heap.size)
      W1 hx1 (by rw [hD]; exact hsz1) ?_ ?_ ?_ ⟨hI1, hL1, hK1, hsz1⟩).mono ?_)
    · rintro k A B ⟨h1, h2, h3, h4⟩ hx
      exact ⟨hI k A B h1 (hx.mono (fun _ _ h => .inl h)), (hx.block _ (by omega) hS1).trans h2, (hx.block _ (by omega) hS0).trans h3, Nat.le_trans h4 hx.size⟩
    · rintro k A B ⟨c, h1, h2, h3, h4⟩ hx
      exact ⟨c, hIx c k A B h1 (hx.mono (fun _ _ h => .inl h)), (hx.block _ (by omega) hS1).trans h2, (hx.block _ (by omega) hS0).trans h3, Nat.le_trans h4 hx.size⟩
    · -- ONE ROUND
      rintro k args W hkN ⟨hi, hl, hk, hs⟩ hAk
      have hy := run_yield (P := P) (args := args) hl (by rw [hrec]; exact hps k args W hAk)
      rw [hrec] at hy
      refine ⟨fn, _, assign, body, hy, roundIn_of_wpIn hfn (hassign _ k args W _ hAk ⟨_, run_beginRound hl (by rw [hrec]), ?_⟩)⟩
      have hl2 : (W.putObj (D + 1) (.loop { rec .ready none with state := .busy })).heap[D + 1]? = some (.loop { rec .ready none with state := .busy }) := World.putObj_heap_same (by omega)
      have hk2 : (W.putObj (D + 1) (.loop { rec .ready none with state := .busy })).heap[D]? = some (.deferred (some [])) := (World.putObj_heap_other (by omega)).trans hk
      have hx2 : ∀ {S' : Nat → Prop} (W : World) (o : Obj), S' (D + 1) → Ext S' W (W.putObj (D + 1) o) := fun W o h => (Ext.refl _ W).putObj _ _ (fun _ => h)
      refine wpIn_mono (hbody _ k args _ hkN (hI _ _ _ hi (Ext.putObjN _ _ _ (NC.loop hl))) (hA k args W _ _ hAk hl) (by rw [World.putObj_size]; exact hs)) ?_
      have fin : ∀ (jump : Option Code) (W3 : World), Ext U (W.putObj (D + 1) (.loop { rec .ready none with state := .busy })) W3 →
          (Instr.endRound (D + 1) jump).run P W3 = .ok (.bool jump.isNone) (W3.putObj (D + 1) (.loop (rec (if jump.isNone then .ready else .done) jump))) ∧
          (W3.putObj (D + 1) (.loop (rec (if jump.isNone then .ready else .done) jump))).heap[D + 1]? = some (.loop (rec (if jump.isNone then .ready else .done) jump)) ∧
          (W3.putObj (D + 1) (.loop (rec (if jump.isNone then .ready else .done) jump))).heap[D]? = some (.deferred (some [])) ∧ D + 2 ≤ (W3.putObj (D + 1) (.loop (rec (if jump.isNone then .ready else .done) jump))).heap.size := fun jump W3 hk3 => by
        have hl3 := (hk3.block (D + 1) (by rw [World.putObj_size]; omega) hU1).trans hl2
        have hd3 := (hk3.block D (by rw [World.putObj_size]; omega) hU0).trans hk2
        have hs3 : D + 2 ≤ W3.heap.size := Nat.le_trans (by rw [World.putObj_size]; exact hs) hk3.size
        have := run_endRound (P := P) jump hl3
        rw [hrec] at this ⊢
        exact ⟨this, World.putObj_heap_same (by omega), (World.putObj_heap_other (by omega)).trans hd3, by rw [World.putObj_size]; exact hs3⟩
      have ext3 : ∀ (W3 : World) (o o' : Obj), Ext U (W.putObj (D + 1) o) W3 → Ext (fun k => U k ∨ k = D ∨ k = D + 1) W (W3.putObj (D + 1) o') := fun W3 o o' hx3 =>
        (((hx2 W o (.inr (.inr rfl))).trans hx3 (fun _ _ h => h) (fun _ _ h => .inl h)).trans (hx2 W3 _ (.inr (.inr rfl))) (fun _ _ h => h) (fun _ _ h => h))
      have ncl : ∀ (W3 : World), Ext U (W.putObj (D + 1) (.loop { rec .ready none with state := .busy })) W3 → NC W3 (D + 1) := fun W3 hk3 => NC.loop ((hk3.block (D + 1) (by rw [World.putObj_size]; omega) hU1).trans hl2)
      rintro e a3 W3 hp
      cases e with
      | normal =>
        obtain ⟨hx3, hi3⟩ := hp
        obtain ⟨hr, h4⟩ := fin none W3 hx3
        refine ⟨_, _, hr, .inl ⟨rfl, ⟨hI _ _ _ hi3 (Ext.putObjN _ _ _ (ncl _ hx3)), h4⟩, ext3 _ _ _ hx3⟩⟩
      | ret =>
        obtain ⟨hx3, hi3⟩ := hp
        obtain ⟨hr, h4⟩ := fin (some .ret) W3 hx3
        exact ⟨_, _, hr, .inr ⟨rfl, ⟨.ret, hIx _ _ _ _ hi3 (Ext.putObjN _ _ _ (ncl _ hx3)), h4⟩, ext3 _ _ _ hx3⟩⟩
      | exit id =>
        obtain ⟨hx3, hi3⟩ := hp
        obtain ⟨hr, h4⟩ := fin (some (.exit id)) W3 hx3
        exact ⟨_, _, hr, .inr ⟨rfl, ⟨.exit id, hIx _ _ _ _ hi3 (Ext.putObjN _ _ _ (ncl _ hx3)), h4⟩, ext3 _ _ _ hx3⟩⟩
      | goto t =>
        obtain ⟨hx3, hi3⟩ := hp
        obtain ⟨hr, h4⟩ := fin (some (.goto t)) W3 hx3
        exact ⟨_, _, hr, .inr ⟨rfl, ⟨.goto t, hIx _ _ _ _ hi3 (Ext.putObjN _ _ _ (ncl _ hx3)), h4⟩, ext3 _ _ _ hx3⟩⟩
      | panic ch => exact hp.elim
      | outgrown => exact hp.elim
    · -- BEHIND THE ITERATOR
      rintro e W2 ⟨⟨v, rfl⟩, (⟨hi, hl, hk, hs⟩ | ⟨k, hkN, c, hi, hl, hk, hs⟩), hfin⟩
      · exact ⟨none, _, by have := run_endLoop (P := P) hl (by rw [hrec]; simp); rw [hrec] at this; exact this, hdone _ (hI _ _ _ hi (Ext.putObjN _ _ _ (NC.loop hl))) (hFin _ _ hfin (Ext.putObjN _ _ _ (NC.loop hl))) ((World.putObj_heap_other (by omega)).trans hk)⟩
      · exact ⟨some c, _, by have := run_endLoop (P := P) hl (by rw [hrec]; simp); rw [hrec] at this; exact this, hstop c k _ hkN (hIx _ _ _ _ hi (Ext.putObjN _ _ _ (NC.loop hl))) (hFin _ _ hfin (Ext.putObjN _ _ _ (NC.loop hl))) ((World.putObj_heap_other (by omega)).trans hk)⟩

/-- append of one element of one cell onto a row of the call's own, within a round: the row stands where it stood, or in a new block -/
theorem wpListIn_app1 {F : Fence} {nF : Nat} {ops : Array Oper} {rest : List Oper} {o : Oper} {a : Act} {Q : Exit → Act → World → Prop} (w : World) (u : Value) (hgd : o.guard = none) (s x : Operand) (t : TypeId)
    (ho : o.op = .call { callee := .builtin .append, args := #[s, x], argTypes := #[t, t] }) (base : Nat) (e : TypeId) (z : Value) (bytes : Nat)
    (hinfo : (P.info? e).map (fun i => (i.zero, i.size, i.bytes)) = some (some z, 1, bytes)) (ht : P.underlying t = some (.slice e)) (hzs : z.cells.size = 1)
    (v : Value) (n : Nat) (xs : List Value) (hs : a.eval s = v) (hown : w.ownsRow base e 1 v n xs) (ad : Addr) (hx : a.eval x = .slice (some ad) 1 1) (had : w.cell? ad = some u) (h1 : u.oneCell' = true)
    (h63 : n + 1 ≤ 9223372036854775807) (hbytes : (n + 1) * bytes ≤ 140737488355328) (hbase : base ≤ w.heap.size)
    (h : ∀ v' w', w'.ownsRow base e 1 v' (n + 1) (xs ++ [u]) → w.grownBy w' v.ownBlock → (v'.ownBlock = v.ownBlock ∨ v'.ownBlock = some w.heap.size) → wpListIn F nF P ops Q rest (a.put o.dst v') w') : wpListIn F nF P ops Q (o :: rest) a w := by
  obtain ⟨i0, hi, hz0, hz1, hz2⟩ := info_parts hinfo
  refine wpListIn_append_own_at w hgd s x t ho base e i0 z 1 bytes ht hi hz0 hz1 hz2 hzs (by decide) v n xs hs hown ad 1 1 [u] hx rfl ?_ ?_ (by unfold maxLen; omega) hbytes hbase fun v' w' h2 h3 _ h4 => h v' w' h2 h3 h4
  · intro j y hj
    cases j with
    | zero => simp at hj; subst hj; rw [Addr.add_zero']; exact had
    | succ j => simp at hj
  · intro y hy; simp at hy; subst hy; exact h1

/-- new blocks, one behind the other -/
def lay (w : World) : List (Array Value × TypeId) → World
  | [] => w
  | (c, T) :: r => lay (w.alloc (.cells c T)) r
theorem lay_ext (cs : List (Array Value × TypeId)) : ∀ {w0 w : World}, Ext No w0 w → Ext No w0 (lay w cs) := by
  induction cs with
  | nil => exact fun h => h
  | cons a r ih => obtain ⟨c, T⟩ := a; exact fun h => ih (h.alloc _)
theorem lay_size (cs : List (Array Value × TypeId)) : ∀ w : World, (lay w cs).heap.size = w.heap.size + cs.length := by
  induction cs with
  | nil => intro w; rfl
  | cons a r ih => obtain ⟨c, T⟩ := a; intro w; rw [lay, ih, World.size_alloc, List.length_cons]; omega
theorem lay_blk (cs : List (Array Value × TypeId)) : ∀ (w : World) (i : Nat) (c : Array Value) (T : TypeId), cs[i]? = some (c, T) → Blk (lay w cs) (w.heap.size + i) c T := by
  induction cs with
  | nil => intro w i c T h; simp at h
  | cons a r ih =>
    obtain ⟨c0, T0⟩ := a
    intro w i c T h
    cases i with
    | zero =>
      simp only [List.getElem?_cons_zero, Option.some.injEq, Prod.mk.injEq] at h
      obtain ⟨rfl, rfl⟩ := h
      exact (Blk.new w c0 T0).ext (lay_ext r (Ext.refl No _)) (fun x => x)
    | succ i =>
      have := ih (w.alloc (.cells c0 T0)) i c T (by simpa using h)
      rw [World.size_alloc] at this
      rw [show w.heap.size + (i + 1) = w.heap.size + 1 + i by omega]
      exact this
theorem lay_at {w w0 : World} {cs : List (Array Value × TypeId)} (h : lay w cs = w0) (i : Nat) (c : Array Value) (T : TypeId) (hi : cs[i]? = some (c, T)) : Blk w0 (w.heap.size + i) c T := by rw [← h]; exact lay_blk cs w i c T hi
end Go.My
end

section
/- A range over a function, as in 'Range', where what the body may turn hangs on the world. No program in sight. -/
namespace Go.My
open Go.RowKit

/-- WHAT AN ITERATOR OWES: N elements; of the k-th handed to yield 'A k' is known; it turns the blocks of S; a round that goes on turns those of T. -/
def SeqW (P : Program) (g : Nat) (lb : Array Value) (N : Nat) (A : Nat → Array Value → World → Prop) (S : Nat → Prop) (T : World → Nat → Prop) (Fin : World → Prop) (w : World) : Prop :=
  ∀ (l : Nat) (J Jx : Nat → World → Prop) (W : World), Ext No w W → w.heap.size + 2 ≤ W.heap.size →
    (∀ k A B, J k A → Ext S A B → J k B) → (∀ k A B, Jx k A → Ext S A B → Jx k B) →
    (∀ k args W1, k < N → J k W1 → A k args W1 → YieldAt Fence.wide 0 P l args W1 fun e W' => (e = .returned (.bool true) ∧ J (k + 1) W' ∧ Ext (T W1) W1 W') ∨ (e = .returned (.bool false) ∧ Jx (k + 1) W' ∧ Ext (T W1) W1 W')) →
    J 0 W →
    Calls P g (#[.func (.yield l) #[] #[]] ++ lb) W fun e W' => (∃ v, e = .returned v) ∧ (J N W' ∨ ∃ k, k ≤ N ∧ Jx k W') ∧ Fin W'

/-- how a round's body is left -/
def rPostW (U : World → Nat → Prop) (I : Nat → World → Prop) (Ix : Code → Nat → World → Prop) (k : Nat) (W : World) : Exit → Act → World → Prop
  | .normal, _, W' => Ext (U W) W W' ∧ I k W'
  | .ret, _, W' => Ext (U W) W W' ∧ Ix .ret k W'
  | .exit id, _, W' => Ext (U W) W W' ∧ Ix (.exit id) k W'
  | .goto t, _, W' => Ext (U W) W W' ∧ Ix (.goto t) k W'
  | .panic _, _, _ => False
  | .outgrown, _, _ => False

variable {P : Program}

theorem wpIn_rangeW {g : Operand} {ps : Array Tmp} {assign body : Code} {Q : Exit → Act → World → Prop} {a : Act} {w : World}
    {gf : Nat} {lb : Array Value} (hg : a.eval g = .func (.func gf) #[] lb) (eg : ∀ args w, (callFunc gf args).run P w = .ok (.enter gf args) w)
    (U : World → Nat → Prop) (S : Nat → Prop) {N : Nat} {A : Nat → Array Value → World → Prop} {Fin : World → Prop}
    (hseq : SeqW P gf lb N A S (fun W k => U W k ∨ k = w.heap.size ∨ k = w.heap.size + 1) Fin w)
    (hUp : ∀ (W : World) (o : Obj) (r : Loop) (k : Nat), W.heap[w.heap.size + 1]? = some (.loop r) → U (W.putObj (w.heap.size + 1) o) k → U W k ∨ k = w.heap.size ∨ k = w.heap.size + 1)
    (hFin : ∀ A B, Fin A → Ext (fun j => False ∨ (j = w.heap.size + 1 ∧ NC A j)) A B → Fin B)
    (hps : ∀ k args W, A k args W → args.size = ps.size)
    (hA : ∀ k args W r o, A k args W → W.heap[w.heap.size + 1]? = some (.loop r) → A k args (W.putObj (w.heap.size + 1) o))
    (hU0 : ∀ W, ¬ U W w.heap.size) (hU1 : ∀ W, ¬ U W (w.heap.size + 1)) (hS0 : ¬ S w.heap.size) (hS1 : ¬ S (w.heap.size + 1))
    (I : Nat → World → Prop) (Ix : Code → Nat → World → Prop)
    (hI : ∀ k A B, I k A → Ext (fun j => S j ∨ (j = w.heap.size + 1 ∧ NC A j)) A B → I k B)
    (hIx : ∀ c k A B, Ix c k A → Ext (fun j => S j ∨ (j = w.heap.size + 1 ∧ NC A j)) A B → Ix c k B)
    (h0 : I 0 w) (a₁ : Array Value → Act)
    (hassign : ∀ (l k : Nat) (args : Array Value) (W : World) (K : Act → World → Prop), A k args W → K (a₁ args) W →
      assign.wpIn (Fence.wide.inRound l) 0 P (Exit.then K (fun _ _ _ => False)) { tmps := (ps.zip args).foldl (fun t (p, v) => t.setIfInBounds p v) a.tmps, defers := [] } W)
    (hbody : ∀ (l k : Nat) (args : Array Value) (W : World), k < N → I k W → A k args W → w.heap.size + 2 ≤ W.heap.size → body.wpIn (Fence.wide.inRound l) 0 P (rPostW U I Ix (k + 1) W) (a₁ args) W)
    (hdone : ∀ W : World, I N W → Fin W → W.heap[w.heap.size]? = some (.deferred (some [])) → Q .normal { a with defers := { target := .collected w.heap.size, args := #[] } :: a.defers } W)
    (hstop : ∀ (c : Code) (k : Nat) (W : World), k ≤ N → Ix c k W → Fin W → W.heap[w.heap.size]? = some (.deferred (some [])) → c.wpIn Fence.wide 0 P Q { a with defers := { target := .collected w.heap.size, args := #[] } :: a.defers } W) :
    (Code.rangeFunc g ps assign body).wpIn Fence.wide 0 P Q a w := by
  refine wpIn_rangeFunc ?_
  intro fn hfn
  rw [show Fence.wide.round = none from rfl]
  obtain ⟨D, hD⟩ : ∃ D, w.heap.size = D := ⟨_, rfl⟩
  obtain ⟨rec, hrec⟩ : ∃ rec : LoopState → Option Code → Loop, rec = fun st pe => { state := st, pending := pe, fn, tmps := a.tmps, params := ps, assign, body, defers := D } := ⟨_, rfl⟩
  obtain ⟨W1, hW1⟩ : ∃ W1, (w.alloc (.deferred (some []))).alloc (.loop (rec .ready none)) = W1 := ⟨_, rfl⟩
  have hL1 : W1.heap[D + 1]? = some (.loop (rec .ready none)) := by
    rw [← hW1]; have := World.alloc_heap_new (w.alloc (.deferred (some []))) (.loop (rec .ready none)); rwa [World.size_alloc, hD] at this
  have hK1 : W1.heap[D]? = some (.deferred (some [])) := by
    rw [← hW1, ← hD]; exact (Below.heap_alloc _ _ _ (by simp)).trans (World.alloc_heap_new w _)
  have hx1 : Ext No w W1 := by rw [← hW1]; exact ((Ext.refl No w).alloc _).alloc _
  have hI1 : I 0 W1 := hI _ _ _ h0 (hx1.mono (fun _ _ h => h.elim))
  have hsz1 : D + 2 ≤ W1.heap.size := by rw [← hW1]; simp; omega
  refine ⟨D + 1, [{ target := .collected D, args := #[] }], W1, { target := .fn (.func gf) lb, args := #[.func (.yield (D + 1)) #[] #[]] }, W1, gf,
    #[.func (.yield (D + 1)) #[] #[]] ++ lb, W1, ?_, ?_, ?_, ?_, fun h => by simp [Fence.wide] at h, ?_⟩
  · rw [← hW1, hrec, ← hD]; exact run_enterLoop_outer _ _ _ _ _
  · simp only [resolve, hg]
    simp [go_sem]
  · intro f' hf'; trivial
  · simp [invoke, go_sem, eg]
  · rw [hD] at hseq hUp hFin hA hU0 hU1 hS0 hS1 hI hIx hbody hdone hstop
    refine callsIn_wide.2 ((hseq (D + 1)
      (fun k W => I k W ∧ W.heap[D + 1]? = some (.loop (rec .ready none)) ∧ W.heap[D]? = some (.deferred (some [])) ∧ D + 2 ≤ W.heap.size)
      (fun k W => ∃ c, Ix c k W ∧ W.heap[D + 1]? = some (.loop (rec .done (some c))) ∧ W.heap[D]? = some (.deferred (some [])) ∧ D + 2 ≤ W.heap.size)
      W1 hx1 (by rw [hD]; exact hsz1) ?_ ?_ ?_ ⟨hI1, hL1, hK1, hsz1⟩).mono ?_)
    · rintro k A B ⟨h1, h2, h3, h4⟩ hx
      exact ⟨hI k A B h1 (hx.mono (fun _ _ h => .inl h)), (hx.block _ (by omega) hS1).trans h2, (hx.block _ (by omega) hS0).trans h3, Nat.le_trans h4 hx.size⟩
    · rintro k A B ⟨c, h1, h2, h3, h4⟩ hx
      exact ⟨c, hIx c k A B h1 (hx.mono (fun _ _ h => .inl h)), (hx.block _ (by omega) hS1).trans h2, (hx.block _ (by omega) hS0).trans h3, Nat.le_trans h4 hx.size⟩
    · -- ONE ROUND
      rintro k args W hkN ⟨hi, hl, hk, hs⟩ hAk
      have hy := run_yield (P := P) (args := args) hl (by rw [hrec]; exact hps k args W hAk)
      rw [hrec] at hy
      refine ⟨fn, _, assign, body, hy, roundIn_of_wpIn hfn (hassign _ k args W _ hAk ⟨_, run_beginRound hl (by rw [hrec]), ?_⟩)⟩
      have hl2 : (W.putObj (D + 1) (.loop { rec .ready none with state := .busy })).heap[D + 1]? = some (.loop { rec .ready none with state := .busy }) := World.putObj_heap_same (by omega)
      have hk2 : (W.putObj (D + 1) (.loop { rec .ready none with state := .busy })).heap[D]? = some (.deferred (some [])) := (World.putObj_heap_other (by omega)).trans hk
      have hx2 : ∀ {S' : Nat → Prop} (W : World) (o : Obj), S' (D + 1) → Ext S' W (W.putObj (D + 1) o) := fun W o h => (Ext.refl _ W).putObj _ _ (fun _ => h)
      refine wpIn_mono (hbody _ k args _ hkN (hI _ _ _ hi (Ext.putObjN _ _ _ (NC.loop hl))) (hA k args W _ _ hAk hl) (by rw [World.putObj_size]; exact hs)) ?_
      have fin : ∀ (jump : Option Code) (W3 : World), Ext (U (W.putObj (D + 1) (.loop { rec .ready none with state := .busy }))) (W.putObj (D + 1) (.loop { rec .ready none with state := .busy })) W3 →
          (Instr.endRound (D + 1) jump).run P W3 = .ok (.bool jump.isNone) (W3.putObj (D + 1) (.loop (rec (if jump.isNone then .ready else .done) jump))) ∧
          (W3.putObj (D + 1) (.loop (rec (if jump.isNone then .ready else .done) jump))).heap[D + 1]? = some (.loop (rec (if jump.isNone then .ready else .done) jump)) ∧
          (W3.putObj (D + 1) (.loop (rec (if jump.isNone then .ready else .done) jump))).heap[D]? = some (.deferred (some [])) ∧ D + 2 ≤ (W3.putObj (D + 1) (.loop (rec (if jump.isNone then .ready else .done) jump))).heap.size := fun jump W3 hk3 => by
        have hl3 := (hk3.block (D + 1) (by rw [World.putObj_size]; omega) (hU1 _)).trans hl2
        have hd3 := (hk3.block D (by rw [World.putObj_size]; omega) (hU0 _)).trans hk2
        have hs3 : D + 2 ≤ W3.heap.size := Nat.le_trans (by rw [World.putObj_size]; exact hs) hk3.size
        have := run_endRound (P := P) jump hl3
        rw [hrec] at this ⊢
        exact ⟨this, World.putObj_heap_same (by omega), (World.putObj_heap_other (by omega)).trans hd3, by rw [World.putObj_size]; exact hs3⟩
      have ext3 : ∀ (W3 : World) (o o' : Obj), Ext (U (W.putObj (D + 1) o)) (W.putObj (D + 1) o) W3 → Ext (fun k => U W k ∨ k = D ∨ k = D + 1) W (W3.putObj (D + 1) o') := fun W3 o o' hx3 =>
        (((hx2 W o (.inr (.inr rfl))).trans hx3 (fun _ _ h => h) (fun k _ h => hUp W o _ k hl h)).trans (hx2 W3 _ (.inr (.inr rfl))) (fun _ _ h => h) (fun _ _ h => h))
      have ncl : ∀ (W3 : World), Ext (U (W.putObj (D + 1) (.loop { rec .ready none with state := .busy }))) (W.putObj (D + 1) (.loop { rec .ready none with state := .busy })) W3 → NC W3 (D + 1) := fun W3 hk3 => NC.loop ((hk3.block (D + 1) (by rw [World.putObj_size]; omega) (hU1 _)).trans hl2)
      rintro e a3 W3 hp
      cases e with
      | normal =>
        obtain ⟨hx3, hi3⟩ := hp
        obtain ⟨hr, h4⟩ := fin none W3 hx3
        refine ⟨_, _, hr, .inl ⟨rfl, ⟨hI _ _ _ hi3 (Ext.putObjN _ _ _ (ncl _ hx3)), h4⟩, ext3 _ _ _ hx3⟩⟩
      | ret =>
        obtain ⟨hx3, hi3⟩ := hp
        obtain ⟨hr, h4⟩ := fin (some .ret) W3 hx3
        exact ⟨_, _, hr, .inr ⟨rfl, ⟨.ret, hIx _ _ _ _ hi3 (Ext.putObjN _ _ _ (ncl _ hx3)), h4⟩, ext3 _ _ _ hx3⟩⟩
      | exit id =>
        obtain ⟨hx3, hi3⟩ := hp
        obtain ⟨hr, h4⟩ := fin (some (.exit id)) W3 hx3
        exact ⟨_, _, hr, .inr ⟨rfl, ⟨.exit id, hIx _ _ _ _ hi3 (Ext.putObjN _ _ _ (ncl _ hx3)), h4⟩, ext3 _ _ _ hx3⟩⟩
      | goto t =>
        obtain ⟨hx3, hi3⟩ := hp
        obtain ⟨hr, h4⟩ := fin (some (.goto t)) W3 hx3
        exact ⟨_, _, hr, .inr ⟨rfl, ⟨.goto t, hIx _ _ _ _ hi3 (Ext.putObjN _ _ _ (ncl _ hx3)), h4⟩, ext3 _ _ _ hx3⟩⟩
      | panic ch => exact hp.elim
      | outgrown => exact hp.elim
    · -- BEHIND THE ITERATOR
      rintro e W2 ⟨⟨v, rfl⟩, (⟨hi, hl, hk, hs⟩ | ⟨k, hkN, c, hi, hl, hk, hs⟩), hfin⟩
      · exact ⟨none, _, by have := run_endLoop (P := P) hl (by rw [hrec]; simp); rw [hrec] at this; exact this, hdone _ (hI _ _ _ hi (Ext.putObjN _ _ _ (NC.loop hl))) (hFin _ _ hfin (Ext.putObjN _ _ _ (NC.loop hl))) ((World.putObj_heap_other (by omega)).trans hk)⟩
      · exact ⟨some c, _, by have := run_endLoop (P := P) hl (by rw [hrec]; simp); rw [hrec] at this; exact this, hstop c k _ hkN (hIx _ _ _ _ hi (Ext.putObjN _ _ _ (NC.loop hl))) (hFin _ _ hfin (Ext.putObjN _ _ _ (NC.loop hl))) ((World.putObj_heap_other (by omega)).trans hk)⟩

end Go.My
end
