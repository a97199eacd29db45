/- Plain laws on machine words: the walk's own spelling of unsigned arithmetic, told by bit vectors behind opaque names. No program in sight. -/
import Derived.WalkKit
import Derived.WalkSpells
import Derived.WalkLawsBesides
namespace Go.My

/-- a word as the number that the machine holds -/
def w64 (x : BitVec 64) : Int := (x.toNat : Int)
theorem w64_def (x : BitVec 64) : w64 x = (x.toNat : Int) := rfl
theorem w64_bd (x : BitVec 64) : 0 ≤ w64 x ∧ w64 x ≤ 18446744073709551615 := by have := x.isLt; rw [w64_def]; omega
theorem w64_inj {x y : BitVec 64} (h : w64 x = w64 y) : x = y := by rw [w64_def, w64_def] at h; exact BitVec.eq_of_toNat_eq (by omega)
theorem w64_wrap (n : Int) : IntKind.u64.wrap n = n % 18446744073709551616 := IntKind.wrap_u64 n
theorem w64_self (x : BitVec 64) : IntKind.u64.wrap (w64 x) = w64 x := IntWalk.u64_in _ (w64_bd x)
theorem w64_ofInt (x : BitVec 64) : BitVec.ofInt 64 (w64 x) = x := by simp [w64_def]
theorem w64_xor (x y : BitVec 64) : bits .xor .u64 (w64 x) (w64 y) = w64 (x ^^^ y) := by
  show IntKind.u64.wrap ((BitVec.ofInt 64 (w64 x) ^^^ BitVec.ofInt 64 (w64 y)).toNat : Int) = _
  rw [w64_ofInt, w64_ofInt, ← w64_def, w64_self]
theorem w64_and (x y : BitVec 64) : bits .and .u64 (w64 x) (w64 y) = w64 (x &&& y) := by
  show IntKind.u64.wrap ((BitVec.ofInt 64 (w64 x) &&& BitVec.ofInt 64 (w64 y)).toNat : Int) = _
  rw [w64_ofInt, w64_ofInt, ← w64_def, w64_self]
theorem w64_or (x y : BitVec 64) : bits .or .u64 (w64 x) (w64 y) = w64 (x ||| y) := by
  show IntKind.u64.wrap ((BitVec.ofInt 64 (w64 x) ||| BitVec.ofInt 64 (w64 y)).toNat : Int) = _
  rw [w64_ofInt, w64_ofInt, ← w64_def, w64_self]
theorem w64_and_int (x : BitVec 64) (n : Int) : bits .and .u64 (w64 x) n = w64 (x &&& BitVec.ofInt 64 n) := by
  show IntKind.u64.wrap ((BitVec.ofInt 64 (w64 x) &&& BitVec.ofInt 64 n).toNat : Int) = _
  rw [w64_ofInt, ← w64_def, w64_self]
theorem w64_xor_int (x : BitVec 64) (n : Int) : bits .xor .u64 (w64 x) n = w64 (x ^^^ BitVec.ofInt 64 n) := by
  show IntKind.u64.wrap ((BitVec.ofInt 64 (w64 x) ^^^ BitVec.ofInt 64 n).toNat : Int) = _
  rw [w64_ofInt, ← w64_def, w64_self]
theorem w64_or_int (x : BitVec 64) (n : Int) : bits .or .u64 (w64 x) n = w64 (x ||| BitVec.ofInt 64 n) := by
  show IntKind.u64.wrap ((BitVec.ofInt 64 (w64 x) ||| BitVec.ofInt 64 n).toNat : Int) = _
  rw [w64_ofInt, ← w64_def, w64_self]
theorem w64_nat (n : Nat) : IntKind.u64.wrap (n : Int) = w64 (BitVec.ofNat 64 n) := by
  rw [w64_wrap, w64_def, BitVec.toNat_ofNat]; omega
theorem w64_int (n : Int) : IntKind.u64.wrap n = w64 (BitVec.ofInt 64 n) := by
  rw [w64_wrap, w64_def, BitVec.toNat_ofInt]; omega
theorem w64_lit (n : Nat) (h : n < 18446744073709551616) : (n : Int) = w64 (BitVec.ofNat 64 n) := by
  rw [w64_def, BitVec.toNat_ofNat]; omega
theorem w64_add (x y : BitVec 64) : IntKind.u64.wrap (w64 x + w64 y) = w64 (x + y) := by
  simp only [w64_wrap, w64_def, BitVec.toNat_add]; omega
theorem w64_sub (x y : BitVec 64) : IntKind.u64.wrap (w64 x - w64 y) = w64 (x - y) := by
  have := x.isLt; have := y.isLt
  simp only [w64_wrap, w64_def, BitVec.toNat_sub]; omega
theorem w64_mul (x y : BitVec 64) : IntKind.u64.wrap (w64 x * w64 y) = w64 (x * y) := by
  simp only [w64_wrap, w64_def]
  rw [BitVec.toNat_mul, Int.natCast_emod, Int.natCast_mul]; rfl
theorem w64_mul_nat (x : BitVec 64) (n : Nat) : IntKind.u64.wrap (w64 x * (n : Int)) = w64 (x * BitVec.ofNat 64 n) := by
  simp only [w64_wrap, w64_def]
  rw [BitVec.toNat_mul, BitVec.toNat_ofNat, Nat.mul_mod_mod, Int.natCast_emod, Int.natCast_mul]; rfl
theorem w64_shr (x : BitVec 64) (j : Nat) : w64 x / ((2 ^ j : Nat) : Int) = w64 (x >>> j) := by
  simp only [w64_def]
  rw [BitVec.toNat_ushiftRight, Nat.shiftRight_eq_div_pow]; exact (Int.natCast_ediv _ _).symm
theorem w64_quo (x : BitVec 64) (j : Nat) : IntKind.u64.wrap ((w64 x).tdiv ((2 ^ j : Nat) : Int)) = w64 (x >>> j) := by
  rw [Int.tdiv_eq_ediv_of_nonneg (w64_bd x).1, w64_shr, w64_self]
/-- a word as the number that the machine holds -/
def w32 (x : BitVec 32) : Int := (x.toNat : Int)
theorem w32_def (x : BitVec 32) : w32 x = (x.toNat : Int) := rfl
theorem w32_bd (x : BitVec 32) : 0 ≤ w32 x ∧ w32 x ≤ 4294967295 := by have := x.isLt; rw [w32_def]; omega
theorem w32_inj {x y : BitVec 32} (h : w32 x = w32 y) : x = y := by rw [w32_def, w32_def] at h; exact BitVec.eq_of_toNat_eq (by omega)
theorem w32_wrap (n : Int) : IntKind.u32.wrap n = n % 4294967296 := IntKind.wrap_u32 n
theorem w32_self (x : BitVec 32) : IntKind.u32.wrap (w32 x) = w32 x := IntWalk.u32_in _ (w32_bd x)
theorem w32_ofInt (x : BitVec 32) : BitVec.ofInt 32 (w32 x) = x := by simp [w32_def]
theorem w32_xor (x y : BitVec 32) : bits .xor .u32 (w32 x) (w32 y) = w32 (x ^^^ y) := by
  show IntKind.u32.wrap ((BitVec.ofInt 32 (w32 x) ^^^ BitVec.ofInt 32 (w32 y)).toNat : Int) = _
  rw [w32_ofInt, w32_ofInt, ← w32_def, w32_self]
theorem w32_and (x y : BitVec 32) : bits .and .u32 (w32 x) (w32 y) = w32 (x &&& y) := by
  show IntKind.u32.wrap ((BitVec.ofInt 32 (w32 x) &&& BitVec.ofInt 32 (w32 y)).toNat : Int) = _
  rw [w32_ofInt, w32_ofInt, ← w32_def, w32_self]
theorem w32_or (x y : BitVec 32) : bits .or .u32 (w32 x) (w32 y) = w32 (x ||| y) := by
  show IntKind.u32.wrap ((BitVec.ofInt 32 (w32 x) ||| BitVec.ofInt 32 (w32 y)).toNat : Int) = _
  rw [w32_ofInt, w32_ofInt, ← w32_def, w32_self]
theorem w32_and_int (x : BitVec 32) (n : Int) : bits .and .u32 (w32 x) n = w32 (x &&& BitVec.ofInt 32 n) := by
  show IntKind.u32.wrap ((BitVec.ofInt 32 (w32 x) &&& BitVec.ofInt 32 n).toNat : Int) = _
  rw [w32_ofInt, ← w32_def, w32_self]
theorem w32_xor_int (x : BitVec 32) (n : Int) : bits .xor .u32 (w32 x) n = w32 (x ^^^ BitVec.ofInt 32 n) := by
  show IntKind.u32.wrap ((BitVec.ofInt 32 (w32 x) ^^^ BitVec.ofInt 32 n).toNat : Int) = _
  rw [w32_ofInt, ← w32_def, w32_self]
theorem w32_or_int (x : BitVec 32) (n : Int) : bits .or .u32 (w32 x) n = w32 (x ||| BitVec.ofInt 32 n) := by
  show IntKind.u32.wrap ((BitVec.ofInt 32 (w32 x) ||| BitVec.ofInt 32 n).toNat : Int) = _
  rw [w32_ofInt, ← w32_def, w32_self]
theorem w32_nat (n : Nat) : IntKind.u32.wrap (n : Int) = w32 (BitVec.ofNat 32 n) := by
  rw [w32_wrap, w32_def, BitVec.toNat_ofNat]; omega
theorem w32_int (n : Int) : IntKind.u32.wrap n = w32 (BitVec.ofInt 32 n) := by
  rw [w32_wrap, w32_def, BitVec.toNat_ofInt]; omega
theorem w32_lit (n : Nat) (h : n < 4294967296) : (n : Int) = w32 (BitVec.ofNat 32 n) := by
  rw [w32_def, BitVec.toNat_ofNat]; omega
theorem w32_add (x y : BitVec 32) : IntKind.u32.wrap (w32 x + w32 y) = w32 (x + y) := by
  simp only [w32_wrap, w32_def, BitVec.toNat_add]; omega
theorem w32_sub (x y : BitVec 32) : IntKind.u32.wrap (w32 x - w32 y) = w32 (x - y) := by
  have := x.isLt; have := y.isLt
  simp only [w32_wrap, w32_def, BitVec.toNat_sub]; omega
theorem w32_mul (x y : BitVec 32) : IntKind.u32.wrap (w32 x * w32 y) = w32 (x * y) := by
  simp only [w32_wrap, w32_def]
  rw [BitVec.toNat_mul, Int.natCast_emod, Int.natCast_mul]; rfl
theorem w32_mul_nat (x : BitVec 32) (n : Nat) : IntKind.u32.wrap (w32 x * (n : Int)) = w32 (x * BitVec.ofNat 32 n) := by
  simp only [w32_wrap, w32_def]
  rw [BitVec.toNat_mul, BitVec.toNat_ofNat, Nat.mul_mod_mod, Int.natCast_emod, Int.natCast_mul]; rfl
theorem w32_shr (x : BitVec 32) (j : Nat) : w32 x / ((2 ^ j : Nat) : Int) = w32 (x >>> j) := by
  simp only [w32_def]
  rw [BitVec.toNat_ushiftRight, Nat.shiftRight_eq_div_pow]; exact (Int.natCast_ediv _ _).symm
theorem w32_quo (x : BitVec 32) (j : Nat) : IntKind.u32.wrap ((w32 x).tdiv ((2 ^ j : Nat) : Int)) = w32 (x >>> j) := by
  rw [Int.tdiv_eq_ediv_of_nonneg (w32_bd x).1, w32_shr, w32_self]
/-- a word as the number that the machine holds -/
def w8 (x : BitVec 8) : Int := (x.toNat : Int)
theorem w8_def (x : BitVec 8) : w8 x = (x.toNat : Int) := rfl
theorem w8_bd (x : BitVec 8) : 0 ≤ w8 x ∧ w8 x ≤ 255 := by have := x.isLt; rw [w8_def]; omega
theorem w8_inj {x y : BitVec 8} (h : w8 x = w8 y) : x = y := by rw [w8_def, w8_def] at h; exact BitVec.eq_of_toNat_eq (by omega)
theorem w8_wrap (n : Int) : IntKind.u8.wrap n = n % 256 := IntKind.wrap_u8 n
theorem w8_self (x : BitVec 8) : IntKind.u8.wrap (w8 x) = w8 x := IntWalk.u8_in _ (w8_bd x)
theorem w8_ofInt (x : BitVec 8) : BitVec.ofInt 8 (w8 x) = x := by simp [w8_def]
theorem w8_xor (x y : BitVec 8) : bits .xor .u8 (w8 x) (w8 y) = w8 (x ^^^ y) := by
  show IntKind.u8.wrap ((BitVec.ofInt 8 (w8 x) ^^^ BitVec.ofInt 8 (w8 y)).toNat : Int) = _
  rw [w8_ofInt, w8_ofInt, ← w8_def, w8_self]
theorem w8_and (x y : BitVec 8) : bits .and .u8 (w8 x) (w8 y) = w8 (x &&& y) := by
  show IntKind.u8.wrap ((BitVec.ofInt 8 (w8 x) &&& BitVec.ofInt 8 (w8 y)).toNat : Int) = _
  rw [w8_ofInt, w8_ofInt, ← w8_def, w8_self]
theorem w8_or (x y : BitVec 8) : bits .or .u8 (w8 x) (w8 y) = w8 (x ||| y) := by
  show IntKind.u8.wrap ((BitVec.ofInt 8 (w8 x) ||| BitVec.ofInt 8 (w8 y)).toNat : Int) = _
  rw [w8_ofInt, w8_ofInt, ← w8_def, w8_self]
theorem w8_and_int (x : BitVec 8) (n : Int) : bits .and .u8 (w8 x) n = w8 (x &&& BitVec.ofInt 8 n) := by
  show IntKind.u8.wrap ((BitVec.ofInt 8 (w8 x) &&& BitVec.ofInt 8 n).toNat : Int) = _
  rw [w8_ofInt, ← w8_def, w8_self]
theorem w8_xor_int (x : BitVec 8) (n : Int) : bits .xor .u8 (w8 x) n = w8 (x ^^^ BitVec.ofInt 8 n) := by
  show IntKind.u8.wrap ((BitVec.ofInt 8 (w8 x) ^^^ BitVec.ofInt 8 n).toNat : Int) = _
  rw [w8_ofInt, ← w8_def, w8_self]
theorem w8_or_int (x : BitVec 8) (n : Int) : bits .or .u8 (w8 x) n = w8 (x ||| BitVec.ofInt 8 n) := by
  show IntKind.u8.wrap ((BitVec.ofInt 8 (w8 x) ||| BitVec.ofInt 8 n).toNat : Int) = _
  rw [w8_ofInt, ← w8_def, w8_self]
theorem w8_nat (n : Nat) : IntKind.u8.wrap (n : Int) = w8 (BitVec.ofNat 8 n) := by
  rw [w8_wrap, w8_def, BitVec.toNat_ofNat]; omega
theorem w8_int (n : Int) : IntKind.u8.wrap n = w8 (BitVec.ofInt 8 n) := by
  rw [w8_wrap, w8_def, BitVec.toNat_ofInt]; omega
theorem w8_lit (n : Nat) (h : n < 256) : (n : Int) = w8 (BitVec.ofNat 8 n) := by
  rw [w8_def, BitVec.toNat_ofNat]; omega
theorem w8_add (x y : BitVec 8) : IntKind.u8.wrap (w8 x + w8 y) = w8 (x + y) := by
  simp only [w8_wrap, w8_def, BitVec.toNat_add]; omega
theorem w8_sub (x y : BitVec 8) : IntKind.u8.wrap (w8 x - w8 y) = w8 (x - y) := by
  have := x.isLt; have := y.isLt
  simp only [w8_wrap, w8_def, BitVec.toNat_sub]; omega
theorem w8_mul (x y : BitVec 8) : IntKind.u8.wrap (w8 x * w8 y) = w8 (x * y) := by
  simp only [w8_wrap, w8_def]
  rw [BitVec.toNat_mul, Int.natCast_emod, Int.natCast_mul]; rfl
theorem w8_mul_nat (x : BitVec 8) (n : Nat) : IntKind.u8.wrap (w8 x * (n : Int)) = w8 (x * BitVec.ofNat 8 n) := by
  simp only [w8_wrap, w8_def]
  rw [BitVec.toNat_mul, BitVec.toNat_ofNat, Nat.mul_mod_mod, Int.natCast_emod, Int.natCast_mul]; rfl
theorem w8_shr (x : BitVec 8) (j : Nat) : w8 x / ((2 ^ j : Nat) : Int) = w8 (x >>> j) := by
  simp only [w8_def]
  rw [BitVec.toNat_ushiftRight, Nat.shiftRight_eq_div_pow]; exact (Int.natCast_ediv _ _).symm
theorem w8_quo (x : BitVec 8) (j : Nat) : IntKind.u8.wrap ((w8 x).tdiv ((2 ^ j : Nat) : Int)) = w8 (x >>> j) := by
  rw [Int.tdiv_eq_ediv_of_nonneg (w8_bd x).1, w8_shr, w8_self]
theorem w32_of_64 (x : BitVec 64) : IntKind.u32.wrap (w64 x) = w32 (x.setWidth 32) := by
  simp only [w32_wrap, w32_def, w64_def, BitVec.toNat_setWidth]; omega
theorem w32_of_64' (x : BitVec 64) : w64 x % (4294967296 : Int) = w32 (x.setWidth 32) := by
  simp only [w32_def, w64_def, BitVec.toNat_setWidth]; omega
theorem w64_of_32 (x : BitVec 32) : IntKind.u64.wrap (w32 x) = w64 (x.setWidth 64) := by
  have := x.isLt
  simp only [w64_wrap, w32_def, w64_def, BitVec.toNat_setWidth]; omega
theorem w8_of_64 (x : BitVec 64) : IntKind.u8.wrap (w64 x) = w8 (x.setWidth 8) := by
  simp only [w8_wrap, w8_def, w64_def, BitVec.toNat_setWidth]; omega
theorem w8_of_64' (x : BitVec 64) : w64 x % (256 : Int) = w8 (x.setWidth 8) := by
  simp only [w8_def, w64_def, BitVec.toNat_setWidth]; omega
theorem w64_of_8 (x : BitVec 8) : IntKind.u64.wrap (w8 x) = w64 (x.setWidth 64) := by
  have := x.isLt
  simp only [w64_wrap, w8_def, w64_def, BitVec.toNat_setWidth]; omega
theorem w8_of_32 (x : BitVec 32) : IntKind.u8.wrap (w32 x) = w8 (x.setWidth 8) := by
  simp only [w8_wrap, w8_def, w32_def, BitVec.toNat_setWidth]; omega
theorem w8_of_32' (x : BitVec 32) : w32 x % (256 : Int) = w8 (x.setWidth 8) := by
  simp only [w8_def, w32_def, BitVec.toNat_setWidth]; omega
theorem w32_of_8 (x : BitVec 8) : IntKind.u32.wrap (w8 x) = w32 (x.setWidth 32) := by
  have := x.isLt
  simp only [w32_wrap, w8_def, w32_def, BitVec.toNat_setWidth]; omega
theorem i64_mask (n : Int) (j : Nat) (hj : j < 63) : bits .and .i64 n ((2 ^ j - 1 : Nat) : Int) = n % ((2 ^ j : Nat) : Int) := by
  have hp : 2 ^ j < 2 ^ 63 := Nat.pow_lt_pow_right (by decide) hj
  have h1 : 0 < 2 ^ j := Nat.two_pow_pos j
  have hd : 2 ^ j ∣ 2 ^ 64 := Nat.pow_dvd_pow 2 (by omega)
  have e63 : (2 : Nat) ^ 63 = 9223372036854775808 := rfl
  have e64 : (2 : Nat) ^ 64 = 18446744073709551616 := rfl
  have hn : (BitVec.ofInt 64 n &&& BitVec.ofInt 64 ((2 ^ j - 1 : Nat) : Int)).toNat = (n % ((2 ^ j : Nat) : Int)).toNat := by
    rw [BitVec.toNat_and, BitVec.ofInt_natCast, BitVec.toNat_ofNat, Nat.mod_eq_of_lt (by omega), Nat.and_two_pow_sub_one_eq_mod, BitVec.toNat_ofInt]
    have h2 : (n % ((2 ^ 64 : Nat) : Int)) % ((2 ^ j : Nat) : Int) = n % ((2 ^ j : Nat) : Int) := Int.emod_emod_of_dvd n (by exact_mod_cast hd)
    have h3 : 0 ≤ n % ((2 ^ 64 : Nat) : Int) := Int.emod_nonneg _ (by omega)
    rw [← h2]
    generalize n % ((2 ^ 64 : Nat) : Int) = m at h3
    obtain ⟨k, rfl⟩ := Int.eq_ofNat_of_zero_le h3
    rfl
  show IntKind.i64.wrap ((BitVec.ofInt 64 n &&& BitVec.ofInt 64 ((2 ^ j - 1 : Nat) : Int)).toNat : Int) = _
  rw [hn]
  have h4 : 0 ≤ n % ((2 ^ j : Nat) : Int) := Int.emod_nonneg _ (by omega)
  have h5 : n % ((2 ^ j : Nat) : Int) < ((2 ^ j : Nat) : Int) := Int.emod_lt_of_pos _ (by omega)
  rw [Int.toNat_of_nonneg h4]
  exact IntWalk.i64_in _ (by omega)
attribute [irreducible] w64 w32 w8
end Go.My
