/- Plain laws on the rolling sum: no program in sight. -/
import Derived.WalkKit
namespace Go.My.Roll

theorem rotl_add (x : BitVec 32) (a b : Nat) : (x.rotateLeft a).rotateLeft b = x.rotateLeft (a + b) := by
  apply BitVec.eq_of_getMsbD_eq
  intro i hi
  rw [BitVec.getMsbD_rotateLeft, BitVec.getMsbD_rotateLeft, BitVec.getMsbD_rotateLeft]
  have h : (b + i) % 32 < 32 := Nat.mod_lt _ (by decide)
  simp only [hi, h, decide_true, Bool.true_and]
  congr 1
  omega
theorem rotl_xor (x y : BitVec 32) (a : Nat) : (x ^^^ y).rotateLeft a = x.rotateLeft a ^^^ y.rotateLeft a := by
  apply BitVec.eq_of_getMsbD_eq
  intro i hi
  rw [BitVec.getMsbD_xor, BitVec.getMsbD_rotateLeft, BitVec.getMsbD_rotateLeft, BitVec.getMsbD_rotateLeft, BitVec.getMsbD_xor]
  simp [hi]
theorem rotl_zero (a : Nat) : (0#32).rotateLeft a = 0#32 := by
  apply BitVec.eq_of_getMsbD_eq
  intro i hi
  rw [BitVec.getMsbD_rotateLeft]; simp
theorem rotl_nil (x : BitVec 32) : x.rotateLeft 0 = x := by
  apply BitVec.eq_of_getMsbD_eq
  intro i hi
  rw [BitVec.getMsbD_rotateLeft]
  simp [hi, Nat.mod_eq_of_lt hi]
theorem rotl_mod (x : BitVec 32) (a : Nat) : x.rotateLeft (a % 32) = x.rotateLeft a := BitVec.rotateLeft_mod_eq_rotateLeft
theorem rotl_one (x : BitVec 32) : x * 2#32 + x >>> 31 = x.rotateLeft 1 := by
  apply BitVec.eq_of_toNat_eq
  rw [BitVec.toNat_rotateLeft, BitVec.toNat_add, BitVec.toNat_mul, BitVec.toNat_ushiftRight]
  have hx := x.isLt
  simp only [Nat.shiftRight_eq_div_pow, Nat.shiftLeft_eq]
  have h1 : x.toNat * 2 ^ (1 % 32) % 2 ^ 32 = 2 ^ 1 * (x.toNat % 2 ^ 31) := by
    simp only [show (1 : Nat) % 32 = 1 from rfl, show (2 : Nat) ^ 1 = 2 from rfl, show (2 : Nat) ^ 32 = 4294967296 from rfl, show (2 : Nat) ^ 31 = 2147483648 from rfl]; omega
  have h2 : x.toNat / 2 ^ (32 - 1 % 32) < 2 ^ 1 := by
    simp only [show 32 - 1 % 32 = 31 from rfl, show (2 : Nat) ^ 1 = 2 from rfl, show (2 : Nat) ^ 31 = 2147483648 from rfl]; omega
  rw [h1, ← Nat.two_pow_add_eq_or_of_lt h2]
  simp only [show 32 - 1 % 32 = 31 from rfl, show (2 : Nat) ^ 1 = 2 from rfl, show (2 : Nat) ^ 32 = 4294967296 from rfl, show (2 : Nat) ^ 31 = 2147483648 from rfl, show (2#32).toNat = 2 from rfl]
  omega

section
variable (m : UInt8 → BitVec 32)
def H (l : List UInt8) : BitVec 32 := l.foldl (fun n c => n.rotateLeft 1 ^^^ m c) 0#32
theorem H_snoc (l : List UInt8) (c : UInt8) : H m (l ++ [c]) = (H m l).rotateLeft 1 ^^^ m c := by simp [H]
theorem H_nil : H m [] = 0#32 := rfl
theorem H_from (b : List UInt8) : ∀ x : BitVec 32, b.foldl (fun n c => n.rotateLeft 1 ^^^ m c) x = x.rotateLeft b.length ^^^ H m b := by
  induction b with
  | nil => intro x; simp [H_nil, rotl_nil]
  | cons c b ih =>
    intro x
    have h : H m (c :: b) = b.foldl (fun n c => n.rotateLeft 1 ^^^ m c) ((0#32).rotateLeft 1 ^^^ m c) := rfl
    rw [List.foldl_cons, ih, h, ih, rotl_zero, rotl_xor, rotl_add, BitVec.zero_xor, List.length_cons, Nat.add_comm 1, BitVec.xor_assoc]
theorem H_append (a b : List UInt8) : H m (a ++ b) = (H m a).rotateLeft b.length ^^^ H m b := by
  have : H m (a ++ b) = b.foldl (fun n c => n.rotateLeft 1 ^^^ m c) (H m a) := by simp [H]
  rw [this, H_from]
theorem H_one (c : UInt8) : H m [c] = m c := by simp [H, rotl_zero]
theorem H_cons (c : UInt8) (l : List UInt8) : H m (c :: l) = (m c).rotateLeft l.length ^^^ H m l := by
  rw [show c :: l = [c] ++ l from rfl, H_append, H_one]

/-- the last bytes -/
def lastN (n : Nat) (l : List UInt8) : List UInt8 := l.drop (l.length - n)
theorem lastN_short (n : Nat) (l : List UInt8) (h : l.length ≤ n) : lastN n l = l := by simp [lastN, show l.length - n = 0 by omega]
theorem lastN_snoc (n : Nat) (l : List UInt8) (c : UInt8) (hn : 0 < n) (h : n ≤ l.length) : ∃ t, lastN n l = l.getD (l.length - n) 0 :: t ∧ lastN n (l ++ [c]) = t ++ [c] ∧ t.length + 1 = n := by
  refine ⟨l.drop (l.length - n + 1), ?_, ?_, ?_⟩
  · unfold lastN
    rw [List.drop_eq_getElem_cons (by omega)]
    simp [List.getD_eq_getElem?_getD, show l.length - n < l.length by omega]
  · unfold lastN
    rw [List.length_append, List.length_singleton, show l.length + 1 - n = l.length - n + 1 by omega, List.drop_append_of_le_length (by omega)]
  · simp; omega

theorem lastN_append (n : Nat) (a b : List UInt8) (h : n ≤ b.length) : lastN n (a ++ b) = lastN n b := by
  unfold lastN
  rw [List.length_append, List.drop_append, List.drop_eq_nil_of_le (by omega : a.length ≤ a.length + b.length - n), List.nil_append]
  congr 1; omega

/-- what a window of n bytes holds behind the bytes l -/
structure Good (n : Nat) (l : List UInt8) (buf : List UInt8) (pos : Nat) (full : Bool) (sum : BitVec 32) : Prop where
  len : buf.length = n
  pos : pos = l.length % n
  full : full = decide (n ≤ l.length)
  sum : sum = H m (lastN n l)
  mem : ∀ j, j < l.length → l.length < j + n + 1 → buf.getD (j % n) 0 = l.getD j 0
theorem Good.start (n : Nat) (hn : 0 < n) (buf : List UInt8) (h : buf.length = n) : Good m n [] buf 0 false 0#32 where
  len := h
  pos := by simp
  full := by simp; omega
  sum := by simp [lastN, H_nil]
  mem := fun j hj => by simp at hj
theorem Good.push {n : Nat} {l buf : List UInt8} {pos : Nat} {full : Bool} {sum : BitVec 32} (hn : 0 < n) (g : Good m n l buf pos full sum) (c : UInt8) :
    Good m n (l ++ [c]) (buf.set pos c) (if pos + 1 = n then 0 else pos + 1) (if pos + 1 = n then true else full)
      (if full then (sum.rotateLeft 1 ^^^ m c) ^^^ (m (buf.getD pos 0)).rotateLeft (n % 32) else sum.rotateLeft 1 ^^^ m c) := by
  have hp := g.pos
  have hlt : l.length % n < n := Nat.mod_lt _ hn
  have hdm := Nat.div_add_mod l.length n
  refine ⟨by simp [g.len], ?_, ?_, ?_, ?_⟩
  · rw [List.length_append, List.length_singleton]
    split
    · rename_i h
      rw [show l.length + 1 = n * (l.length / n + 1) by rw [Nat.mul_add]; omega, Nat.mul_mod_right]
    · rename_i h
      rw [show l.length + 1 = l.length % n + 1 + n * (l.length / n) by omega, Nat.add_mul_mod_self_left, Nat.mod_eq_of_lt (by omega)]
      omega
  · rw [List.length_append, List.length_singleton, g.full]
    split
    · rename_i h
      have : n * (l.length / n + 1) = l.length + 1 := by rw [Nat.mul_add]; omega
      have h2 : n ≤ l.length + 1 := by rw [← this]; exact Nat.le_mul_of_pos_right n (Nat.succ_pos _)
      simp [h2]
    · rename_i h
      rw [decide_eq_decide]
      constructor
      · omega
      · intro h2
        rcases Nat.lt_or_ge l.length n with h3 | h3
        · have : l.length % n = l.length := Nat.mod_eq_of_lt h3
          omega
        · exact h3
  · rw [g.full, g.sum]
    by_cases h : n ≤ l.length
    · obtain ⟨t, h1, h2, h3⟩ := lastN_snoc n l c hn h
      simp only [h, decide_true, if_true]
      have hm := g.mem (l.length - n) (by omega) (by omega)
      have he : (l.length - n) % n = pos := by
        rw [g.pos]
        conv => rhs; rw [show l.length = l.length - n + n by omega]
        rw [Nat.add_mod_right]
      rw [he] at hm
      rw [hm, h1, h2, ← H_snoc, List.cons_append, H_cons, rotl_mod, List.length_append, List.length_singleton, h3, BitVec.xor_comm, ← BitVec.xor_assoc, BitVec.xor_self, BitVec.zero_xor]
    · simp only [h, decide_false, Bool.false_eq_true, if_false]
      rw [lastN_short n l (by omega), lastN_short n (l ++ [c]) (by simp; omega), H_snoc]
  · intro j hj h2
    rw [List.length_append, List.length_singleton] at hj h2
    by_cases hl : j = l.length
    · subst hl
      rw [← hp]
      simp [List.getD_eq_getElem?_getD, g.len, show pos < n by omega]
    · have hm := g.mem j (by omega) (by omega)
      have hjp : j % n ≠ pos := by
        rw [hp]; intro e
        have h5 := Nat.div_add_mod j n
        have h6 : n * (j / n) < n * (l.length / n) := by omega
        have h7 : j / n < l.length / n := Nat.lt_of_mul_lt_mul_left h6
        have h8 : n * (j / n + 1) ≤ n * (l.length / n) := Nat.mul_le_mul_left n h7
        rw [Nat.mul_add] at h8
        omega
      rw [List.getD_eq_getElem?_getD, List.getElem?_set_ne (Ne.symm hjp), ← List.getD_eq_getElem?_getD, hm]
      simp [List.getD_eq_getElem?_getD, List.getElem?_append, show j < l.length by omega]
end
end Go.My.Roll
