/-
  JOINED (6): plain laws of lists, of the sum and of what is found; the statements' example; append of many; opening arguments.
-/
import Derived.Test.YtefabpgfhghpgaaDoorTZE
import Derived.Laws.AppendOwnNone
import Derived.Maps.AppendAt
import Derived.Deep.Slices
import Derived.ProofKit
import Derived.OpenShut
import Derived.ShutString
import Derived.ChangeOld
set_option linter.unusedVariables false
set_option linter.unusedSimpArgs false

section
/- Plain laws of the tree: what is encoded is decoded. No walk. -/
namespace Go.Proofs.YtefabpgfhghpgaaDoor
open Go.RowKit Go.My

/-- what every list in memory is -/
structure WfN (n : NodeL) : Prop where
  sub : n.sub.length = 32
  parts : ∀ p ∈ n.parts, p.length = 32
  lo : -9223372036854775808 ≤ n.size
  hi : n.size ≤ 9223372036854775807
theorem IsNode.wf {w : World} {n : NodeL} {cs : List Value} (h : IsNode w n cs) : WfN n := by
  obtain ⟨⟨pv, -, ⟨pa, pc, -, -, -, h0⟩⟩, h1, h2, h3⟩ := h
  exact ⟨h1, h0.len, h2, h3⟩
theorem IsNodes.wf {w : World} {ns : List NodeL} {v : Value} (h : IsNodes w ns v) : ∀ n ∈ ns, WfN n := by
  intro m hm
  obtain ⟨a, c, rfl, -, -, hat⟩ := h
  obtain ⟨i, hi, rfl⟩ := List.mem_iff_getElem.1 hm
  obtain ⟨b, off, cs, -, -, hnd⟩ := hat.at_ i hi
  rw [List.getD_eq_getElem?_getD, List.getElem?_eq_getElem hi] at hnd
  exact hnd.wf

theorem idsP_append : ∀ (ps : List (List UInt8)) (r : List UInt8), (∀ p ∈ ps, p.length = 32) → idsP ps.length (ps.flatten ++ r) = some (ps, r)
  | [], r, _ => rfl
  | p :: ps, r, h => by
    have h1 := h p (List.mem_cons_self ..)
    rw [List.length_cons, idsP_succ, List.flatten_cons, List.append_assoc]
    rw [if_pos (by rw [List.length_append, h1]; omega), List.drop_left' h1, List.take_left' h1, idsP_append ps r (fun q hq => h q (List.mem_cons_of_mem _ hq))]
    rfl
theorem wrap64_of (n : Int) (h1 : 0 ≤ n) (h2 : n ≤ 9223372036854775807) : wrap64 ((n.toNat % 256 ^ 8 : Nat) : Int) = n := by
  have : n.toNat % 256 ^ 8 = n.toNat := Nat.mod_eq_of_lt (by omega)
  rw [this]
  unfold wrap64
  omega
theorem getP_append (n : NodeL) (r : List UInt8) (hw : WfN n) (hn : partB n.name = true) (he : nodeE n = 0) : getP (nodeB n ++ r) = some (n, r) := by
  obtain ⟨h1, h2, h3, h4⟩ := nodeE_ok he
  have hl := part_len hn
  obtain ⟨nm, dir, sz, parts, sub⟩ := n
  have hs := hw.sub; have hp := hw.parts; have hhi := hw.hi
  dsimp only at *
  cases dir
  · have hsub := h4 rfl
    subst hsub
    unfold getP nodeB
    simp only [Bool.false_eq_true, if_false, List.append_assoc]
    rw [numP_append]
    simp only [Option.bind_some]
    rw [bytesP_append nm _ 120 (by omega) (by omega)]
    simp only [Option.bind_some]
    rw [if_neg (by decide), numP_append]
    simp only [Option.bind_some]
    rw [numP_append]
    simp only [Option.bind_some]
    rw [Nat.mod_eq_of_lt (show parts.length < 256 ^ 4 by omega), idsP_append parts r hp, wrap64_of sz h1 hhi]
    rfl
  · obtain ⟨rfl, rfl⟩ := h3 rfl
    unfold getP nodeB
    simp only [if_true, List.append_assoc]
    rw [numP_append]
    simp only [Option.bind_some]
    rw [bytesP_append nm _ 120 (by omega) (by omega)]
    simp only [Option.bind_some]
    rw [if_pos (by decide), if_pos (by rw [List.length_append, hs]; omega), List.take_left' hs, List.drop_left' hs]
theorem nodesK_append : ∀ (ns : List NodeL) (r : List UInt8), (∀ n ∈ ns, WfN n) → (∀ n ∈ ns, partB n.name = true ∧ nodeE n = 0) → nodesK ns.length (nodesB ns ++ r) = some (ns, r)
  | [], r, _, _ => rfl
  | n :: ns, r, hw, h => by
    have h1 := h n (List.mem_cons_self ..)
    have hb : nodesB (n :: ns) = nodeB n ++ nodesB ns := by simp [nodesB]
    rw [List.length_cons, nodesK_succ, hb, List.append_assoc, getP_append n _ (hw n (List.mem_cons_self ..)) h1.1 h1.2]
    simp only [Option.bind_some]
    rw [nodesK_append ns r (fun m hm => hw m (List.mem_cons_of_mem _ hm)) (fun m hm => h m (List.mem_cons_of_mem _ hm))]
    rfl
theorem inner_seal (k : UInt8) (b : List UInt8) : innerB (sealB k b) = b := by
  unfold innerB
  rw [sealB_length, show b.length + 5 - 4 = (k :: b).length by rw [List.length_cons]; omega]
  unfold sealB
  rw [List.take_left, List.drop_one, List.tail_cons]
theorem seal_head (k : UInt8) (b : List UInt8) : (sealB k b).getD 0 0 = k := by simp [sealB]
theorem uns_seal (k : UInt8) (b : List UInt8) : unsC k (sealB k b) = 0 := by
  unfold unsC
  rw [sealB_length, if_neg (by omega), inner_seal, seal_head, if_pos rfl, if_pos rfl]
/-- what is encoded is decoded -/
theorem dec_enc (ns : List NodeL) (hw : ∀ n ∈ ns, WfN n) (h : nodesE ns = 0) : decT (encB ns) = some ns := by
  obtain ⟨h1, h2⟩ := nodes_ok h
  unfold decT
  rw [if_pos (by unfold encB; exact uns_seal _ _)]
  have hi : innerB (encB ns) = numB ns.length 4 ++ nodesB ns := by unfold encB; exact inner_seal _ _
  have hp : nodesP (innerB (encB ns)) = some (ns, []) := by
    rw [hi]
    unfold nodesP
    rw [numP_append]
    simp only [Option.bind_some]
    rw [Nat.mod_eq_of_lt (show ns.length < 256 ^ 4 by omega)]
    have := nodesK_append ns [] hw h2
    rwa [List.append_nil] at this
  rw [hp]
  simp only [Option.bind_some]
  rw [if_pos ⟨trivial, h, trivial⟩]
theorem dec_some {l : List UInt8} {ns : List NodeL} (h : decT l = some ns) : unsC 84 l = 0 ∧ nodesE ns = 0 ∧ encB ns = l := by
  unfold decT at h
  split at h
  · rename_i h1
    cases hp : nodesP (innerB l) with
    | none => rw [hp] at h; cases h
    | some a =>
      rw [hp] at h
      simp only [Option.bind_some] at h
      split at h
      · rename_i h2
        cases h
        exact ⟨h1, h2.2.1, h2.2.2⟩
      · cases h
  · cases h
theorem decE_some {l : List UInt8} {ns : List NodeL} (h : decT l = some ns) : decE l = 0 := by
  unfold decE
  rw [if_pos (dec_some h).1, h]
theorem decE_none {l : List UInt8} (h : decT l = none) : decE l ≠ 0 := by
  unfold decE
  split
  · rw [h]; decide
  · assumption
theorem enc_same (xs ys : List NodeL) (hx : ∀ n ∈ xs, WfN n) (hy : ∀ n ∈ ys, WfN n) (h1 : nodesE xs = 0) (h2 : nodesE ys = 0) : decide (encB xs = encB ys) = decide (xs = ys) := by
  congr 1
  refine propext ⟨fun h => ?_, fun h => by rw [h]⟩
  have h3 := dec_enc xs hx h1
  rw [h, dec_enc ys hy h2] at h3
  exact (Option.some.inj h3).symm
theorem enc_len (ns : List NodeL) (hw : ∀ n ∈ ns, WfN n) (h : nodesE ns = 0) : (encB ns).length ≤ 67584009 ∧ 9 ≤ (encB ns).length := by
  obtain ⟨h1, h2⟩ := nodes_ok h
  have h3 := nodesB_len ns ns.length (fun n hn => nodeB_len (h2 n hn).1 (h2 n hn).2 (hw n hn).sub (hw n hn).parts)
  rw [List.take_length] at h3
  unfold encB
  rw [sealB_length, List.length_append, numB_length]
  omega
end Go.Proofs.YtefabpgfhghpgaaDoor
end

section
/- The sum's law: turned within 32 bits, not all noughts, bytes have another sum. No walk. -/
namespace Go.Proofs.YtefabpgfhghpgaaDoor
open Go.RowKit Go.My

theorem crc1_if (n : BitVec 32) : crc1 n = (n >>> 1) ^^^ (if n.getLsbD 0 then 2197175160#32 else 0#32) := by
  have h : n &&& 1#32 = if n.getLsbD 0 then 1#32 else 0#32 := by
    apply BitVec.eq_of_getLsbD_eq
    intro i hi
    rw [BitVec.getLsbD_and]
    rcases Nat.eq_zero_or_pos i with rfl | hp
    · cases n.getLsbD 0 <;> simp
    · have : (1#32).getLsbD i = false := by simp; omega
      rw [this]
      cases n.getLsbD 0
      · simp
      · simp; omega
  unfold crc1
  rw [h]
  cases n.getLsbD 0 <;> rfl
theorem crc1_xor (a b : BitVec 32) : crc1 (a ^^^ b) = crc1 a ^^^ crc1 b := by
  rw [crc1_if, crc1_if, crc1_if, BitVec.ushiftRight_xor_distrib, BitVec.getLsbD_xor]
  generalize a >>> 1 = x
  generalize b >>> 1 = y
  cases a.getLsbD 0 <;> cases b.getLsbD 0 <;> simp
  · rw [BitVec.xor_assoc]
  · rw [BitVec.xor_assoc, BitVec.xor_assoc, BitVec.xor_comm y]
  · apply BitVec.eq_of_getLsbD_eq
    intro i hi
    simp
    cases x.getLsbD i <;> cases y.getLsbD i <;> cases (2197175160#32).getLsbD i <;> rfl
theorem crc1_zero : crc1 0#32 = 0#32 := by decide
theorem crc1_inj (n : BitVec 32) (h : crc1 n = 0#32) : n = 0#32 := by
  rw [crc1_if] at h
  cases hb : n.getLsbD 0
  · rw [hb] at h
    simp only [Bool.false_eq_true, if_false, BitVec.xor_zero] at h
    apply BitVec.eq_of_getLsbD_eq
    intro i hi
    rcases Nat.eq_zero_or_pos i with rfl | hp
    · rw [hb]; simp
    · have := congrArg (fun x => BitVec.getLsbD x (i - 1)) h
      simp only [BitVec.getLsbD_ushiftRight] at this
      rw [show 1 + (i - 1) = i by omega] at this
      rw [this]; simp
  · rw [hb] at h
    have := congrArg (fun x => BitVec.getLsbD x 31) h
    simp at this
theorem crcK_xor (k : Nat) (a b : BitVec 32) : crcK k (a ^^^ b) = crcK k a ^^^ crcK k b := by
  induction k with
  | zero => rfl
  | succ k ih => rw [crcK, ih, crc1_xor]; rfl
theorem crcK_zero (k : Nat) : crcK k 0#32 = 0#32 := by
  induction k with
  | zero => rfl
  | succ k ih => rw [crcK, ih, crc1_zero]
theorem crcK_inj (k : Nat) (n : BitVec 32) (h : crcK k n = 0#32) : n = 0#32 := by
  induction k with
  | zero => exact h
  | succ k ih => exact ih (crc1_inj _ h)
theorem crcK_add (j k : Nat) (n : BitVec 32) : crcK (k + j) n = crcK k (crcK j n) := by
  induction k with
  | zero => rw [Nat.zero_add]; rfl
  | succ k ih => rw [show k + 1 + j = (k + j) + 1 by omega, crcK, ih]; rfl
/-- one bit, at a place -/
def bitW (b : Bool) : BitVec 32 := if b then 1#32 else 0#32
theorem crcK_bit (b : Bool) : ∀ k, k < 32 → crcK k (bitW b <<< k) = bitW b := by
  cases b
  · intro k _; show crcK k (0#32 <<< k) = 0#32; rw [BitVec.zero_shiftLeft, crcK_zero]
  · have : ∀ k : Fin 32, crcK k.val (1#32 <<< k.val) = 1#32 := by decide +kernel
    intro k hk; exact this ⟨k, hk⟩
/-- bits, fed one by one -/
def crcF (f : Nat → Bool) : Nat → BitVec 32 → BitVec 32
  | 0, n => n
  | k + 1, n => crc1 (crcF f k n ^^^ bitW (f k))
theorem crcF_xor (f g : Nat → Bool) (k : Nat) (n m : BitVec 32) : crcF (fun i => f i ^^ g i) k (n ^^^ m) = crcF f k n ^^^ crcF g k m := by
  induction k with
  | zero => rfl
  | succ k ih =>
    have hb : bitW (f k ^^ g k) = bitW (f k) ^^^ bitW (g k) := by cases f k <;> cases g k <;> decide
    rw [crcF, crcF, crcF, ih, ← crc1_xor]
    simp only [hb]
    congr 1
    generalize crcF f k n = a; generalize crcF g k m = b; generalize bitW (f k) = c; generalize bitW (g k) = d
    rw [BitVec.xor_assoc, BitVec.xor_assoc, ← BitVec.xor_assoc b c d, BitVec.xor_comm b c, BitVec.xor_assoc c b d]
theorem crcF_add (f : Nat → Bool) (j k : Nat) (n : BitVec 32) : crcF f (j + k) n = crcF (fun i => f (j + i)) k (crcF f j n) := by
  induction k with
  | zero => rfl
  | succ k ih => rw [← Nat.add_assoc, crcF, ih]; rfl
theorem crcF_congr (f g : Nat → Bool) (k : Nat) (n : BitVec 32) (h : ∀ i, i < k → f i = g i) : crcF f k n = crcF g k n := by
  induction k with
  | zero => rfl
  | succ k ih => rw [crcF, crcF, ih (fun i hi => h i (by omega)), h k (by omega)]
theorem crcF_none (k : Nat) (n : BitVec 32) : crcF (fun _ => false) k n = crcK k n := by
  induction k with
  | zero => rfl
  | succ k ih => rw [crcF, ih, crcK]; unfold bitW; simp
/-- bits, laid side by side -/
def bitsW (f : Nat → Bool) : Nat → BitVec 32
  | 0 => 0#32
  | k + 1 => bitsW f k ^^^ (bitW (f k) <<< k)
theorem crcF_bits (f : Nat → Bool) (k : Nat) (hk : k ≤ 32) (n : BitVec 32) : crcF f k n = crcK k (n ^^^ bitsW f k) := by
  induction k with
  | zero => simp [crcF, crcK, bitsW]
  | succ k ih =>
    rw [crcF, ih (by omega), crcK, bitsW, ← BitVec.xor_assoc, crcK_xor k (n ^^^ bitsW f k), crcK_bit _ k (by omega)]
theorem bitsW_get (f : Nat → Bool) (k i : Nat) (hk : k ≤ 32) (hi : i < 32) : (bitsW f k).getLsbD i = (decide (i < k) && f i) := by
  induction k with
  | zero => simp [bitsW]
  | succ k ih =>
    rw [bitsW, BitVec.getLsbD_xor, ih (by omega), BitVec.getLsbD_shiftLeft]
    have hb : ∀ j, (bitW (f k)).getLsbD j = (decide (j = 0) && f k) := by
      intro j
      unfold bitW
      cases f k
      · simp
      · simp
    rw [hb]
    by_cases h1 : i < k
    · have h2 : i < k + 1 := by omega
      simp [h1, h2, hi]
    · by_cases h3 : i = k
      · subst h3; simp [hi]
      · have h2 : ¬ i < k + 1 := by omega
        have h4 : ¬ i - k = 0 := by omega
        simp [h1, h2, h4]
theorem bitsW_of (x : BitVec 32) : bitsW x.getLsbD 32 = x := by
  apply BitVec.eq_of_getLsbD_eq
  intro i hi
  rw [bitsW_get _ _ _ (Nat.le_refl _) hi]
  simp [hi]
/-- a byte's bit -/
def bitB (l : List UInt8) (j : Nat) : Bool := (l.getD (j / 8) 0).toNat.testBit (j % 8)
theorem bits8 (c : UInt8) : bitsW (fun i => c.toNat.testBit i) 8 = BitVec.ofNat 32 c.toNat := by
  apply BitVec.eq_of_getLsbD_eq
  intro i hi
  rw [bitsW_get _ _ _ (by decide) hi, BitVec.getLsbD_ofNat]
  by_cases h : i < 8
  · simp [h, hi]
  · have h1 : c.toNat < 2 ^ i := Nat.lt_of_lt_of_le c.toNat_lt (Nat.pow_le_pow_right (by decide) (show 8 ≤ i by omega))
    rw [Nat.testBit_lt_two_pow h1]
    simp
theorem crcB_bits (n : BitVec 32) (c : UInt8) : crcB n c = crcF (fun i => c.toNat.testBit i) 8 n := by
  rw [crcF_bits _ 8 (by decide), bits8]; rfl
theorem snocInd {p : List UInt8 → Prop} (l : List UInt8) (h0 : p []) (h1 : ∀ l c, p l → p (l ++ [c])) : p l := by
  have h : ∀ k : List UInt8, p k.reverse := fun k => by
    induction k with
    | nil => exact h0
    | cons c k ih => rw [List.reverse_cons]; exact h1 _ _ ih
  have := h l.reverse
  rwa [List.reverse_reverse] at this
theorem crcL_bits (l : List UInt8) (n : BitVec 32) : crcL l n = crcF (bitB l) (8 * l.length) n := by
  refine snocInd (p := fun l => crcL l n = crcF (bitB l) (8 * l.length) n) l ?_ ?_
  · rfl
  · intro l c ih
    rw [crcL_snoc, ih, crcB_bits, List.length_append, List.length_singleton, Nat.mul_add, Nat.mul_one, crcF_add]
    rw [crcF_congr (bitB (l ++ [c])) (bitB l) (8 * l.length)]
    · refine crcF_congr _ _ 8 _ fun i hi => ?_
      unfold bitB
      rw [show (8 * l.length + i) / 8 = l.length by omega, show (8 * l.length + i) % 8 = i by omega]
      simp [List.getD_eq_getElem?_getD]
    · intro i hi
      unfold bitB
      rw [List.getD_eq_getElem?_getD, List.getD_eq_getElem?_getD, List.getElem?_append_left (by omega)]
theorem numB_bit : ∀ (k n i : Nat), i < 8 * k → bitB (numB n k) i = n.testBit i := by
  intro k
  induction k with
  | zero => intro n i h; omega
  | succ k ih =>
    intro n i h
    by_cases hi : i < 8
    · unfold bitB
      rw [show i / 8 = 0 by omega, show i % 8 = i by omega, numB]
      show (UInt8.ofNat (n % 256)).toNat.testBit i = _
      rw [UInt8.toNat_ofNat', Nat.mod_eq_of_lt (show n % 256 < 2 ^ 8 by omega), show (256 : Nat) = 2 ^ 8 by rfl, Nat.testBit_mod_two_pow]
      simp [hi]
    · have h1 := ih (n / 256) (i - 8) (by omega)
      unfold bitB at h1 ⊢
      rw [show i / 8 = (i - 8) / 8 + 1 by omega, show i % 8 = (i - 8) % 8 by omega, numB]
      show ((numB (n / 256) k).getD ((i - 8) / 8) 0).toNat.testBit ((i - 8) % 8) = _
      rw [h1, show (256 : Nat) = 2 ^ 8 by rfl, Nat.testBit_div_two_pow]
      congr 1; omega
theorem bitsW_eq (f : Nat → Bool) (v : BitVec 32) (h : ∀ i, i < 32 → f i = v.getLsbD i) : bitsW f 32 = v := by
  apply BitVec.eq_of_getLsbD_eq
  intro i hi
  rw [bitsW_get _ _ _ (Nat.le_refl _) hi, h i hi]
  simp [hi]
theorem crc_seal (k : UInt8) (b : List UInt8) : crcL (sealB k b) 4294967295#32 = crcK 32 4294967295#32 := by
  unfold sealB
  rw [crcL_append]
  unfold sumW
  generalize crcL (k :: b) 4294967295#32 = s
  rw [crcL_bits, numB_length, crcF_bits _ 32 (Nat.le_refl _), bitsW_eq _ (~~~ s) (fun i hi => by rw [numB_bit 4 _ i hi]; rfl)]
  congr 1
  apply BitVec.eq_of_getLsbD_eq
  intro i hi
  rw [BitVec.getLsbD_xor, BitVec.getLsbD_not]
  have : (4294967295#32).getLsbD i = true := by
    have h : ∀ i : Fin 32, (4294967295#32).getLsbD i.val = true := by decide
    exact h ⟨i, hi⟩
  rw [this]
  simp [hi]
/-- turned within 32 bits -/
def turnD (at_ : Nat) (t : BitVec 32) (k j : Nat) : Bool := decide (at_ ≤ j) && decide (j < at_ + k) && t.getLsbD (j - at_)
theorem burst (x y : List UInt8) (at_ : Nat) (t n : BitVec 32) (hl : y.length = x.length) (hat : at_ + 32 ≤ 8 * x.length) (h : ∀ j, j < 8 * x.length → bitB y j = (bitB x j ^^ turnD at_ t 32 j)) (he : crcL x n = crcL y n) : t = 0#32 := by
  obtain ⟨r, hr⟩ : ∃ r, 8 * x.length = at_ + (32 + r) := ⟨8 * x.length - at_ - 32, by omega⟩
  have h1 : crcF (fun i => bitB x i ^^ bitB y i) (8 * x.length) (n ^^^ n) = 0#32 := by
    rw [crcF_xor]
    have e1 := crcL_bits x n; have e2 := crcL_bits y n
    rw [hl] at e2
    rw [← e1, ← e2, he, BitVec.xor_self]
  rw [BitVec.xor_self, crcF_congr _ (turnD at_ t 32) _ _ (fun i hi => by rw [h i hi]; cases bitB x i <;> cases turnD at_ t 32 i <;> rfl)] at h1
  rw [hr, crcF_add, crcF_add] at h1
  have e0 : crcF (turnD at_ t 32) at_ 0#32 = 0#32 := by
    rw [crcF_congr _ (fun _ => false) at_ _ (fun i hi => by unfold turnD; simp; omega), crcF_none, crcK_zero]
  rw [e0, crcF_bits _ 32 (Nat.le_refl _), BitVec.zero_xor, bitsW_eq _ t (fun i hi => by unfold turnD; simp [hi])] at h1
  rw [crcF_congr _ (fun _ => false) r _ (fun i hi => by unfold turnD; simp), crcF_none] at h1
  exact crcK_inj 32 t (crcK_inj r _ h1)
/-- a byte with one bit turned -/
def xorB (c : UInt8) (r : Nat) : UInt8 := UInt8.ofNat (c.toNat ^^^ 2 ^ r)
theorem xorB_bit (c : UInt8) (r i : Nat) (hr : r < 8) : (xorB c r).toNat.testBit i = (c.toNat.testBit i ^^ decide (r = i)) := by
  unfold xorB
  have h2 : 2 ^ r < 2 ^ 8 := Nat.pow_lt_pow_right (by decide) hr
  have h1 : c.toNat ^^^ 2 ^ r < 2 ^ 8 := Nat.xor_lt_two_pow c.toNat_lt h2
  rw [UInt8.toNat_ofNat', Nat.mod_eq_of_lt h1, Nat.testBit_xor, Nat.testBit_two_pow]
def turnS (at_ : Nat) (t : BitVec 32) : Nat → List UInt8 → List UInt8
  | 0, x => x
  | i + 1, x => if t.getLsbD i then (turnS at_ t i x).set ((at_ + i) / 8) (xorB ((turnS at_ t i x).getD ((at_ + i) / 8) 0) ((at_ + i) % 8)) else turnS at_ t i x
theorem turnS_length (at_ : Nat) (t : BitVec 32) (k : Nat) (x : List UInt8) : (turnS at_ t k x).length = x.length := by
  induction k with
  | zero => rfl
  | succ k ih => rw [turnS]; split <;> simp [ih]
theorem turnS_zero (at_ : Nat) (k : Nat) (x : List UInt8) : turnS at_ 0#32 k x = x := by
  induction k with
  | zero => rfl
  | succ k ih => rw [turnS, if_neg (by simp), ih]
theorem turnS_bit (at_ : Nat) (t : BitVec 32) (x : List UInt8) (k : Nat) (hat : at_ + k ≤ 8 * x.length) (j : Nat) (hj : j < 8 * x.length) : bitB (turnS at_ t k x) j = (bitB x j ^^ turnD at_ t k j) := by
  induction k with
  | zero =>
    have : turnD at_ t 0 j = false := by unfold turnD; simp; omega
    rw [this, turnS, Bool.xor_false]
  | succ k ih =>
    have ih := ih (by omega)
    have hstep : turnD at_ t (k + 1) j = (turnD at_ t k j ^^ (decide (j = at_ + k) && t.getLsbD k)) := by
      unfold turnD
      by_cases h1 : j = at_ + k
      · subst h1; simp
      · by_cases h2 : j < at_ + k
        · have h3 : j < at_ + (k + 1) := by omega
          simp [h1, h2, h3]
        · have h3 : ¬ j < at_ + (k + 1) := by omega
          simp [h1, h2, h3]
    rw [turnS]
    split
    · rename_i ht
      have hl := turnS_length at_ t k x
      by_cases h1 : j / 8 = (at_ + k) / 8
      · have hb : bitB ((turnS at_ t k x).set ((at_ + k) / 8) (xorB ((turnS at_ t k x).getD ((at_ + k) / 8) 0) ((at_ + k) % 8))) j = (xorB ((turnS at_ t k x).getD ((at_ + k) / 8) 0) ((at_ + k) % 8)).toNat.testBit (j % 8) := by
          unfold bitB
          rw [h1, List.getD_eq_getElem?_getD, List.getElem?_set_self (by rw [hl]; omega)]
          rfl
        rw [hb, xorB_bit _ _ _ (by omega), ← h1]
        have e : ((turnS at_ t k x).getD (j / 8) 0).toNat.testBit (j % 8) = bitB (turnS at_ t k x) j := rfl
        rw [e, ih, hstep, ht, Bool.and_true, Bool.xor_assoc]
        congr 2
        by_cases h2 : j = at_ + k
        · subst h2; simp
        · have h3 : ¬ (at_ + k) % 8 = j % 8 := by omega
          simp [h2, h3]
      · have hb : bitB ((turnS at_ t k x).set ((at_ + k) / 8) (xorB ((turnS at_ t k x).getD ((at_ + k) / 8) 0) ((at_ + k) % 8))) j = bitB (turnS at_ t k x) j := by
          unfold bitB
          rw [List.getD_eq_getElem?_getD, List.getElem?_set_ne (fun h => h1 h.symm), ← List.getD_eq_getElem?_getD]
        have h2 : ¬ j = at_ + k := fun h => h1 (by rw [h])
        rw [hb, ih, hstep]
        simp [h2]
    · rename_i ht
      have ht' : t.getLsbD k = false := by simpa using ht
      rw [ih, hstep, ht', Bool.and_false, Bool.xor_false]
/-- what is turned is no sealed thing -/
theorem spoiled (k kd : UInt8) (b : List UInt8) (at_ : Nat) (t : BitVec 32) (ht : t ≠ 0#32) (hat : at_ + 32 ≤ 8 * (sealB k b).length) : unsC kd (turnS at_ t 32 (sealB k b)) = 36 := by
  unfold unsC
  rw [turnS_length, sealB_length, if_neg (by omega), if_neg]
  intro h
  have h1 := crc_seal ((turnS at_ t 32 (sealB k b)).getD 0 0) (innerB (turnS at_ t 32 (sealB k b)))
  rw [h] at h1
  exact ht (burst (sealB k b) _ at_ t 4294967295#32 (turnS_length _ _ _ _) hat (fun j hj => turnS_bit at_ t _ 32 hat j hj) (by rw [h1, crc_seal]))
end Go.Proofs.YtefabpgfhghpgaaDoor
end

section
/- Plain laws of the tree: right lists, and what is found in them. No walk. -/
namespace Go.Proofs.YtefabpgfhghpgaaDoor
open Go.RowKit Go.My

def lastNm : Option (List UInt8) → List NodeL → Option (List UInt8)
  | p, [] => p
  | _, n :: ns => lastNm (some n.name) ns
theorem chk_append (xs ys : List NodeL) : ∀ p, chkL p xs = 0 → chkL p (xs ++ ys) = chkL (lastNm p xs) ys := by
  induction xs with
  | nil => intro p _; rfl
  | cons n xs ih =>
    intro p h
    rw [List.cons_append, chk_cons]
    rw [chk_cons] at h
    split at h
    · cases h
    · rename_i h1
      split at h
      · cases h
      · rename_i h2
        split at h
        · rename_i h3
          rw [if_neg h1, if_neg h2, if_pos h3, ih _ h]; rfl
        · rename_i h3; exact absurd h h3
theorem chk_split (xs ys : List NodeL) : ∀ p, chkL p (xs ++ ys) = 0 → chkL p xs = 0 ∧ chkL (lastNm p xs) ys = 0 := by
  induction xs with
  | nil => intro p h; exact ⟨rfl, h⟩
  | cons n xs ih =>
    intro p h
    rw [List.cons_append, chk_cons] at h
    rw [chk_cons]
    split at h
    · cases h
    · rename_i h1
      split at h
      · cases h
      · rename_i h2
        split at h
        · rename_i h3
          rw [if_neg h1, if_neg h2, if_pos h3]; exact ih _ h
        · rename_i h3; exact absurd h h3
theorem chk_head {p : Option (List UInt8)} {n : NodeL} {ns : List NodeL} (h : chkL p (n :: ns) = 0) : partB n.name = true ∧ badB p n.name = false ∧ nodeE n = 0 ∧ chkL (some n.name) ns = 0 := by
  rw [chk_cons] at h
  split at h
  · cases h
  · rename_i h1
    split at h
    · cases h
    · rename_i h2
      split at h
      · rename_i h3
        exact ⟨by simpa using h1, by simpa using h2, h3, h⟩
      · rename_i h3; exact absurd h h3
theorem chk_drop {p q : Option (List UInt8)} {ns : List NodeL} (hp : ∀ x, badB q x = false → badB p x = false) (h : chkL q ns = 0) : chkL p ns = 0 := by
  cases ns with
  | nil => rfl
  | cons n ns =>
    obtain ⟨h1, h2, h3, h4⟩ := chk_head h
    rw [chk_cons, if_neg (by rw [h1]; decide), if_neg (by rw [hp _ h2]; decide), if_pos h3, h4]
theorem split_at {ns : List NodeL} {i : Nat} (h : i < ns.length) : ns = ns.take i ++ ns.getD i node0 :: ns.drop (i + 1) := by
  have := List.take_append_drop i ns
  rw [drop_get ns node0 i h] at this
  exact this.symm
theorem nodesE_small {ns : List NodeL} (h : ns.length ≤ 512) : nodesE ns = chkL none ns := by unfold nodesE; rw [if_neg (by omega)]

/-- a node put in a right one's place -/
theorem chk_set {ns : List NodeL} {i : Nat} (hi : i < ns.length) (hl : ns.length ≤ 512) (h : nodesE ns = 0) (n : NodeL) :
    (partB n.name = false → nodesE (ns.set i n) = 38) ∧ (n.name = (ns.getD i node0).name → nodeE n ≠ 0 → nodesE (ns.set i n) = nodeE n) := by
  rw [nodesE_small (by rw [List.length_set]; exact hl)]
  rw [nodesE_small hl] at h
  have hs : ns.set i n = ns.take i ++ n :: ns.drop (i + 1) := by rw [List.set_eq_take_append_cons_drop, if_pos hi]
  rw [split_at hi] at h
  obtain ⟨h1, h2⟩ := chk_split _ _ _ h
  obtain ⟨h3, h4, h5, h6⟩ := chk_head h2
  rw [hs, chk_append _ _ _ h1, chk_cons]
  refine ⟨fun hb => if_pos hb, fun hb he => ?_⟩
  rw [hb, if_neg (by rw [h3]; decide), if_neg (by rw [h4]; decide), if_neg he]
theorem chk_twice {ns : List NodeL} {i : Nat} (hi : i < ns.length) (hl : ns.length < 512) (h : nodesE ns = 0) : nodesE (ns.take (i + 1) ++ ns.drop i) = 24 := by
  rw [nodesE_small (by rw [List.length_append, List.length_take, List.length_drop]; omega)]
  rw [nodesE_small (by omega)] at h
  have e : ns.take (i + 1) = ns.take i ++ [ns.getD i node0] := by
    rw [List.take_add_one, List.getD_eq_getElem?_getD, List.getElem?_eq_getElem hi]; rfl
  have h0 := h
  rw [split_at hi] at h
  obtain ⟨h1, h2⟩ := chk_split _ _ _ h
  obtain ⟨h3, h4, h5, h6⟩ := chk_head h2
  rw [drop_get ns node0 i hi, e, List.append_assoc, chk_append _ _ _ h1]
  generalize ns.getD i node0 = n at *
  rw [List.singleton_append, chk_cons, if_neg (by rw [h3]; decide), if_neg (by rw [h4]; decide), if_pos h5, chk_cons, if_neg (by rw [h3]; decide)]
  rw [if_pos (by show (!(Op.bytesLess n.name n.name)) = true; rw [bl_irrefl]; rfl)]
theorem chk_less {ns : List NodeL} {i : Nat} (hi : i < ns.length) (hl : ns.length ≤ 512) (h : nodesE ns = 0) : nodesE (ns.take i ++ ns.drop (i + 1)) = 0 := by
  rw [nodesE_small (by rw [List.length_append, List.length_take, List.length_drop]; omega)]
  rw [nodesE_small hl] at h
  rw [split_at hi] at h
  obtain ⟨h1, h2⟩ := chk_split _ _ _ h
  obtain ⟨h3, h4, h5, h6⟩ := chk_head h2
  rw [chk_append _ _ _ h1]
  refine chk_drop (fun x hx => ?_) h6
  generalize lastNm none (ns.take i) = p at *
  cases p with
  | none => rfl
  | some p =>
    have e1 : Op.bytesLess p (ns.getD i node0).name = true := by simpa [badB] using h4
    have e2 : Op.bytesLess (ns.getD i node0).name x = true := by simpa [badB] using hx
    show (!(Op.bytesLess p x)) = false
    rw [bl_trans _ _ _ e1 e2]; rfl
/-- the names of a right list stand in order -/
theorem chk_order : ∀ (ns : List NodeL) (p : Option (List UInt8)), chkL p ns = 0 → (∀ q, p = some q → ∀ n ∈ ns, Op.bytesLess q n.name = true) ∧ ∀ i j, i < j → j < ns.length → Op.bytesLess (ns.getD i node0).name (ns.getD j node0).name = true := by
  intro ns
  induction ns with
  | nil => intro p _; exact ⟨fun q _ n hn => (by cases hn), fun i j _ hj => absurd hj (Nat.not_lt_zero _)⟩
  | cons n ns ih =>
    intro p h
    obtain ⟨h3, h4, h5, h6⟩ := chk_head h
    obtain ⟨i1, i2⟩ := ih _ h6
    refine ⟨fun q hq m hm => ?_, fun i j hij hj => ?_⟩
    · subst hq
      have e1 : Op.bytesLess q n.name = true := by simpa [badB] using h4
      rcases List.mem_cons.1 hm with rfl | hm
      · exact e1
      · exact bl_trans _ _ _ e1 (i1 _ rfl m hm)
    · cases j with
      | zero => omega
      | succ j =>
        have hj' : j < ns.length := by rw [List.length_cons] at hj; omega
        cases i with
        | zero =>
          show Op.bytesLess n.name (ns.getD j node0).name = true
          exact i1 _ rfl _ (by rw [List.getD_eq_getElem?_getD, List.getElem?_eq_getElem hj']; exact List.getElem_mem _)
        | succ i => exact i2 i j (by omega) hj'
theorem names_order {ns : List NodeL} (h : nodesE ns = 0) (i j : Nat) (hij : i < j) (hj : j < ns.length) : Op.bytesLess (ns.getD i node0).name (ns.getD j node0).name = true := by
  have hl := (nodes_ok h).1
  rw [nodesE_small hl] at h
  exact (chk_order ns none h).2 i j hij hj
theorem names_ne {ns : List NodeL} (h : nodesE ns = 0) (i j : Nat) (hi : i < ns.length) (hj : j < ns.length) (hne : i ≠ j) : (ns.getD i node0).name ≠ (ns.getD j node0).name := by
  intro he
  rcases Nat.lt_or_gt_of_ne hne with hl | hl
  · have := names_order h i j hl hj; rw [he, bl_irrefl] at this; cases this
  · have := names_order h j i hl hi; rw [he, bl_irrefl] at this; cases this
theorem find_self {ns : List NodeL} (h : nodesE ns = 0) (i : Nat) (hi : i < ns.length) : findN ns (ns.getD i node0).name ns.length = some i := by
  cases hf : findN ns (ns.getD i node0).name ns.length with
  | none => exact absurd rfl (findN_none.1 hf i hi)
  | some j =>
    obtain ⟨h1, h2, -⟩ := findN_some hf
    by_cases hij : j = i
    · rw [hij]
    · exact absurd h2 (names_ne h j i h1 hi hij)
theorem find_gone {ns : List NodeL} (h : nodesE ns = 0) (i : Nat) (hi : i < ns.length) : findN (ns.take i ++ ns.drop (i + 1)) (ns.getD i node0).name (ns.take i ++ ns.drop (i + 1)).length = none := by
  rw [findN_none]
  intro j hj
  rw [List.length_append, List.length_take, List.length_drop] at hj
  by_cases hji : j < i
  · have e : (ns.take i ++ ns.drop (i + 1)).getD j node0 = ns.getD j node0 := by
      rw [List.getD_eq_getElem?_getD, List.getD_eq_getElem?_getD, List.getElem?_append_left (by rw [List.length_take]; omega), List.getElem?_take_of_lt hji]
    rw [e]
    exact names_ne h j i (by omega) hi (by omega)
  · have e : (ns.take i ++ ns.drop (i + 1)).getD j node0 = ns.getD (j + 1) node0 := by
      rw [List.getD_eq_getElem?_getD, List.getD_eq_getElem?_getD, List.getElem?_append_right (by rw [List.length_take]; omega), List.length_take, List.getElem?_drop]
      congr 2; omega
    rw [e]
    exact names_ne h (j + 1) i (by omega) hi (by omega)
/-- is a name there? -/
def hasN (ns : List NodeL) (nm : List UInt8) (k : Nat) : Bool := (ns.take k).any fun n => decide (n.name = nm)
theorem hasN_step (ns : List NodeL) (nm : List UInt8) (k : Nat) (h : k < ns.length) : hasN ns nm (k + 1) = (hasN ns nm k || decide ((ns.getD k node0).name = nm)) := by
  unfold hasN
  rw [List.take_add_one, List.any_append, List.getElem?_eq_getElem h, List.getD_eq_getElem?_getD, List.getElem?_eq_getElem h]
  simp
theorem has_find (ns : List NodeL) (nm : List UInt8) : hasN ns nm ns.length = (findN ns nm ns.length).isSome := by
  unfold hasN
  rw [List.take_length]
  cases hf : findN ns nm ns.length with
  | none =>
    rw [Option.isSome_none, List.any_eq_false]
    intro n hn
    obtain ⟨i, hi, rfl⟩ := List.mem_iff_getElem.1 hn
    have := findN_none.1 hf i hi
    rw [List.getD_eq_getElem?_getD, List.getElem?_eq_getElem hi] at this
    simpa using this
  | some i =>
    obtain ⟨h1, h2, -⟩ := findN_some hf
    rw [Option.isSome_some, List.any_eq_true]
    refine ⟨ns.getD i node0, ?_, by simpa using h2⟩
    rw [List.getD_eq_getElem?_getD, List.getElem?_eq_getElem h1]; exact List.getElem_mem _
theorem part_sep {l : List UInt8} (h : partB l = true) : (47 : UInt8) ∉ l := by
  intro hm
  unfold partB at h
  simp only [Bool.and_eq_true] at h
  have := List.all_eq_true.1 h.2 47 hm
  rw [letter_sep] at this
  cases this
theorem find_sep {ns : List NodeL} (h : nodesE ns = 0) (nm : List UInt8) : findN ns (nm ++ [47]) ns.length = none := by
  rw [findN_none]
  intro j hj he
  have h1 := ((nodes_ok h).2 (ns.getD j node0) (by rw [List.getD_eq_getElem?_getD, List.getElem?_eq_getElem hj]; exact List.getElem_mem _)).1
  exact part_sep h1 (by rw [he]; simp)
theorem part_ab : partB [97, 47, 98] = false := by decide
end Go.Proofs.YtefabpgfhghpgaaDoor
end

section
/- The statements' own example. -/
namespace Go.Proofs.YtefabpgfhghpgaaDoor
open Go.RowKit Go.My

section
variable {P : Program} {ops : Array Oper} {rest : List Oper} {o : Oper} {a : Act} {w w2 : World} {Q : Exit → Act → World → Prop}
theorem wpList_exec (hw : Region.wanted o (yielded ops a.tmps) = true) {v : Value} (hl : (execOp a.eval o).run P w = .ok (.value v) w2) (h : wpList P ops Q rest (a.put o.dst v) w2) : wpList P ops Q (o :: rest) a w :=
  BigFrame.wpList_want hw fun K hK => by
    unfold Oper.wp
    rw [hl]
    exact hK _ _ h
theorem wpList_build1 (hw : Region.wanted o (yielded ops a.tmps) = true) (t i : Nat) (x : Operand) (ho : o.op = .build t #[(i, x)]) {u v : Value} (hx : a.eval x = u)
    (hl : (Instr.build t #[(i, u)]).run P w = .ok v w2) (h : wpList P ops Q rest (a.put o.dst v) w2) : wpList P ops Q (o :: rest) a w :=
  wpList_exec hw (by
    unfold execOp
    simp only [ho]
    have e : ((#[(i, x)] : Array (Nat × Operand)).map fun (i, x) => (i, a.eval x)) = #[(i, u)] := by simp [hx]
    rw [e]
    simp only [Sem.run_bind, hl, Result.andThen_ok, Sem.run_pure]) h
theorem wpList_build3 (hw : Region.wanted o (yielded ops a.tmps) = true) (t i j k : Nat) (x y z : Operand) (ho : o.op = .build t #[(i, x), (j, y), (k, z)]) {u1 u2 u3 v : Value} (hx : a.eval x = u1) (hy : a.eval y = u2) (hz : a.eval z = u3)
    (hl : (Instr.build t #[(i, u1), (j, u2), (k, u3)]).run P w = .ok v w2) (h : wpList P ops Q rest (a.put o.dst v) w2) : wpList P ops Q (o :: rest) a w :=
  wpList_exec hw (by
    unfold execOp
    simp only [ho]
    have e : ((#[(i, x), (j, y), (k, z)] : Array (Nat × Operand)).map fun (i, x) => (i, a.eval x)) = #[(i, u1), (j, u2), (k, u3)] := by simp [hx, hy, hz]
    rw [e]
    simp only [Sem.run_bind, hl, Result.andThen_ok, Sem.run_pure]) h
theorem wpList_buildS1 (hw : Region.wanted o (yielded ops a.tmps) = true) (t len i : Nat) (x : Operand) (ho : o.op = .buildSlice t len #[(i, x)]) {u v : Value} (hx : a.eval x = u)
    (hl : (Instr.buildSlice t len #[(i, u)]).run P w = .ok v w2) (h : wpList P ops Q rest (a.put o.dst v) w2) : wpList P ops Q (o :: rest) a w :=
  wpList_exec hw (by
    unfold execOp
    simp only [ho]
    have e : ((#[(i, x)] : Array (Nat × Operand)).map fun (i, x) => (i, a.eval x)) = #[(i, u)] := by simp [hx]
    rw [e]
    simp only [Sem.run_bind, hl, Result.andThen_ok, Sem.run_pure]) h
theorem wpList_buildS2 (hw : Region.wanted o (yielded ops a.tmps) = true) (t len i j : Nat) (x y : Operand) (ho : o.op = .buildSlice t len #[(i, x), (j, y)]) {u1 u2 v : Value} (hx : a.eval x = u1) (hy : a.eval y = u2)
    (hl : (Instr.buildSlice t len #[(i, u1), (j, u2)]).run P w = .ok v w2) (h : wpList P ops Q rest (a.put o.dst v) w2) : wpList P ops Q (o :: rest) a w :=
  wpList_exec hw (by
    unfold execOp
    simp only [ho]
    have e : ((#[(i, x), (j, y)] : Array (Nat × Operand)).map fun (i, x) => (i, a.eval x)) = #[(i, u1), (j, u2)] := by simp [hx, hy]
    rw [e]
    simp only [Sem.run_bind, hl, Result.andThen_ok, Sem.run_pure]) h
end

def idK (c : UInt8) : List UInt8 := c :: List.replicate 31 0
def nodeA : NodeL := ⟨[97], false, 3, [idK 1], zero32⟩
def nodeB2 : NodeL := ⟨[98], true, 0, [], idK 2⟩
def nodeAB : NodeL := ⟨[97, 47, 98], false, 0, [], zero32⟩
theorem b_id1 (w : World) : (Instr.build 40 #[(0, .int .u8 1)]).run Tryd.prog w = .ok (.agg (byts (idK 1)).toArray) w := by kernel_rfl
theorem b_id2 (w : World) : (Instr.build 40 #[(0, .int .u8 2)]).run Tryd.prog w = .ok (.agg (byts (idK 2)).toArray) w := by kernel_rfl
theorem b_nodeA (b : Nat) (w : World) : (Instr.build 42 #[(0, .string ⟨#[97]⟩), (2, .int .i64 3), (3, .slice (some ⟨b, 0, none⟩) 1 1)]).run Tryd.prog w = .ok (.agg (nodeV nodeA (.slice (some ⟨b, 0, none⟩) 1 1)).toArray) w := by kernel_rfl
theorem b_nodeB (w : World) : (Instr.build 42 #[(0, .string ⟨#[98]⟩), (1, .bool true), (4, .agg (byts (idK 2)).toArray)]).run Tryd.prog w = .ok (.agg (nodeV nodeB2 (.slice none 0 0)).toArray) w := by kernel_rfl
theorem b_nodeAB (w : World) : (Instr.build 42 #[(0, .string ⟨#[97, 47, 98]⟩)]).run Tryd.prog w = .ok (.agg (nodeV nodeAB (.slice none 0 0)).toArray) w := by kernel_rfl
theorem b_two (b : Nat) (w : World) : (Instr.buildSlice 22 2 #[(0, .agg (nodeV nodeA (.slice (some ⟨b, 0, none⟩) 1 1)).toArray), (1, .agg (nodeV nodeB2 (.slice none 0 0)).toArray)]).run Tryd.prog w =
    .ok (.slice (some ⟨w.heap.size, 0, none⟩) 2 2) (w.alloc (.cells (nodeV nodeA (.slice (some ⟨b, 0, none⟩) 1 1) ++ nodeV nodeB2 (.slice none 0 0)).toArray 42)) := by kernel_rfl
theorem b_one (w : World) : (Instr.buildSlice 22 1 #[(0, .agg (nodeV nodeAB (.slice none 0 0)).toArray)]).run Tryd.prog w =
    .ok (.slice (some ⟨w.heap.size, 0, none⟩) 1 1) (w.alloc (.cells (nodeV nodeAB (.slice none 0 0)).toArray 42)) := by kernel_rfl

theorem bytes_nil (w : World) : IsBytes w [] (.slice none 0 0) := ⟨none, 0, rfl, Nat.le_refl _, by decide, fun i hi => absurd hi (Nat.not_lt_zero _)⟩
def listA : List NodeL := [nodeA, nodeB2]
theorem isIDs_nil (w : World) : IsIDs w [] (.slice none 0 0) := ⟨none, 0, rfl, Nat.le_refl _, by decide, ⟨fun p hp => (by cases hp), fun i hi => absurd hi (Nat.not_lt_zero _)⟩⟩
theorem isNodes_nil (w : World) : IsNodes w [] (.slice none 0 0) := ⟨none, 0, rfl, Nat.le_refl _, by decide, ⟨fun i hi => absurd hi (Nat.not_lt_zero _)⟩⟩
theorem isIDs_one {w : World} {b : Nat} {x : List UInt8} (hx : x.length = 32) (h : Blk w b (byts x).toArray 40) : IsIDs w [x] (.slice (some ⟨b, 0, none⟩) 1 1) :=
  ⟨_, 1, rfl, Nat.le_refl _, by decide, ⟨fun p hp => by rw [List.mem_singleton.1 hp]; exact hx, fun i hi => by
    have : i = 0 := by simpa using hi
    subst this
    exact ⟨b, 0, rfl, rangeAt.blk h 0⟩⟩⟩
theorem isNode_A {w : World} {b : Nat} (h : Blk w b (byts (idK 1)).toArray 40) : IsNode w nodeA (nodeV nodeA (.slice (some ⟨b, 0, none⟩) 1 1)) :=
  ⟨⟨_, rfl, isIDs_one rfl h⟩, rfl, by decide, by decide⟩
theorem isNode_B (w : World) : IsNode w nodeB2 (nodeV nodeB2 (.slice none 0 0)) := ⟨⟨_, rfl, isIDs_nil w⟩, rfl, by decide, by decide⟩
theorem isNode_AB (w : World) : IsNode w nodeAB (nodeV nodeAB (.slice none 0 0)) := ⟨⟨_, rfl, isIDs_nil w⟩, rfl, by decide, by decide⟩
theorem two_nodes {w : World} {b1 b2 : Nat} (h1 : Blk w b1 (byts (idK 1)).toArray 40) (h2 : Blk w b2 (nodeV nodeA (.slice (some ⟨b1, 0, none⟩) 1 1) ++ nodeV nodeB2 (.slice none 0 0)).toArray 42) : IsNodes w listA (.slice (some ⟨b2, 0, none⟩) 2 2) := by
  have ha : (nodeV nodeA (.slice (some ⟨b1, 0, none⟩) 1 1)).length = 36 := by simp [nodeV, byts_length]; rfl
  refine ⟨_, 2, rfl, Nat.le_refl _, by decide, ⟨fun i hi => ?_⟩⟩
  match i, hi with
  | 0, _ =>
    refine ⟨b2, 0, _, rfl, ?_, isNode_A h1⟩
    intro j v hv
    rw [h2.cell]
    have hj := (List.getElem?_eq_some_iff.1 hv).1
    rw [List.getElem?_toArray, Nat.zero_mul, Nat.add_zero, Nat.zero_add, List.getElem?_append_left hj]
    exact hv
  | 1, _ =>
    refine ⟨b2, 0, _, rfl, ?_, isNode_B w⟩
    have := rangeAt.blk h2 36
    rw [List.drop_left' ha] at this
    exact this
theorem one_node {w : World} {b2 : Nat} (h2 : Blk w b2 (nodeV nodeAB (.slice none 0 0)).toArray 42) : IsNodes w [nodeAB] (.slice (some ⟨b2, 0, none⟩) 1 1) :=
  ⟨_, 1, rfl, Nat.le_refl _, by decide, ⟨fun i hi => by
    have : i = 0 := by simpa using hi
    subst this
    exact ⟨b2, 0, _, rfl, rangeAt.blk h2 0, isNode_AB w⟩⟩⟩
theorem alive_wf : ∀ n ∈ listA, WfN n := by
  intro n hn
  rcases List.mem_cons.1 hn with rfl | hn
  · exact ⟨rfl, fun p hp => by rw [List.mem_singleton.1 hp]; rfl, by decide, by decide⟩
  · rw [List.mem_singleton.1 hn]; exact ⟨rfl, fun p hp => (by cases hp), by decide, by decide⟩
theorem alive_ok : nodesE listA = 0 := by decide +kernel
theorem alive_none : nodesE [] = 0 := rfl
theorem alive_len : (encB []).length = 9 := by unfold encB; rw [sealB_length]; rfl
theorem alive_dec : decT (encB listA) = some listA := dec_enc listA alive_wf alive_ok
theorem dec_nil : decT [] = none := by unfold decT; rw [if_neg (by decide)]
theorem decE_nil : decE [] = 20 := by unfold decE; rw [if_neg (by decide)]; rfl
theorem alive_fb : findN listA [98] listA.length = some 1 := by decide +kernel
theorem alive_fc : findN listA [99] listA.length = none := by decide +kernel
theorem alive_ab : nodesE [nodeAB] = 38 := by decide +kernel
theorem alive_bl : ((blobsL listA).take (9 : Int).toNat).length = 2 := by decide +kernel

set_option maxRecDepth 100000 in
set_option maxHeartbeats 4000000 in
theorem alive_any (w : World) : Calls Tryd.prog 7 #[] w fun e w' => e = .returned (.bool true) ∧ Ext No w w' := by
  go_enter Tryd.func7, Tryd.ntmps7
  go_wp2_with fail
  refine (tencode_any [] _ w (isNodes_nil w) (fun m hm => (by cases hm))).mono ?_
  rintro e w1 ⟨hE1, ⟨-, x, rfl, hx1⟩ | ⟨h, -⟩⟩
  case inr => exact absurd alive_none h
  have hl1 := alive_len
  generalize encB [] = l1 at *
  have hf1 : ∃ a c, x = .slice a 9 c := by rw [← hl1]; exact own_form hx1
  obtain ⟨a1, c1, rfl⟩ := hf1
  have HE1 := Lib.hid hE1
  clear hE1 hx1 hl1
  have HI1 := Lib.hid b_id1; have HI2 := Lib.hid b_id2; have HNA := Lib.hid b_nodeA; have HNB := Lib.hid b_nodeB; have HTW := Lib.hid b_two
  have HBI := Lib.hid (build_id (idK 1) rfl)
  dsimp only
  go_wp2_with (first | ((with_reducible refine wpList_build1 ?_ 40 0 (.const (.int .u8 1)) rfl ?_ (HI1.out _) ?_); rfl; rfl) | ((with_reducible refine wpList_build1 ?_ 40 0 (.const (.int .u8 2)) rfl ?_ (HI2.out _) ?_); rfl; rfl) | ((with_reducible refine wpList_buildS1 ?_ 38 1 0 _ rfl ?_ (HBI.out _) ?_); rfl; rfl) | ((with_reducible refine wpList_build3 ?_ 42 0 2 3 _ _ _ rfl ?_ ?_ ?_ (HNA.out w1.heap.size _) ?_); rfl; rfl; rfl; rfl) | ((with_reducible refine wpList_build3 ?_ 42 0 1 4 _ _ _ rfl ?_ ?_ ?_ (HNB.out _) ?_); rfl; rfl; rfl; rfl) | ((with_reducible refine wpList_buildS2 ?_ 22 2 0 1 _ _ rfl ?_ ?_ (HTW.out w1.heap.size _) ?_); rfl; rfl; rfl))
  obtain ⟨w2, hw2⟩ : ∃ w2, (w1.alloc (.cells (byts (idK 1)).toArray 40)).alloc (.cells (nodeV nodeA (.slice (some ⟨w1.heap.size, 0, none⟩) 1 1) ++ nodeV nodeB2 (.slice none 0 0)).toArray 42) = w2 := ⟨_, rfl⟩
  have hls : IsNodes w2 listA (.slice (some ⟨w1.heap.size + 1, 0, none⟩) 2 2) := by
    rw [← hw2]
    refine two_nodes ((Blk.new w1 (byts (idK 1)).toArray 40).alloc _) ?_
    have := Blk.new (w1.alloc (.cells (byts (idK 1)).toArray 40)) (nodeV nodeA (.slice (some ⟨w1.heap.size, 0, none⟩) 1 1) ++ nodeV nodeB2 (.slice none 0 0)).toArray 42
    rw [World.size_alloc] at this
    exact this
  have hE2 : Ext No w w2 := by rw [← hw2]; exact (HE1.out.alloc _).alloc _
  generalize hbl : w1.heap.size + 1 = bl at *
  rw [hw2]
  have HLS := Lib.hid hls; have HE2 := Lib.hid hE2
  clear hls hE2 hw2 hbl HE1
  refine (tencode_any listA _ w2 HLS.out (fun m hm => ?_)).mono ?_
  · rcases List.mem_cons.1 hm with rfl | hm
    · decide
    · rw [List.mem_singleton.1 hm]; decide
  rintro e w3 ⟨hE3, ⟨-, x, rfl, hx3⟩ | ⟨h, -⟩⟩
  case inr => exact absurd alive_ok h
  have hdl := enc_len listA alive_wf alive_ok
  have hdc := alive_dec
  generalize encB listA = l3 at *
  obtain ⟨a3, c3, rfl⟩ := own_form hx3
  have hbb := hx3.bytes
  have HE3 := Lib.hid (HE2.out.trans' hE3); have HLS3 := Lib.hid (HLS.out.ext0 hE3)
  have HDC := Lib.hid hdc
  have HDEC := Lib.hid (tdecode_any l3 _ w3 hbb (by omega))
  clear hE3 hx3 HE2 HLS hdc hdl hbb
  generalize l3.length = n3 at *
  dsimp only
  go_wp2_with fail
  refine HDEC.out.mono ?_
  clear HDEC
  rintro e w4 ⟨hE4, ⟨ns, v4, hd, rfl, hown, -⟩ | ⟨hd, -⟩⟩
  case inr => rw [HDC.out] at hd; cases hd
  have hns : ns = listA := by rw [HDC.out] at hd; exact (Option.some.inj hd).symm
  subst hns
  have HON := Lib.hid hown.nodes
  obtain ⟨a4, c4, rfl, -⟩ := id hown.nodes
  have HE4 := Lib.hid (HE3.out.trans' hE4); have HLS4 := Lib.hid (HLS3.out.ext0 hE4)
  clear hE4 hown HE3 HLS3 hd HDC
  dsimp only
  go_wp2_with fail
  refine (tdecode_any [] (.slice none 0 0) w4 (bytes_nil w4) (by decide)).mono ?_
  rintro e w5 ⟨hE5, ⟨ns, v5, hd, -⟩ | ⟨-, rfl⟩⟩
  case inl => rw [dec_nil] at hd; cases hd
  rw [decE_nil]
  have HON5 := Lib.hid (HON.out.ext0 hE5); have HE5 := Lib.hid (HE4.out.trans' hE5); have HLS5 := Lib.hid (HLS4.out.ext0 hE5)
  clear hE5 HON HE4 HLS4
  dsimp only
  go_wp2_with fail
  refine (tfind_any listA (.slice (some ⟨bl, 0, none⟩) 2 2) [98] w5 HLS5.out).mono ?_
  rintro e w6 ⟨hE6, cs6, ⟨i6, hf6, rfl, hn6⟩ | ⟨hf6, -⟩⟩
  case inr => rw [alive_fb] at hf6; cases hf6
  have hi6 : i6 = 1 := by rw [alive_fb] at hf6; exact (Option.some.inj hf6).symm
  subst hi6
  have hn6' : IsNode w5 nodeB2 cs6 := hn6
  have hl36 := hn6'.length
  have h1 := hn6'.one
  obtain ⟨pv6, hcs6, -⟩ := hn6'.cells
  have c1 : cs6[1]? = some (.bool true) := by rw [hcs6]; rfl
  have HS6 := Lib.hid (store_node w6 cs6 hl36 h1)
  have HB6 := Lib.hid (Blk.new w6 cs6.toArray 42)
  have HE6 := Lib.hid ((HE5.out.trans' hE6).alloc (.cells cs6.toArray 42))
  have HON6 := Lib.hid ((HON5.out.ext0 hE6).ext0 ((Ext.refl No w6).alloc (.cells cs6.toArray 42))); have HLS6 := Lib.hid ((HLS5.out.ext0 hE6).ext0 ((Ext.refl No w6).alloc (.cells cs6.toArray 42)))
  have HC1 := Lib.hid c1
  clear hE6 hf6 hn6 hn6' hl36 h1 hcs6 c1 HE5 HON5 HLS5
  dsimp only
  go_wp2_with ((with_reducible refine wpList_store_at ?_ 42 _ _ rfl ?_ ?_ (HS6.out _ ?_) ?_); rfl; rfl; rfl; rfl)
  obtain ⟨w7, hw7⟩ : ∃ w7, w6.alloc (.cells cs6.toArray 42) = w7 := ⟨_, rfl⟩
  rw [hw7] at HB6 HE6 HON6 HLS6 ⊢
  generalize w6.heap.size = b6 at *
  clear hw7 HS6
  refine (tfind_any listA (.slice (some ⟨bl, 0, none⟩) 2 2) [99] w7 HLS6.out).mono ?_
  rintro e w8 ⟨hE8, cs8, ⟨i6, hf6, -⟩ | ⟨-, rfl, hn8⟩⟩
  case inl => rw [alive_fc] at hf6; cases hf6
  have hl36 := hn8.length
  have h1 := hn8.one
  have HS8 := Lib.hid (store_node w8 cs8 hl36 h1)
  have hx8 := (Ext.refl No w8).alloc (.cells cs8.toArray 42)
  have HB8 := Lib.hid ((HB6.out.ext hE8 (fun s => s)).ext hx8 (fun s => s))
  have HE8 := Lib.hid ((HE6.out.trans' hE8).trans' hx8)
  have HON8 := Lib.hid ((HON6.out.ext0 hE8).ext0 hx8); have HLS8 := Lib.hid ((HLS6.out.ext0 hE8).ext0 hx8)
  clear hE8 hn8 hl36 h1 hx8 HB6 HE6 HON6 HLS6
  dsimp only
  go_wp2_with ((with_reducible refine wpList_store_at ?_ 42 _ _ rfl ?_ ?_ (HS8.out _ ?_) ?_); rfl; rfl; rfl; rfl)
  obtain ⟨w9, hw9⟩ : ∃ w9, w8.alloc (.cells cs8.toArray 42) = w9 := ⟨_, rfl⟩
  rw [hw9] at HB8 HE8 HON8 HLS8 ⊢
  clear hw9 HS8
  refine (as_any listA (.slice a4 listA.length c4) w9 HON8.out (by decide)).mono ?_
  rintro e w10 ⟨v10, rfl, hv10, hE10⟩
  obtain ⟨a10, c10, rfl, -⟩ := id hv10
  have HE10 := Lib.hid (HE8.out.trans' hE10); have HV10 := Lib.hid hv10; have HLS10 := Lib.hid (HLS8.out.ext0 hE10); have HB10 := Lib.hid (HB8.out.ext hE10 (fun s => s))
  clear hE10 hv10 HE8 HLS8 HB8 HON8
  dsimp only
  go_wp2_with fail
  refine (as_any listA (.slice (some ⟨bl, 0, none⟩) 2 2) w10 HLS10.out (by decide)).mono ?_
  rintro e w11 ⟨v11, rfl, hv11, hE11⟩
  obtain ⟨a11, c11, rfl, -⟩ := id hv11
  have HE11 := Lib.hid (HE10.out.trans' hE11); have HV11 := Lib.hid hv11; have HV10' := Lib.hid (HV10.out.ext0 hE11); have HLS11 := Lib.hid (HLS10.out.ext0 hE11); have HB11 := Lib.hid (HB10.out.ext hE11 (fun s => s))
  clear hE11 hv11 HE10 HLS10 HB10 HV10
  dsimp only
  go_wp2_with fail
  refine (same10_any listA listA _ _ w11 HV10'.out HV11.out).mono ?_
  rintro e w12 ⟨rfl, hE12⟩
  rw [decide_eq_true (show listA = listA from rfl)]
  have HE12 := Lib.hid (HE11.out.trans' hE12); have HLS12 := Lib.hid (HLS11.out.ext0 hE12)
  have hb12 := HB11.out.ext hE12 (fun s => s)
  have d1 : w12.cell? ⟨b6, 1, none⟩ = some (.bool true) := by rw [hb12.cell]; simpa using HC1.out
  clear hE12 hb12 HE11 HLS11 HB11 HV10' HV11
  dsimp only
  go_wp2_with fail
  refine (blobs_any listA (.slice (some ⟨bl, 0, none⟩) 2 2) 9 w12 HLS12.out (by decide +kernel)).mono ?_
  rintro e w13 ⟨v13, rfl, hv13, hE13⟩
  have hf13 : ∃ a c, v13 = .slice a 2 c := by
    obtain ⟨a, c, h⟩ := OwnSeq.len hv13
    rw [alive_bl] at h
    exact ⟨a, c, h⟩
  obtain ⟨a13, c13, rfl⟩ := hf13
  have HE13 := Lib.hid (HE12.out.trans' hE13)
  clear hv13 hE13 HE12 HLS12 d1
  have HAB := Lib.hid b_nodeAB; have HON1 := Lib.hid b_one
  dsimp only
  go_wp2_with (first | ((with_reducible refine wpList_build1 ?_ 42 0 _ rfl ?_ (HAB.out _) ?_); rfl; rfl) | ((with_reducible refine wpList_buildS1 ?_ 22 1 0 _ rfl ?_ (HON1.out _) ?_); rfl; rfl))
  have hn := one_node (Blk.new w13 (nodeV nodeAB (.slice none 0 0)).toArray 42)
  have hx := HE13.out.alloc (.cells (nodeV nodeAB (.slice none 0 0)).toArray 42)
  have HN := Lib.hid hn; have HX := Lib.hid hx
  clear hn hx HE13
  refine (tcheck_any [nodeAB] _ _ HN.out (fun m hm => by rw [List.mem_singleton.1 hm]; decide)).mono ?_
  rintro e w14 ⟨rfl, hE14⟩
  rw [alive_ab]
  have HE14 := Lib.hid (HX.out.trans' hE14)
  clear hE14 HX HN
  dsimp only
  go_wp2_with fail
  go_ret
  exact ⟨rfl, HE14.out⟩
end Go.Proofs.YtefabpgfhghpgaaDoor
end

section
/- Append of many elements of several cells onto a row of the call's own. -/
namespace Go.Proofs.YtefabpgfhghpgaaDoor
open Go.RowKit Go.My Go.Deep

theorem run_append_none {P : Program} {w : World} (base : Nat) (t ty e : TypeId) (i : TypeInfo) (size : Nat) (ht : P.underlying t = some (.slice e)) (hi : P.info? e = some i)
    (v : Value) (n c : Nat) (xs : List Value) (hown : w.ownsRow base e size v n xs) : (Builtin.append_ #[t, t] ty #[v, .slice none 0 c]).run P w = .ok v w := by
  rcases hown.2 with ⟨rfl, rfl⟩ | ⟨g, cap, cur, rfl, _, _, hnc, _⟩
  · simp [Builtin.append_, run_underlying ht, sizeOf, typeInfo, hi, Builtin.lenOf, Builtin.firstCells]
  · simp [Builtin.append_, run_underlying ht, sizeOf, typeInfo, hi, Builtin.lenOf, Builtin.firstCells, hnc, storeCells]

/-- what is appended: elements and their cells, in memory -/
structure Src {α : Type} (w : World) (size : Nat) (E : α → List Value → Prop) (ys : List α) (v : Value) (css : List (List Value)) : Prop where
  form : ∃ ad c, v = .slice ad ys.length c ∧ (0 < ys.length → ∃ b o, ad = some ⟨b, o, none⟩ ∧ w.rangeAt b o css.flatten)
  len : css.length = ys.length
  each : ∀ (i : Nat) (y : α) (us : List Value), ys[i]? = some y → css[i]? = some us → us.length = size ∧ E y us ∧ ∀ u ∈ us, u.oneCell' = true
theorem flatN_len (size : Nat) : ∀ css : List (List Value), (∀ us ∈ css, us.length = size) → css.flatten.length = css.length * size
  | [], _ => by simp
  | us :: css, h => by
    rw [List.flatten_cons, List.length_append, h us (List.mem_cons_self ..), flatN_len size css (fun x hx => h x (List.mem_cons_of_mem _ hx)), List.length_cons, Nat.add_mul]; omega
theorem elC_flat (size : Nat) : ∀ (css : List (List Value)) (i : Nat) (us : List Value), (∀ us ∈ css, us.length = size) → css[i]? = some us → elC css.flatten size i = us
  | [], i, us, _, h => by simp at h
  | x :: css, 0, us, hl, h => by
    simp at h; subst h
    unfold elC
    rw [List.flatten_cons, Nat.zero_mul, List.drop_zero, List.take_left' (hl x (List.mem_cons_self ..))]
  | x :: css, i + 1, us, hl, h => by
    have := elC_flat size css i us (fun z hz => hl z (List.mem_cons_of_mem _ hz)) (by simpa using h)
    unfold elC at this ⊢
    rw [List.flatten_cons, show (i + 1) * size = size + i * size by rw [Nat.add_mul]; omega, ← List.drop_drop, List.drop_left' (hl x (List.mem_cons_self ..))]
    exact this
theorem elC_right (us news : List Value) (size n j : Nat) (h : us.length = n * size) : elC (us ++ news) size (n + j) = elC news size j := by
  unfold elC
  rw [Nat.add_mul, ← List.drop_drop, List.drop_left' h]
theorem Src.lens {α : Type} {w : World} {size : Nat} {E : α → List Value → Prop} {ys : List α} {v : Value} {css : List (List Value)} (h : Src w size E ys v css) : (∀ us ∈ css, us.length = size) ∧ ∀ u ∈ css.flatten, u.oneCell' = true := by
  have hh : ∀ us ∈ css, us.length = size ∧ ∀ u ∈ us, u.oneCell' = true := by
    intro us hus
    obtain ⟨i, hi, rfl⟩ := List.mem_iff_getElem.1 hus
    have := h.each i (ys[i]'(by rw [← h.len]; exact hi)) _ (List.getElem?_eq_getElem _) (List.getElem?_eq_getElem hi)
    exact ⟨this.1, this.2.2⟩
  refine ⟨fun us hus => (hh us hus).1, fun u hu => ?_⟩
  obtain ⟨us, hus, hu⟩ := List.mem_flatten.1 hu
  exact (hh us hus).2 u hu

section
variable {α : Type} {P : Program} {w : World} {size : Nat} {E : α → List Value → Prop} {xs ys : List α} {v x : Value} {css : List (List Value)}
theorem run_appM (t ty e : TypeId) (z : Value) (bytes base : Nat) (hinfo : (P.info? e).map (fun i => (i.zero, i.size, i.bytes)) = some (some z, size, bytes)) (ht : P.underlying t = some (.slice e)) (hzs : z.cells.size = size) (hsz : 0 < size)
    (hown : OwnSeq w base e size (fun _ => E) xs v) (hsrc : Src w size E ys x css)
    (h63 : xs.length + ys.length ≤ 9223372036854775807) (hbytes : (xs.length + ys.length) * bytes ≤ 140737488355328) (hbase : base ≤ w.heap.size) :
    ∃ v' w', (Builtin.append_ #[t, t] ty #[v, x]).run P w = .ok v' w' ∧ OwnSeq w' base e size (fun _ => E) (xs ++ ys) v' ∧ w.grownBy w' v.ownBlock ∧ (v'.ownBlock = v.ownBlock ∨ v'.ownBlock = some w.heap.size) := by
  obtain ⟨i0, hi, hz0, hz1, hz2⟩ := info_parts hinfo
  obtain ⟨us, h1, h2⟩ := hown
  obtain ⟨hl, hone⟩ := hsrc.lens
  obtain ⟨ad, c, rfl, hr⟩ := hsrc.form
  have hfl := flatN_len size css hl
  rw [hsrc.len] at hfl
  have fin : ∀ v' w', w'.ownsRow base e size v' (xs.length + ys.length) (us ++ css.flatten) → OwnSeq w' base e size (fun _ => E) (xs ++ ys) v' := by
    intro v' w' h3
    refine ⟨us ++ css.flatten, by rw [List.length_append]; exact h3, fun i y hy => ?_⟩
    by_cases hi : i < xs.length
    · rw [List.getElem?_append_left hi] at hy
      rw [elC_left us _ size i xs.length h1.1 hi]
      exact h2 i y hy
    · rw [List.getElem?_append_right (by omega)] at hy
      obtain ⟨j, rfl⟩ : ∃ j, i = xs.length + j := ⟨i - xs.length, by omega⟩
      rw [Nat.add_sub_cancel_left] at hy
      have hj : j < css.length := by
        rw [hsrc.len]
        rcases Nat.lt_or_ge j ys.length with h | h
        · exact h
        · rw [List.getElem?_eq_none h] at hy; cases hy
      rw [elC_right us _ size xs.length j h1.1, elC_flat size css j _ hl (List.getElem?_eq_getElem hj)]
      exact (hsrc.each j y _ hy (List.getElem?_eq_getElem hj)).2.1
  cases ad with
  | none =>
    have h0 : ys.length = 0 := by
      rcases Nat.eq_zero_or_pos ys.length with h | h
      · exact h
      · obtain ⟨b, o, h, -⟩ := hr h; cases h
    have hc0 : css.flatten = [] := List.eq_nil_of_length_eq_zero (by rw [hfl, h0, Nat.zero_mul])
    rw [h0]
    refine ⟨v, w, run_append_none base t ty e i0 size ht hi v xs.length c us h1, ?_, ⟨rfl, rfl, rfl, Nat.le_refl _, fun _ _ _ => rfl⟩, .inl rfl⟩
    refine fin v w ?_
    rw [h0, hc0, List.append_nil, Nat.add_zero]; exact h1
  | some a =>
    have hnews : ∀ j u, css.flatten[j]? = some u → w.cell? (a.add j) = some u := by
      intro j u hj
      have hp : 0 < ys.length := by
        rcases Nat.eq_zero_or_pos ys.length with h | h
        · have := (List.getElem?_eq_some_iff.1 hj).1; rw [hfl, h, Nat.zero_mul] at this; omega
        · exact h
      obtain ⟨b, o, ha, hra⟩ := hr hp
      cases ha
      rw [addr_add]
      exact hra j u hj
    obtain ⟨v', w', h3, h4, h5, -, h6⟩ := run_append_own_at (P := P) w base t ty e i0 z size bytes ht hi hz0 hz1 hz2 hzs hsz v xs.length us h1 a ys.length c css.flatten hfl hnews hone (by unfold maxLen; omega) hbytes hbase
    exact ⟨v', w', h3, fin v' w' h4, h5, h6⟩
end
section
variable {α : Type} {P : Program} {ops : Array Oper} {rest : List Oper} {o : Oper} {a : Act} {K : Act → World → Prop} {Q : Exit → Act → World → Prop} {S0 : Prop} {size : Nat} {E : α → List Value → Prop} {xs ys : List α} {css : List (List Value)}
theorem wp_appM (w : World) (s x : Operand) (t : TypeId) (ho : o.op = .call { callee := .builtin .append, args := #[s, x], argTypes := #[t, t] }) (base : Nat) (e : TypeId) (z : Value) (bytes : Nat)
    (hinfo : (P.info? e).map (fun i => (i.zero, i.size, i.bytes)) = some (some z, size, bytes)) (ht : P.underlying t = some (.slice e)) (hzs : z.cells.size = size) (hsz : 0 < size)
    (v u : Value) (hs : a.eval s = v) (hx : a.eval x = u) (hown : OwnSeq w base e size (fun _ => E) xs v) (hsrc : Src w size E ys u css)
    (h63 : xs.length + ys.length ≤ 9223372036854775807) (hbytes : (xs.length + ys.length) * bytes ≤ 140737488355328) (hbase : base ≤ w.heap.size)
    (h : ∀ v' w', OwnSeq w' base e size (fun _ => E) (xs ++ ys) v' → w.grownBy w' v.ownBlock → (v'.ownBlock = v.ownBlock ∨ v'.ownBlock = some w.heap.size) → K (a.put o.dst v') w') : o.wp P a w K Q := by
  obtain ⟨v', w', h1, h2, h3, h4⟩ := run_appM t o.type e z bytes base hinfo ht hzs hsz hown hsrc h63 hbytes hbase
  unfold Oper.wp
  simp [execOp, ho, resolve, invoke, builtin, hs, hx, h1, Result.andThen]
  exact h v' w' h2 h3 h4
theorem wpList_appM (w : World) (hgd : o.guard = none) (s x : Operand) (t : TypeId) (ho : o.op = .call { callee := .builtin .append, args := #[s, x], argTypes := #[t, t] }) (base : Nat) (e : TypeId) (z : Value) (bytes : Nat)
    (hinfo : (P.info? e).map (fun i => (i.zero, i.size, i.bytes)) = some (some z, size, bytes)) (ht : P.underlying t = some (.slice e)) (hzs : z.cells.size = size) (hsz : 0 < size)
    (v u : Value) (hs : a.eval s = v) (hx : a.eval x = u) (hown : OwnSeq w base e size (fun _ => E) xs v) (hsrc : Src w size E ys u css)
    (h63 : xs.length + ys.length ≤ 9223372036854775807) (hbytes : (xs.length + ys.length) * bytes ≤ 140737488355328) (hbase : base ≤ w.heap.size)
    (h : ∀ v' w', OwnSeq w' base e size (fun _ => E) (xs ++ ys) v' → w.grownBy w' v.ownBlock → (v'.ownBlock = v.ownBlock ∨ v'.ownBlock = some w.heap.size) → wpList P ops Q rest (a.put o.dst v') w') : wpList P ops Q (o :: rest) a w :=
  wpList_plain hgd fun K' hK => wp_appM w s x t ho base e z bytes hinfo ht hzs hsz v u hs hx hown hsrc h63 hbytes hbase fun v' w' h2 h3 h4 => hK _ _ (h v' w' h2 h3 h4)
/-- in a guarded list, where it is wanted -/
theorem wpList_appG (w : World) (hw : Region.wanted o (yielded ops a.tmps) = true) (s x : Operand) (t : TypeId) (ho : o.op = .call { callee := .builtin .append, args := #[s, x], argTypes := #[t, t] }) (base : Nat) (e : TypeId) (z : Value) (bytes : Nat)
    (hinfo : (P.info? e).map (fun i => (i.zero, i.size, i.bytes)) = some (some z, size, bytes)) (ht : P.underlying t = some (.slice e)) (hzs : z.cells.size = size) (hsz : 0 < size)
    (v u : Value) (hs : a.eval s = v) (hx : a.eval x = u) (hown : OwnSeq w base e size (fun _ => E) xs v) (hsrc : Src w size E ys u css)
    (h63 : xs.length + ys.length ≤ 9223372036854775807) (hbytes : (xs.length + ys.length) * bytes ≤ 140737488355328) (hbase : base ≤ w.heap.size)
    (h : ∀ v' w', OwnSeq w' base e size (fun _ => E) (xs ++ ys) v' → w.grownBy w' v.ownBlock → (v'.ownBlock = v.ownBlock ∨ v'.ownBlock = some w.heap.size) → wpList P ops Q rest (a.put o.dst v') w') : wpList P ops Q (o :: rest) a w :=
  BigFrame.wpList_want hw fun K' hK => wp_appM w s x t ho base e z bytes hinfo ht hzs hsz v u hs hx hown hsrc h63 hbytes hbase fun v' w' h2 h3 h4 => hK _ _ (h v' w' h2 h3 h4)
theorem step_appM (w : World) (hgd : o.guard = none) (s x : Operand) (t : TypeId) (ho : o.op = .call { callee := .builtin .append, args := #[s, x], argTypes := #[t, t] }) (base : Nat) (e : TypeId) (z : Value) (bytes : Nat)
    (hinfo : (P.info? e).map (fun i => (i.zero, i.size, i.bytes)) = some (some z, size, bytes)) (ht : P.underlying t = some (.slice e)) (hzs : z.cells.size = size) (hsz : 0 < size)
    (v u : Value) (hs : a.eval s = v) (hx : a.eval x = u) (hown : OwnSeq w base e size (fun _ => E) xs v) (hsrc : Src w size E ys u css)
    (h63 : xs.length + ys.length ≤ 9223372036854775807) (hbytes : (xs.length + ys.length) * bytes ≤ 140737488355328) (hbase : base ≤ w.heap.size)
    (h : ∀ v' w', OwnSeq w' base e size (fun _ => E) (xs ++ ys) v' → w.grownBy w' v.ownBlock → (v'.ownBlock = v.ownBlock ∨ v'.ownBlock = some w.heap.size) → K (a.put o.dst v') w') : if Region.wanted o (yielded ops a.tmps) = true then Oper.wp P o a w K Q else S0 := by
  have hw : Region.wanted o (yielded ops a.tmps) = true := by simp [Region.wanted, hgd]
  rw [if_pos hw]
  exact wp_appM w s x t ho base e z bytes hinfo ht hzs hsz v u hs hx hown hsrc h63 hbytes hbase h
end

theorem range_append {w : World} {b o : Nat} {xs ys : List Value} (h1 : w.rangeAt b o xs) (h2 : w.rangeAt b (o + xs.length) ys) : w.rangeAt b o (xs ++ ys) := by
  intro j v hv
  by_cases hj : j < xs.length
  · rw [List.getElem?_append_left hj] at hv; exact h1 j v hv
  · rw [List.getElem?_append_right (by omega)] at hv
    have := h2 _ v hv
    rwa [show o + xs.length + (j - xs.length) = o + j by omega] at this
theorem range_flat {w : World} {b size : Nat} : ∀ (css : List (List Value)) (o : Nat), (∀ us ∈ css, us.length = size) → (∀ i us, css[i]? = some us → w.rangeAt b (o + i * size) us) → w.rangeAt b o css.flatten
  | [], o, _, _ => fun j v hv => by simp at hv
  | us :: css, o, hl, h => by
    rw [List.flatten_cons]
    refine range_append ?_ (range_flat css _ (fun x hx => hl x (List.mem_cons_of_mem _ hx)) fun i vs hi => ?_)
    · have := h 0 us rfl; rwa [Nat.zero_mul, Nat.add_zero] at this
    · have := h (i + 1) vs (by simpa using hi)
      rw [hl us (List.mem_cons_self ..)]
      rwa [Nat.add_mul, Nat.one_mul, Nat.add_comm (i * size), ← Nat.add_assoc] at this
/-- what a sum's cells are -/
def IdC (x : List UInt8) (us : List Value) : Prop := us = byts x ∧ x.length = 32
theorem src_ids {w : World} {ids : List (List UInt8)} {v : Value} (h : IsIDs w ids v) : Src w 32 IdC ids v (ids.map byts) := by
  obtain ⟨a, c, rfl, -, -, hat⟩ := h
  refine ⟨⟨a, c, rfl, fun hp => ?_⟩, by simp, fun i y us hy hus => ?_⟩
  · obtain ⟨b, o, ha, -⟩ := hat.at_ 0 hp
    refine ⟨b, o, ha, range_flat (size := 32) _ _ (fun us hus => ?_) fun i us hi => ?_⟩
    · obtain ⟨y, hy, rfl⟩ := List.mem_map.1 hus
      rw [byts_length]; exact hat.len y hy
    · rw [List.getElem?_map] at hi
      have hlt : i < ids.length := by
        rcases Nat.lt_or_ge i ids.length with h | h
        · exact h
        · rw [List.getElem?_eq_none h] at hi; cases hi
      rw [List.getElem?_eq_getElem hlt] at hi
      obtain rfl := Option.some.inj hi
      obtain ⟨b2, o2, ha2, hr⟩ := hat.at_ i hlt
      rw [ha] at ha2
      cases ha2
      rw [List.getD_eq_getElem?_getD, List.getElem?_eq_getElem hlt] at hr
      exact hr
  · rw [List.getElem?_map, hy] at hus
    obtain rfl := Option.some.inj hus
    have h32 := hat.len y (List.mem_of_getElem? hy)
    exact ⟨by rw [byts_length, h32], ⟨rfl, h32⟩, one_of (one_byts y)⟩
theorem src_nodes {w : World} {ns : List NodeL} {v : Value} (h : IsNodes w ns v) : ∃ css, Src w 36 (IsNode w) ns v css := by
  obtain ⟨a, c, rfl, -, -, hat⟩ := h
  rcases Nat.eq_zero_or_pos ns.length with h0 | h0
  · refine ⟨[], ⟨⟨a, c, rfl, fun hp => by omega⟩, by rw [h0]; rfl, fun i y us hy hus => by simp at hus⟩⟩
  · obtain ⟨b, o, -, ha, -⟩ := hat.at_ 0 h0
    subst ha
    have hb : ∀ i, i < ns.length → ∃ cs, w.rangeAt b (o + i * 36) cs ∧ IsNode w (ns.getD i node0) cs := by
      intro i hi
      obtain ⟨b2, o2, cs, ha2, hr, hn⟩ := hat.at_ i hi
      cases ha2
      exact ⟨cs, hr, hn⟩
    obtain ⟨f, hf⟩ := choose_lt hb
    have hget : ∀ i us, ((List.range ns.length).map f)[i]? = some us → i < ns.length ∧ us = f i := by
      intro i us hi
      rw [List.getElem?_map] at hi
      rcases Nat.lt_or_ge i ns.length with h | h
      · rw [List.getElem?_range h] at hi
        exact ⟨h, (Option.some.inj hi).symm⟩
      · rw [List.getElem?_eq_none (by simpa using h)] at hi; cases hi
    refine ⟨(List.range ns.length).map f, ⟨⟨_, c, rfl, fun _ => ⟨b, o, rfl, range_flat (size := 36) _ _ (fun us hus => ?_) fun i us hi => ?_⟩⟩, by simp, fun i y us hy hus => ?_⟩⟩
    · obtain ⟨i, hi, rfl⟩ := List.mem_map.1 hus
      exact (hf i (List.mem_range.1 hi)).2.length
    · obtain ⟨h, rfl⟩ := hget i us hi
      exact (hf i h).1
    · obtain ⟨h, rfl⟩ := hget i us hus
      have hn := (hf i h).2
      rw [List.getD_eq_getElem?_getD, hy] at hn
      exact ⟨hn.length, hn, one_of hn.one⟩
end Go.Proofs.YtefabpgfhghpgaaDoor
end

section
/- Opening a law's arguments: from the form's reading to the walks' own words. -/
namespace Go.My
open Go.ChangeShapes Go.WideShapes Go.ChangeAt Go.RowKit
open Go.ChangeMaps (open_string shut_string)

variable {H : Type} {enc : TypeId × Value → H} {P : Program} {W : World} {base : Nat} {spare : Nat → Bool} {held : Bool}

theorem u8_of_wf {n : Int} (h : (Lit.int .u8 n).wf = true) : ∃ c : UInt8, n = (c.toNat : Int) := by
  have hb := bounds_u8 h
  refine ⟨UInt8.ofNat n.toNat, ?_⟩
  rw [UInt8.toNat_ofNat']
  omega
theorem u64_of_wf {n : Int} (h : (Lit.int .u64 n).wf = true) : ∃ c : BitVec 64, n = w64 c := by
  have hb := bounds_u64 h
  refine ⟨BitVec.ofNat 64 n.toNat, ?_⟩
  rw [w64_def, BitVec.toNat_ofNat]
  omega
theorem u32_of_wf {n : Int} (h : (Lit.int .u32 n).wf = true) : ∃ c : BitVec 32, n = w32 c := by
  have hb := bounds_u32 h
  refine ⟨BitVec.ofNat 32 n.toNat, ?_⟩
  rw [w32_def, BitVec.toNat_ofNat]
  omega
theorem i64_of_wf {n : Int} (h : (Lit.int .i64 n).wf = true) : -9223372036854775808 ≤ n ∧ n ≤ 9223372036854775807 := by
  have := bounds_i64 h; omega

theorem op_u8 {t : TypeId} {v : Value} {d : DataW H} {p : List MemPlace} (ht : P.underlying t = some (.int .u8)) (hv : Value.okWide P W .any base t v)
    (h : DataW.Trod enc P W 0 (fun _ => true) true t v d p) : ∃ c : UInt8, v = .int .u8 (c.toNat : Int) := by
  obtain ⟨a, rfl, rfl, rfl, w⟩ := open_int ht hv h
  obtain ⟨c, rfl⟩ := u8_of_wf w
  exact ⟨c, rfl⟩
theorem op_u64 {t : TypeId} {v : Value} {d : DataW H} {p : List MemPlace} (ht : P.underlying t = some (.int .u64)) (hv : Value.okWide P W .any base t v)
    (h : DataW.Trod enc P W 0 (fun _ => true) true t v d p) : ∃ c : BitVec 64, v = .int .u64 (w64 c) := by
  obtain ⟨a, rfl, rfl, rfl, w⟩ := open_int ht hv h
  obtain ⟨c, rfl⟩ := u64_of_wf w
  exact ⟨c, rfl⟩
theorem op_u32 {t : TypeId} {v : Value} {d : DataW H} {p : List MemPlace} (ht : P.underlying t = some (.int .u32)) (hv : Value.okWide P W .any base t v)
    (h : DataW.Trod enc P W 0 (fun _ => true) true t v d p) : ∃ c : BitVec 32, v = .int .u32 (w32 c) := by
  obtain ⟨a, rfl, rfl, rfl, w⟩ := open_int ht hv h
  obtain ⟨c, rfl⟩ := u32_of_wf w
  exact ⟨c, rfl⟩
theorem op_i64 {t : TypeId} {v : Value} {d : DataW H} {p : List MemPlace} (ht : P.underlying t = some (.int .i64)) (hv : Value.okWide P W .any base t v)
    (h : DataW.Trod enc P W 0 (fun _ => true) true t v d p) : ∃ n : Int, v = .int .i64 n ∧ -9223372036854775808 ≤ n ∧ n ≤ 9223372036854775807 := by
  obtain ⟨a, rfl, rfl, rfl, w⟩ := open_int ht hv h
  exact ⟨a, rfl, i64_of_wf w⟩
theorem op_string {t : TypeId} {v : Value} {d : DataW H} {p : List MemPlace} (ht : P.underlying t = some .string) (hv : Value.okWide P W .any base t v)
    (h : DataW.Trod enc P W 0 (fun _ => true) true t v d p) : ∃ s : ByteArray, v = .string s ∧ s.size ≤ 9223372036854775807 := by
  obtain ⟨s, rfl, rfl, rfl, hs⟩ := open_string ht hv h
  exact ⟨s, rfl, by unfold maxLen at hs; exact hs⟩
theorem op_bool {t : TypeId} {v : Value} {d : DataW H} {p : List MemPlace} (ht : P.underlying t = some .bool) (hv : Value.okWide P W .any base t v)
    (h : DataW.Trod enc P W 0 (fun _ => true) true t v d p) : ∃ b : Bool, v = .bool b := by
  obtain ⟨b, rfl, rfl, rfl⟩ := open_bool ht hv h
  exact ⟨b, rfl⟩
theorem op_bytes {t e : TypeId} {v : Value} {d : DataW H} {p : List MemPlace} (ht : P.underlying t = some (.slice e)) (he : P.underlying e = some (.int .u8)) (hc : P.cellsOf e = 1)
    (hv : Value.okWide P W .any base t v) (h : DataW.Trod enc P W 0 (fun _ => true) true t v d p) : ∃ l, IsBytes W l v := by
  obtain ⟨a2, len2, cap2, rfl⟩ := okWide_slice ht hv
  obtain ⟨fuel, hf⟩ := h
  rcases open_ints ht he hc hf with ⟨hcs, _⟩ | ⟨x, l, c, zs, hcs, _, hl, hm, hz, _, hcell, hwz⟩
  · simp [Value.cells] at hcs
    obtain ⟨rfl, rfl, rfl⟩ := hcs
    exact ⟨[], none, 0, rfl, by simp, by decide, fun i hi => by simp at hi⟩
  · simp [Value.cells] at hcs
    obtain ⟨rfl, rfl, rfl⟩ := hcs
    simp only [if_true] at hz
    have hle : ((zs.take len2).map fun n => UInt8.ofNat n.toNat).length = len2 := by simp; omega
    refine ⟨(zs.take len2).map fun n => UInt8.ofNat n.toNat, some x, cap2, by rw [hle], by omega, by unfold maxLen at hm; omega, ?_⟩
    rw [hle]
    intro i hi
    obtain ⟨b, off, spot⟩ := x
    have hci := hcell i (by omega)
    have hspot : spot = none := by
      have h0 := hcell 0 (by omega)
      simpa [Addr.add] using World.cell?_spot h0
    subst hspot
    refine ⟨b, off, rfl, ?_⟩
    have ha : (Addr.add ⟨b, off, none⟩ i) = ⟨b, off + i, none⟩ := by cases i <;> simp [Addr.add]
    rw [ha] at hci
    rw [hci]
    obtain ⟨c, hcc⟩ := u8_of_wf (hwz (zs.getD i 0) (by
      rw [List.getD_eq_getElem?_getD, List.getElem?_eq_getElem (by omega)]; exact List.getElem_mem _))
    have hget : ((zs.take len2).map fun n => UInt8.ofNat n.toNat).getD i 0 = c := by
      have h1 : zs[i]? = some (zs.getD i 0) := by rw [List.getD_eq_getElem?_getD, List.getElem?_eq_getElem (by omega)]; rfl
      rw [List.getD_eq_getElem?_getD, List.getElem?_map, List.getElem?_take, if_pos hi, h1, hcc]
      simp
    rw [byt_getD, hget, hcc]
theorem op_ints {t e : TypeId} {v : Value} {d : DataW H} {p : List MemPlace} (ht : P.underlying t = some (.slice e)) (he : P.underlying e = some (.int .i64)) (hc : P.cellsOf e = 1)
    (hv : Value.okWide P W .any base t v) (h : DataW.Trod enc P W 0 (fun _ => true) true t v d p) :
    ∃ l : List Int, IsRow W (int64 l) l.length v ∧ l.length ≤ 9223372036854775807 ∧ ∀ n ∈ l, -9223372036854775808 ≤ n ∧ n ≤ 9223372036854775807 := by
  obtain ⟨a2, len2, cap2, rfl⟩ := okWide_slice ht hv
  obtain ⟨fuel, hf⟩ := h
  rcases open_ints ht he hc hf with ⟨hcs, _⟩ | ⟨x, l, c, zs, hcs, _, hl, hm, hz, _, hcell, hwz⟩
  · simp [Value.cells] at hcs
    obtain ⟨rfl, rfl, rfl⟩ := hcs
    exact ⟨[], IsRow.nil W _, by simp, by simp⟩
  · simp [Value.cells] at hcs
    obtain ⟨rfl, rfl, rfl⟩ := hcs
    simp only [if_true] at hz
    have hle : (zs.take len2).length = len2 := by simp; omega
    unfold maxLen at hm
    refine ⟨zs.take len2, ?_, by omega, fun n hn => i64_of_wf (hwz n (List.mem_of_mem_take hn))⟩
    rw [hle]
    refine ⟨some x, cap2, rfl, hl, hm, ?_⟩
    intro i hi
    obtain ⟨b, off, spot⟩ := x
    have hci := hcell i (by omega)
    have hspot : spot = none := by
      have h0 := hcell 0 (by omega)
      simpa [Addr.add] using World.cell?_spot h0
    subst hspot
    refine ⟨b, off, rfl, ?_⟩
    have ha : (Addr.add ⟨b, off, none⟩ i) = ⟨b, off + i, none⟩ := by cases i <;> simp [Addr.add]
    rw [ha] at hci
    rw [hci, int64_def]
    simp [List.getD_eq_getElem?_getD, List.getElem?_take, hi]
end Go.My
end

section
/- Opening an argument of bytes: it is no odd nil. -/
namespace Go.My
open Go.ChangeShapes Go.WideShapes Go.ChangeAt Go.RowKit

theorem op_bytesN {H : Type} {enc : TypeId × Value → H} {P : Program} {W : World} {base : Nat} {t e : TypeId} {v : Value} {d : DataW H} {p : List MemPlace} (ht : P.underlying t = some (.slice e)) (he : P.underlying e = some (.int .u8)) (hc : P.cellsOf e = 1)
    (hv : Value.okWide P W .any base t v) (h : DataW.Trod enc P W 0 (fun _ => true) true t v d p) : ∃ l, IsBytes W l v ∧ NilOk v := by
  obtain ⟨l, hl⟩ := op_bytes ht he hc hv h
  refine ⟨l, hl, ?_⟩
  obtain ⟨a2, len2, cap2, rfl⟩ := okWide_slice ht hv
  obtain ⟨fuel, hf⟩ := h
  rcases open_ints ht he hc hf with ⟨hcs, _⟩ | ⟨x, l, c, zs, hcs, _⟩
  · simp [Value.cells] at hcs
    obtain ⟨rfl, rfl, rfl⟩ := hcs
    intro n c h; simp at h; exact h.2.symm
  · simp [Value.cells] at hcs
    obtain ⟨rfl, rfl, rfl⟩ := hcs
    exact NilOk.some _ _ _
end Go.My
end

section
/- Opening a law's string argument: a list of bytes. -/
namespace Go.Proofs.YtefabpgfhghpgaaDoor
open Go.ChangeShapes Go.WideShapes Go.ChangeAt Go.RowKit Go.My

theorem op_str {H : Type} {enc : TypeId × Value → H} {P : Program} {W : World} {base : Nat} {t : TypeId} {v : Value} {d : DataW H} {p : List MemPlace} (ht : P.underlying t = some .string) (hv : Value.okWide P W .any base t v)
    (h : DataW.Trod enc P W 0 (fun _ => true) true t v d p) : ∃ l : List UInt8, v = .string (strB l) ∧ l.length ≤ 9223372036854775807 := by
  obtain ⟨s, rfl, hs⟩ := op_string ht hv h
  refine ⟨s.data.toList, ?_, ?_⟩
  · rw [← strB_of]
  · have e : s.data.toList.length = s.size := rfl
    rw [e]
    exact hs

end Go.Proofs.YtefabpgfhghpgaaDoor
end

section
/- Opening an argument of nodes. -/
namespace Go.Proofs.YtefabpgfhghpgaaDoor
open Go.ChangeShapes Go.WideShapes Go.ChangeAt Go.RowKit Go.Deep Go.My

theorem addr_form {W : World} {a : Addr} {y : Value} (h : W.cell? (a.add 0) = some y) : a = ⟨a.block, a.off, none⟩ := by
  obtain ⟨b, off, spot⟩ := a
  have hs : spot = none := by simpa [Addr.add] using World.cell?_spot h
  subst hs; rfl
theorem getD_map_range {α : Type} (n : Nat) (f : Nat → α) (d : α) (i : Nat) (hi : i < n) : ((List.range n).map f).getD i d = f i := by
  rw [List.getD_eq_getElem?_getD, List.getElem?_map, List.getElem?_range hi]; rfl
/-- cells read are a range -/
theorem range_of_cells {w : World} {base b o k n : Nat} {cs : List Value} (h : w.cells? base ((⟨b, o, none⟩ : Addr).add k) n = some cs) : w.rangeAt b (o + k) cs := by
  obtain ⟨-, hl, hc⟩ := World.cells?_some h
  intro j v hv
  have hj := (List.getElem?_eq_some_iff.1 hv).1
  have := hc j (by omega)
  rw [addr_add, addr_add, hv] at this
  exact this

section
variable {H : Type} {enc : TypeId × Value → H} {W : World} {fuel : Nat} {cs : List Value} {x : DataW H × List MemPlace}
set_option maxRecDepth 100000 in
theorem cell_id (h : DataW.trod enc Tryd.prog W 0 (fun _ => true) true fuel 40 cs = some x) : ∃ l : List UInt8, l.length = 32 ∧ cs = byts l := by
  obtain ⟨xs, m, -, -, hl, hxl, hx⟩ := DataW.trod_array Tryd.underlying40 h
  have hcl : Tryd.prog.cellsOf 40 = 32 := by kernel_rfl
  have hc8 : Tryd.prog.cellsOf 5 = 1 := by kernel_rfl
  rw [hcl] at hl
  have hb : ∀ i, i < 32 → ∃ c : UInt8, cs[i]? = some (.int .u8 (c.toNat : Int)) := by
    intro i hi
    have h1 := hx i hi
    rw [hc8, Nat.mul_one, List.getElem?_eq_getElem (by omega)] at h1
    obtain ⟨n, h2, -, h3⟩ := DataW.trod_int Tryd.underlying5 h1
    obtain ⟨c, rfl⟩ := u8_of_wf h3
    refine ⟨c, ?_⟩
    rw [List.drop_eq_getElem_cons (by omega)] at h2
    simp only [List.take_succ_cons, List.take_zero, List.cons.injEq, and_true] at h2
    rw [List.getElem?_eq_getElem (by omega), h2]
  obtain ⟨f, hf⟩ := choose_lt hb
  refine ⟨(List.range 32).map f, by simp, ?_⟩
  apply List.ext_getElem?
  intro i
  by_cases hi : i < 32
  · rw [hf i hi]
    unfold byts
    rw [List.getElem?_map, List.getElem?_map, List.getElem?_range hi]; rfl
  · rw [List.getElem?_eq_none (by omega), List.getElem?_eq_none (by rw [byts_length]; simp; omega)]
set_option maxRecDepth 100000 in
theorem cell_ids (h : DataW.trod enc Tryd.prog W 0 (fun _ => true) true fuel 38 cs = some x) : ∃ ids v, cs = [v] ∧ IsIDs W ids v := by
  have hcl : Tryd.prog.cellsOf 40 = 32 := by kernel_rfl
  rcases open_slice Tryd.underlying38 h with ⟨rfl, _⟩ | ⟨a, len, cap, m, n, D, Pl, rfl, _, hl, hm, hmm, _, hx⟩
  · exact ⟨[], _, rfl, none, 0, rfl, Nat.le_refl _, by decide, ⟨fun p hp => (by cases hp), fun i hi => absurd hi (Nat.not_lt_zero _)⟩⟩
  · simp only [if_true] at hmm
    subst hmm
    rw [hcl] at hx
    have hb : ∀ i, i < len → ∃ l : List UInt8, l.length = 32 ∧ W.cells? 0 (a.add (i * 32)) 32 = some (byts l) := by
      intro i hi
      obtain ⟨cs', h1, h2⟩ := hx i (by omega)
      obtain ⟨l, h3, rfl⟩ := cell_id h2
      exact ⟨l, h3, h1⟩
    obtain ⟨f, hf⟩ := choose_lt hb
    refine ⟨(List.range len).map f, _, rfl, some a, m, by simp, by simpa using hl, by unfold maxLen at hm; omega, ⟨fun p hp => ?_, fun i hi => ?_⟩⟩
    · obtain ⟨i, hi, rfl⟩ := List.mem_map.1 hp
      exact (hf i (List.mem_range.1 hi)).1
    · simp only [List.length_map, List.length_range] at hi
      rw [getD_map_range len f [] i hi]
      have h0 := (hf 0 (by omega)).2
      obtain ⟨-, hl0, hc0⟩ := World.cells?_some h0
      have hxa : a = ⟨a.block, a.off, none⟩ := by
        have := hc0 0 (by decide)
        rw [List.getElem?_eq_getElem (by omega)] at this
        rw [Nat.zero_mul] at this
        have e : (a.add 0).add 0 = a.add 0 := by cases a; simp [Addr.add]
        rw [e] at this
        exact addr_form this
      generalize a.block = b, a.off = off at hxa
      subst hxa
      exact ⟨b, off, rfl, range_of_cells (hf i hi).2⟩
set_option maxRecDepth 100000 in
theorem cell_node (h : DataW.trod enc Tryd.prog W 0 (fun _ => true) true fuel 42 cs = some x) : ∃ n : NodeL, IsNode W n cs ∧ n.name.length ≤ 9223372036854775807 := by
  have hcl : Tryd.prog.cellsOf 42 = 36 := by kernel_rfl
  have k0 : Tryd.prog.cellsOf 9 = 1 := by kernel_rfl
  have k1 : Tryd.prog.cellsOf 4 = 1 := by kernel_rfl
  have k2 : Tryd.prog.cellsOf 2 = 1 := by kernel_rfl
  have k3 : Tryd.prog.cellsOf 38 = 1 := by kernel_rfl
  have k4 : Tryd.prog.cellsOf 40 = 32 := by kernel_rfl
  obtain ⟨xs, m, -, -, hl, hxl, hfs⟩ := DataW.trod_struct Tryd.underlying42 h
  replace hxl : xs.length = 5 := hxl
  rw [hcl] at hl
  have h0 := hfs 0 _ rfl; have h1 := hfs 1 _ rfl; have h2 := hfs 2 _ rfl; have h3 := hfs 3 _ rfl; have h4 := hfs 4 _ rfl
  have hx : ∀ i, i < 5 → ∃ x, xs[i]? = some x := fun i hi => ⟨xs[i]'(by rw [hxl]; exact hi), List.getElem?_eq_getElem _⟩
  obtain ⟨x0, e0⟩ := hx 0 (by decide); obtain ⟨x1, e1⟩ := hx 1 (by decide); obtain ⟨x2, e2⟩ := hx 2 (by decide); obtain ⟨x3, e3⟩ := hx 3 (by decide); obtain ⟨x4, e4⟩ := hx 4 (by decide)
  match cs, hl with
  | c0 :: c1 :: c2 :: c3 :: rest, hl =>
    obtain ⟨s, g0, -, hs⟩ := DataW.trod_string Tryd.underlying9 (h0.trans e0)
    obtain ⟨d, g1, -⟩ := DataW.trod_bool Tryd.underlying4 (h1.trans e1)
    obtain ⟨z, g2, -, hz⟩ := DataW.trod_int Tryd.underlying2 (h2.trans e2)
    obtain ⟨ids, v3, g3, hids⟩ := cell_ids (h3.trans e3)
    obtain ⟨sub, hsub, g4⟩ := cell_id (h4.trans e4)
    have hr : rest.length = 32 := by simpa using hl
    simp [k0, k1, k2, k3, k4] at g0 g1 g2 g3 g4
    rw [List.take_of_length_le (by omega)] at g4
    subst g0 g1 g2 g4
    have hb := i64_of_wf hz
    exact ⟨⟨s.data.toList, d, z, ids, sub⟩, ⟨⟨c3, by rw [nodeV, ← strB_of], by rw [g3]; exact hids⟩, hsub, hb.1, hb.2⟩, by unfold maxLen at hs; exact hs⟩
set_option maxRecDepth 100000 in
theorem cell_nodes (h : DataW.trod enc Tryd.prog W 0 (fun _ => true) true fuel 22 cs = some x) : ∃ ns v, cs = [v] ∧ IsNodes W ns v ∧ ∀ n ∈ ns, n.name.length ≤ 9223372036854775807 := by
  have hcl : Tryd.prog.cellsOf 42 = 36 := by kernel_rfl
  rcases open_slice Tryd.underlying22 h with ⟨rfl, _⟩ | ⟨a, len, cap, m, n, D, Pl, rfl, _, hl, hm, hmm, _, hx⟩
  · exact ⟨[], _, rfl, ⟨none, 0, rfl, Nat.le_refl _, by decide, ⟨fun i hi => absurd hi (Nat.not_lt_zero _)⟩⟩, fun n hn => (by cases hn)⟩
  · simp only [if_true] at hmm
    subst hmm
    rw [hcl] at hx
    have hb : ∀ i, i < len → ∃ nd : NodeL, (∃ cs', W.cells? 0 (a.add (i * 36)) 36 = some cs' ∧ IsNode W nd cs') ∧ nd.name.length ≤ 9223372036854775807 := by
      intro i hi
      obtain ⟨cs', h1, h2⟩ := hx i (by omega)
      obtain ⟨nd, h3, h4⟩ := cell_node h2
      exact ⟨nd, ⟨cs', h1, h3⟩, h4⟩
    haveI : Inhabited NodeL := ⟨node0⟩
    obtain ⟨f, hf⟩ := choose_lt hb
    refine ⟨(List.range len).map f, _, rfl, ⟨some a, m, by simp, by simpa using hl, by unfold maxLen at hm; omega, ⟨fun i hi => ?_⟩⟩, fun p hp => ?_⟩
    · simp only [List.length_map, List.length_range] at hi
      rw [getD_map_range len f node0 i hi]
      obtain ⟨cs0, h0, -⟩ := (hf 0 (by omega)).1
      obtain ⟨-, hl0, hc0⟩ := World.cells?_some h0
      have hxa : a = ⟨a.block, a.off, none⟩ := by
        have := hc0 0 (by decide)
        rw [List.getElem?_eq_getElem (by omega)] at this
        rw [Nat.zero_mul] at this
        have e : (a.add 0).add 0 = a.add 0 := by cases a; simp [Addr.add]
        rw [e] at this
        exact addr_form this
      generalize a.block = b, a.off = off at hxa
      subst hxa
      obtain ⟨cs', h1, h2⟩ := (hf i hi).1
      exact ⟨b, off, cs', rfl, range_of_cells h1, h2⟩
    · obtain ⟨i, hi, rfl⟩ := List.mem_map.1 hp
      exact (hf i (List.mem_range.1 hi)).2
end
set_option maxRecDepth 100000 in
theorem op_nodes {H : Type} {enc : TypeId × Value → H} {W : World} {base : Nat} {v : Value} {d : DataW H} {p : List MemPlace} (hv : Value.okWide Tryd.prog W .any base 22 v) (h : DataW.Trod enc Tryd.prog W 0 (fun _ => true) true 22 v d p) :
    ∃ ns, IsNodes W ns v ∧ ∀ n ∈ ns, n.name.length ≤ 9223372036854775807 := by
  obtain ⟨a, n, c, rfl⟩ := okWide_slice Tryd.underlying22 hv
  obtain ⟨fuel, hf⟩ := h
  obtain ⟨ns, v', h1, h2, h3⟩ := cell_nodes hf
  simp [Value.cells] at h1
  subst h1
  exact ⟨ns, h2, h3⟩
end Go.Proofs.YtefabpgfhghpgaaDoor
end
