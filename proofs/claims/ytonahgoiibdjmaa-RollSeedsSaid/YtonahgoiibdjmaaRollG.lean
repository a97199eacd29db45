/- The walks of coldstorelaw08.RollTurns and RollSeeds. -/
import Derived.Test.YtonahgoiibdjmaaRollF
namespace Go.Proofs.Ytonahgoiibdjmaa
open Go.RowKit Go.My

theorem and65535 (n : Int) : bits .and .i64 n 65535 = n % 65536 := i64_mask n 16 (by decide)
attribute [local go_sem] and65535 w32_xor w32_or w32_and

theorem turn_math (x : BitVec 32) (n : Nat) (hn : n < 32) :
    bits .or .u32 (IntKind.u32.wrap (w32 x * 2 ^ n)) (bits .and .u32 (w32 x / 2 ^ (32 - n)) (IntKind.u32.wrap (IntKind.u32.wrap (2 ^ n) - 1))) = w32 (x.rotateLeft n) := by
  rw [w32_shl, w32_shrv]
  have h1 : IntKind.u32.wrap (IntKind.u32.wrap (2 ^ n) - 1) = w32 (BitVec.ofNat 32 (2 ^ n - 1)) := by
    have hp : 2 ^ n < 2 ^ 32 := Nat.pow_lt_pow_right (by decide) hn
    have h1 : 0 < 2 ^ n := Nat.two_pow_pos n
    have e32 : (2 : Nat) ^ 32 = 4294967296 := rfl
    have e : ((2 : Int) ^ n) = ((2 ^ n : Nat) : Int) := by rw [Int.natCast_pow]; rfl
    rw [e, w32_def, BitVec.toNat_ofNat, Nat.mod_eq_of_lt (by omega), IntWalk.u32_in ((2 ^ n : Nat) : Int) (by omega), IntWalk.u32_in _ (by omega)]
    omega
  rw [h1, w32_and, w32_or]
  have h2 : x >>> (32 - n) &&& BitVec.ofNat 32 (2 ^ n - 1) = x >>> (32 - n) := by
    apply BitVec.eq_of_toNat_eq
    have hp : 2 ^ n < 2 ^ 32 := Nat.pow_lt_pow_right (by decide) hn
    have h1 : 0 < 2 ^ n := Nat.two_pow_pos n
    rw [BitVec.toNat_and, BitVec.toNat_ofNat, Nat.mod_eq_of_lt (by omega), Nat.and_two_pow_sub_one_eq_mod, BitVec.toNat_ushiftRight, Nat.shiftRight_eq_div_pow]
    apply Nat.mod_eq_of_lt
    have hx := x.isLt
    apply Nat.div_lt_of_lt_mul
    rw [← Nat.pow_add, show 32 - n + n = 32 by omega]
    exact hx
  rw [h2]
  unfold BitVec.rotateLeft BitVec.rotateLeftAux
  rw [Nat.mod_eq_of_lt hn]

theorem turn_math' (x : BitVec 32) (n : Nat) (hn : n < 32) :
    bits .or .u32 (w32 x * 2 ^ n % 4294967296) (bits .and .u32 (w32 x / 2 ^ (32 - n)) ((2 ^ n - 1) % 4294967296)) = w32 (x.rotateLeft n) := by
  rw [← turn_math x n hn]
  have hp : 2 ^ n < 2 ^ 32 := Nat.pow_lt_pow_right (by decide) hn
  have e32 : (2 : Nat) ^ 32 = 4294967296 := rfl
  obtain ⟨q, hq⟩ : ∃ q : Nat, q = 2 ^ n := ⟨_, rfl⟩
  have e : ((2 : Int) ^ n) = (q : Int) := by rw [hq, Int.natCast_pow]; rfl
  have h1 : IntKind.u32.wrap (2 ^ n) = 2 ^ n := by rw [e]; exact IntWalk.u32_in _ (by omega)
  rw [h1, w32_wrap, w32_wrap]
theorem tabAt_nat (s : BitVec 64) (b k : Nat) (hk : k < 256) (w : World) (ht : Tab w b s) :
    Calls Try.prog 10 #[.pointer (some ⟨b, 0, none⟩), .int .u8 k] w fun e w' => e = .returned (.int .u32 (w32 (mixN s k))) ∧ w = w' := by
  have := tabAt_any s b (UInt8.ofNat k) w ht
  have e : (UInt8.ofNat k).toNat = k := by rw [UInt8.toNat_ofNat']; omega
  rw [e] at this; exact this
theorem tabOne (s : BitVec 64) (b k : Nat) (hk : k < 256) (w : World) (ht : Tab w b s) :
    Calls Try.prog 12 #[.pointer (some ⟨b, 0, none⟩), .slice (some ⟨w.heap.size, 0, none⟩) 1 1] (w.alloc (.cells #[.int .u8 k] 5)) fun e w' => e = .returned (.int .u32 (w32 (mixN s k))) ∧ Ext No w w' := by
  have e : (UInt8.ofNat k).toNat = k := by rw [UInt8.toNat_ofNat']; omega
  have hb : IsBytes (w.alloc (.cells #[.int .u8 k] 5)) [UInt8.ofNat k] (.slice (some ⟨w.heap.size, 0, none⟩) 1 1) := by
    refine ⟨_, 1, rfl, by simp, by omega, Rd.of_blk (Blk.new w _ _) ?_⟩
    intro i hi
    have : i = 0 := by simpa using hi
    subst this
    simp [byt, e]
  have := tabSum_v s b _ _ _ (ht.ext0 ((Ext.refl No w).alloc _)) hb
  rw [rollTo_H, Roll.H_one, e] at this
  exact this.mono fun _ _ ⟨h1, h2⟩ => ⟨h1, ((Ext.refl No w).alloc _).trans' (h2.ext No)⟩

theorem size8 (w : World) : (sizeOf 5).run Try.prog w = .ok 1 w := by kernel_rfl
theorem drop8 (a : Option Addr) (k len cap : Nat) (hk : k ≤ len) (w : World) : (Instr.sliceAt 23 (.slice a len cap) (some (.int .i64 k)) none none).run Try.prog w = .ok (dropS a k len cap) w :=
  run_dropS Try.underlying23 size8 a .i64 k len cap hk w
theorem take8 (a : Option Addr) (k len cap : Nat) (hk : k ≤ cap) (w : World) : (Instr.sliceAt 23 (.slice a len cap) none (some (.int .i64 k)) none).run Try.prog w = .ok (.slice a k cap) w :=
  run_takeS Try.underlying23 size8 a .i64 k len cap hk w

set_option maxRecDepth 100000 in
set_option maxHeartbeats 1000000 in
theorem turns_some (s : BitVec 64) (l : List UInt8) (v : Value) (c0 : Int) (w : World) (hv : IsBytes w l v) (hl : l.length ≤ 300) :
    Calls Try.prog 5 #[.int .u64 (w64 s), v, .int .i64 c0] w fun e w' => e = .returned (.bool true) ∧ Ext No w w' := by
  have HV := Lib.hid hv
  obtain ⟨a, cap, rfl, hc1, hc2, -⟩ := hv
  obtain ⟨m, hm⟩ : ∃ m, m = l.length := ⟨_, rfl⟩
  rw [← hm] at hc1 hl HV ⊢
  have HM := Lib.hid hm; clear hm
  obtain ⟨c, hc⟩ : ∃ c : Nat, c0 % 65536 % ((m : Int) + 1) = (c : Int) := ⟨(c0 % 65536 % ((m : Int) + 1)).toNat, by have := Int.emod_nonneg (c0 % 65536) (by omega : (m : Int) + 1 ≠ 0); omega⟩
  have hcm : c ≤ m := by have := Int.emod_lt_of_pos (c0 % 65536) (by omega : (0 : Int) < (m : Int) + 1); omega
  have h65 : 0 ≤ c0 % 65536 := by omega
  go_enter Try.func5, Try.ntmps5
  go_wp2_with fail
  refine (alive_any w).mono ?_
  rintro e w1 ⟨rfl, he1⟩
  have HE1 := Lib.hid he1; clear he1
  go_wp2_with fail
  refine (make_any s w1).mono ?_
  rintro e w2 ⟨rfl, hw2⟩
  have ht2 : Tab w2 w1.heap.size s := by rw [hw2]; exact Tab.mk
  have he2 : Ext No w w2 := HE1.out.trans' (by rw [hw2]; exact (Ext.refl No w1).alloc _)
  clear hw2 HE1
  generalize w1.heap.size = tb at *
  have HT2 := Lib.hid ht2; have HE2 := Lib.hid he2; clear ht2 he2
  have hs1 := drop8 a c m cap hcm
  have hs2 := take8 a c m cap (by omega)
  have hT : ∀ (l' : List UInt8) (v : Value), IsBytes w l' v → ∀ j, Calls Try.prog 12 #[.pointer (some ⟨tb, 0, none⟩), v] (w2.drewN j) fun e w'' => e = .returned (.int .u32 (w32 (rollTo s l'))) ∧ ∃ i, w'' = w2.drewN i := fun l' v hv j =>
    quiet_of_Dr (tabSum_v s tb l' v _ (HT2.out.ext0 ((Dr.mk _ _).ext No)) (hv.ext0 (HE2.out.trans' ((Dr.mk _ _).ext No))))
  have HT := Lib.hid hT; clear hT
  have hq1 := HT.out _ _ (HV.out.take c hcm)
  have hq2 := HT.out _ _ (HV.out.dropS c hcm)
  have HQ1 := Lib.hid hq1; have HQ2 := Lib.hid hq2; clear hq1 hq2
  generalize hg1 : rollTo s (l.take c) = r1 at *
  generalize hg2 : rollTo s (l.drop c) = r2 at *
  have HG1 := Lib.hid hg1; have HG2 := Lib.hid hg2; clear hg1 hg2
  go_wp2_with fail
  rw [hc]
  clear hc
  go_quiet ((first | (go_at_call 12; (with_reducible exact HQ1.out _)) | (go_at_call 12; (with_reducible exact HQ2.out _))))
  clear hs1 hs2
  go_wp2_with fail
  obtain ⟨d, hd⟩ : ∃ d : Nat, ((m : Int) - (c : Int)) % 32 = (d : Int) := ⟨(((m : Int) - (c : Int)) % 32).toNat, by omega⟩
  have hd32 : d < 32 := by omega
  have hdm : d = (m - c) % 32 := by omega
  have HDM := Lib.hid hdm; clear hdm
  rw [hd]
  clear hd
  obtain ⟨w3, hw3, hdr⟩ : ∃ w3, w2.drewN nq = w3 ∧ Dr w2 w3 := ⟨_, rfl, Dr.mk _ _⟩
  rw [hw3]; clear hw3
  go_quiet (fail)
  rw [turn_math' r1 d hd32]
  obtain ⟨w4, hw4, hdr'⟩ : ∃ w4, w3.drewN nq = w4 ∧ Dr w3 w4 := ⟨_, rfl, Dr.mk _ _⟩
  rw [hw4]; clear hw4
  have hd4 := hdr.trans hdr'
  have ht4 := HT2.out.ext0 (hd4.ext No)
  have he4 : Ext No w w4 := HE2.out.trans' (hd4.ext No)
  clear hdr hdr' hd4 HT2 HE2 HT HQ1 HQ2
  have hR : rollTo s l = r1.rotateLeft d ^^^ r2 := by
    rw [HDM.out, Roll.rotl_mod, ← HG1.out, ← HG2.out, rollTo_H, rollTo_H, rollTo_H]
    conv => lhs; rw [← List.take_append_drop c l, Roll.H_append]
    rw [List.length_drop, ← HM.out]
  have hX := tabSum_v s tb l _ w4 ht4 (HV.out.ext0 he4)
  rw [hR] at hX
  have HX := Lib.hid hX; clear hX hR
  have HT4 := Lib.hid ht4; have HE4 := Lib.hid he4; clear ht4 he4
  generalize r1.rotateLeft d = t1 at *
  go_wp2_with fail
  refine HX.out.mono ?_
  rintro e w5 ⟨rfl, hd5⟩
  have ht5 := HT4.out.ext0 (hd5.ext No)
  have he5 : Ext No w w5 := HE4.out.trans' (hd5.ext No)
  clear HX HT4 HE4 hd5
  have HT5 := Lib.hid ht5; have HE5 := Lib.hid he5; clear ht5 he5
  go_wp2_with fail
  have hX := tabSum_v s tb [] (.slice none 0 0) w5 HT5.out ⟨none, 0, rfl, by simp, by omega, fun i hi => by simp at hi⟩
  rw [rollTo_H, Roll.H_nil, ← lit0] at hX
  have HX := Lib.hid hX; clear hX
  refine HX.out.mono ?_
  rintro e w6 ⟨rfl, hd6⟩
  have ht6 := HT5.out.ext0 (hd6.ext No)
  have he6 : Ext No w w6 := HE5.out.trans' (hd6.ext No)
  clear HX HT5 HE5 hd6
  have HT6 := Lib.hid ht6; have HE6 := Lib.hid he6; clear ht6 he6
  go_wp2_with fail
  go_loopw [12, 65] (fun _ i wr => ∃ k : Nat, k ≤ 256 ∧ i = .int .i64 k ∧ Tab wr tb s ∧ Ext No w wr) (fun _ i _ => 256 - (intOf i).toNat)
  case atStart => exact ⟨0, by omega, rfl, HT6.out, HE6.out⟩
  case round =>
    clear HT6 HE6
    obtain ⟨k, hk, rfl, ht, he⟩ := hrel
    have HT := Lib.hid ht; have HE := Lib.hid he; clear ht he
    by_cases hlt : k < 256
    · go_wp2_with fail
      refine (tabOne s tb k hlt _ HT.out).mono ?_
      rintro e w7 ⟨rfl, he7⟩
      have ht7 := HT.out.ext0 he7
      have he7' := HE.out.trans' he7
      clear HT HE he7
      have HT := Lib.hid ht7; have HE := Lib.hid he7'; clear ht7 he7'
      go_wp2_with fail
      refine (tabAt_nat s tb k hlt _ HT.out).mono ?_
      rintro e w8 ⟨rfl, rfl⟩
      go_wp2_with fail
      go_roundw
      case rel => exact ⟨k + 1, by omega, by go_num, HT.out, HE.out⟩
      case measure => simp [intOf]; omega
    · obtain rfl : k = 256 := by omega
      go_wp2_with fail
      go_ret
      exact ⟨rfl, HE.out⟩

set_option maxRecDepth 100000 in
set_option maxHeartbeats 1000000 in
theorem turns_fr (s : BitVec 64) (l : List UInt8) (v : Value) (c0 : Int) (w : World) (hv : IsBytes w l v) (_ : -9223372036854775808 ≤ c0) (_ : c0 ≤ 9223372036854775807) :
    Calls Try.prog 5 #[.int .u64 (w64 s), v, .int .i64 c0] w fun e w' => e = .returned (.bool true) ∧ Ext No w w' := by
  by_cases hl : l.length ≤ 300
  · exact turns_some s l v c0 w hv hl
  · obtain ⟨a, cap, rfl, hc1, hc2, -⟩ := hv
    generalize l.length = m at *
    go_enter Try.func5, Try.ntmps5
    go_wp2_with fail
    refine (alive_any w).mono ?_
    rintro e w1 ⟨rfl, he1⟩
    go_wp2_with fail
    go_ret
    exact ⟨rfl, he1⟩

end Go.Proofs.Ytonahgoiibdjmaa
