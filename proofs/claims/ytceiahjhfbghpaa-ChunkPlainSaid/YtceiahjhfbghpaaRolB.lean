/- Walks of bits.RotateLeft32, (*Table).Sum, (*Table).Window, (*Window).Sum, Reset, Push; of the reference's turn, Sum, Last. -/
import Derived.Test.YtceiahjhfbghpaaLib
import Derived.Test.YtceiahjhfbghpaaRolA
namespace Go.Proofs.Ytceiahjhfbghpaa
open Go.RowKit Go.My

theorem and31 (c : Int) : bits .and .u64 (IntKind.u64.wrap c) 31 = c % 32 := by
  rw [w64_int]
  have h : (31 : Int) = w64 31#64 := by rw [w64_def]; rfl
  rw [h, w64_and, w64_def, BitVec.toNat_and, BitVec.toNat_ofInt]
  have : (31#64).toNat = 2 ^ 5 - 1 := rfl
  rw [this, Nat.and_two_pow_sub_one_eq_mod]
  omega
theorem w32_shl (x : BitVec 32) (n : Nat) : IntKind.u32.wrap (w32 x * 2 ^ n) = w32 (x <<< n) := by
  rw [w32_wrap, w32_def, w32_def, BitVec.toNat_shiftLeft, Nat.shiftLeft_eq, Int.natCast_emod, Int.natCast_mul, Int.natCast_pow]
  rfl
theorem w32_shl' (x : BitVec 32) (n : Nat) : w32 x * 2 ^ n % (4294967296 : Int) = w32 (x <<< n) := by
  rw [← w32_shl, w32_wrap]
theorem w32_shrv (x : BitVec 32) (n : Nat) : w32 x / 2 ^ n = w32 (x >>> n) := by
  have := w32_shr x n
  rw [Int.natCast_pow] at this
  exact this
theorem rot_eq (x : BitVec 32) (c : Int) : x <<< (c % 32).toNat ||| x >>> (32 - c % 32).toNat = x.rotateLeft (c % 32).toNat := by
  unfold BitVec.rotateLeft BitVec.rotateLeftAux
  have h0 : 0 ≤ c % 32 := by omega
  have h1 : c % 32 < 32 := by omega
  have : (c % 32).toNat % 32 = (c % 32).toNat := Nat.mod_eq_of_lt (by omega)
  rw [this]
  have : (32 - c % 32).toNat = 32 - (c % 32).toNat := by omega
  rw [this]
attribute [local go_sem] and31 w32_shl w32_shl' w32_shrv w32_or w32_xor
set_option maxRecDepth 100000 in
set_option maxHeartbeats 400000 in
theorem rot_any (x : BitVec 32) (c : Int) (w : World) :
    Calls Try.prog 28 #[.int .u32 (w32 x), .int .i64 c] w fun e w' => e = .returned (.int .u32 (w32 (x.rotateLeft (c % 32).toNat))) ∧ w = w' := by
  have h0 : 0 ≤ c % 32 := by omega
  have h1 : c % 32 < 32 := by omega
  go_enter Try.func28, Try.ntmps28
  go_wp2
  go_ret
  exact ⟨by rw [← rot_eq]; rfl, rfl⟩

/-- a sum of bytes, by the document -/
def rollTo (s : BitVec 64) (l : List UInt8) : BitVec 32 := l.foldl (fun n c => n.rotateLeft 1 ^^^ mixN s c.toNat) 0#32
theorem rollTo_snoc (s : BitVec 64) (l : List UInt8) (c : UInt8) : rollTo s (l ++ [c]) = (rollTo s l).rotateLeft 1 ^^^ mixN s c.toNat := by
  simp [rollTo]
theorem take_snoc' (l : List UInt8) (k : Nat) (h : k < l.length) : l.take (k + 1) = l.take k ++ [l.getD k 0] := by
  rw [List.take_succ_eq_append_getElem h]; simp [List.getD_eq_getElem?_getD, h]
attribute [irreducible] rollTo

/-- A window: what its machine holds. -/
structure WS where
  buf : List UInt8
  pos : Nat
  full : Bool
  sum : BitVec 32
def WS.sum1 (st : WS) (s : BitVec 64) (c : UInt8) : BitVec 32 := st.sum.rotateLeft 1 ^^^ mixN s c.toNat
def WS.sum2 (st : WS) (s : BitVec 64) (c : UInt8) : BitVec 32 :=
  if st.full then st.sum1 s c ^^^ (mixN s (st.buf.getD st.pos 0).toNat).rotateLeft (st.buf.length % 32) else st.sum1 s c
def WS.push (st : WS) (s : BitVec 64) (c : UInt8) : WS :=
  { buf := st.buf.set st.pos c, pos := if st.pos + 1 = st.buf.length then 0 else st.pos + 1, full := if st.pos + 1 = st.buf.length then true else st.full, sum := st.sum2 s c }
def winCells (tb lb : Nat) (n pos : Nat) (full : Bool) (sum : BitVec 32) : Array Value :=
  #[.pointer (some ⟨tb, 0, none⟩), .slice (some ⟨lb, 0, none⟩) n n, .int .i64 pos, .bool full, .int .u32 (w32 sum)]
def bufCells (l : List UInt8) : Array Value := (l.map fun c => Value.int .u8 (c.toNat : Int)).toArray
theorem bufCells_get (l : List UInt8) (i : Nat) (h : i < l.length) : (bufCells l)[i]? = some (.int .u8 ((l.getD i 0).toNat : Int)) := by
  simp [bufCells, List.getD_eq_getElem?_getD, h]
theorem bufCells_set (l : List UInt8) (i : Nat) (c : UInt8) : (bufCells l).setIfInBounds i (.int .u8 (c.toNat : Int)) = bufCells (l.set i c) := by
  simp [bufCells, List.map_set]
structure Win (w : World) (wb lb tb : Nat) (st : WS) : Prop where
  head : Blk w wb (winCells tb lb st.buf.length st.pos st.full st.sum) 64
  row : Blk w lb (bufCells st.buf) 5
  low : st.pos < st.buf.length
  len : st.buf.length ≤ 64
theorem Win.ne {w : World} {wb lb tb : Nat} {st : WS} (h : Win w wb lb tb st) : wb ≠ lb := by
  intro e; subst e; have h1 := h.head; have h2 := h.row; unfold Blk at *; rw [h1] at h2; simp at h2
theorem Win.ext {w w' : World} {wb lb tb : Nat} {st : WS} {S : Nat → Prop} (h : Win w wb lb tb st) (e : Ext S w w') (h1 : ¬ S wb) (h2 : ¬ S lb) : Win w' wb lb tb st :=
  ⟨h.head.ext e h1, h.row.ext e h2, h.low, h.len⟩
theorem Win.set_sum {w : World} {wb lb tb : Nat} {st : WS} (h : Win w wb lb tb st) (x : BitVec 32) : Win (w.setCell ⟨wb, 4, none⟩ (.int .u32 (w32 x))) wb lb tb { st with sum := x } :=
  ⟨by have := h.head.set 4 (.int .u32 (w32 x)); exact this, h.row.set_other _ _ (Ne.symm h.ne), h.low, h.len⟩
theorem Win.set_buf {w : World} {wb lb tb : Nat} {st : WS} (h : Win w wb lb tb st) (c : UInt8) : Win (w.setCell ⟨lb, st.pos, none⟩ (.int .u8 (c.toNat : Int))) wb lb tb { st with buf := st.buf.set st.pos c } :=
  ⟨by have := h.head.set_other ⟨lb, st.pos, none⟩ (.int .u8 (c.toNat : Int)) h.ne; simpa using this, by have := h.row.set st.pos (.int .u8 (c.toNat : Int)); rw [bufCells_set] at this; exact this, by simpa using h.low, by simpa using h.len⟩
theorem Win.drew {w : World} {wb lb tb : Nat} {st : WS} (h : Win w wb lb tb st) : Win w.drew wb lb tb st := ⟨h.head, h.row, h.low, h.len⟩
theorem Tab.ext {w w' : World} {b : Nat} {s : BitVec 64} {S : Nat → Prop} (h : Tab w b s) (e : Ext S w w') (h1 : ¬ S b) : Tab w' b s := by
  have := Blk.ext (w := w) (b := b) h e h1; exact this
theorem Tab.ne_win {w : World} {wb lb tb : Nat} {st : WS} {b : Nat} {s : BitVec 64} (h : Win w wb lb tb st) (t : Tab w b s) : b ≠ wb ∧ b ≠ lb := by
  constructor
  · intro e; subst e; have h1 := h.head; unfold Blk at h1; unfold Tab at t; rw [h1] at t; simp at t
  · intro e; subst e; have h1 := h.row; unfold Blk at h1; unfold Tab at t; rw [h1] at t; simp at t

structure WinFacts (w : World) (wb lb tb : Nat) (s : BitVec 64) (c d : UInt8) (st : WS) : Prop where
  h0 : w.cell? ⟨wb, 0, none⟩ = some (.pointer (some ⟨tb, 0, none⟩))
  h1 : w.cell? ⟨wb, 1, none⟩ = some (.slice (some ⟨lb, 0, none⟩) st.buf.length st.buf.length)
  h2 : w.cell? ⟨wb, 2, none⟩ = some (.int .i64 st.pos)
  h3 : w.cell? ⟨wb, 3, none⟩ = some (.bool st.full)
  h4 : w.cell? ⟨wb, 4, none⟩ = some (.int .u32 (w32 st.sum))
  h5 : w.cell? ⟨tb, c.toNat, none⟩ = some (.int .u32 (w32 (mixN s c.toNat)))
  h6 : w.cell? ⟨lb, st.pos, none⟩ = some (.int .u8 (d.toNat : Int))
  h7 : w.cell? ⟨tb, d.toNat, none⟩ = some (.int .u32 (w32 (mixN s d.toNat)))
  f4 : w.frozen? ⟨wb, 4, none⟩ = false
  f3 : w.frozen? ⟨wb, 3, none⟩ = false
  f2 : w.frozen? ⟨wb, 2, none⟩ = false
  fl : w.frozen? ⟨lb, st.pos, none⟩ = false
theorem Win.facts {w : World} {wb lb tb : Nat} {st : WS} (hw : Win w wb lb tb st) {s : BitVec 64} (ht : Tab w tb s) (c d : UInt8) (hd : st.buf.getD st.pos 0 = d) : WinFacts w wb lb tb s c d st where
  h0 := by rw [hw.head.cell]; rfl
  h1 := by rw [hw.head.cell]; rfl
  h2 := by rw [hw.head.cell]; rfl
  h3 := by rw [hw.head.cell]; rfl
  h4 := by rw [hw.head.cell]; rfl
  h5 := ht.cell _ c.toNat_lt
  h6 := by rw [hw.row.cell, bufCells_get _ _ hw.low, hd]
  h7 := ht.cell _ (UInt8.toNat_lt _)
  f4 := hw.head.free 4
  f3 := hw.head.free 3
  f2 := hw.head.free 2
  fl := hw.row.free st.pos

set_option maxRecDepth 100000 in
set_option maxHeartbeats 1000000 in
theorem push_any (s : BitVec 64) (wb lb tb : Nat) (st : WS) (c : UInt8) (w : World) (hw : Win w wb lb tb st) (ht : Tab w tb s) :
    Calls Try.prog 22 #[.pointer (some ⟨wb, 0, none⟩), .int .u8 c.toNat] w fun e w' =>
      e = .returned (.int .u32 (w32 (st.push s c).sum)) ∧ Win w' wb lb tb (st.push s c) ∧ Ext (fun k => k = wb ∨ k = lb) w w' := by
  have hne := hw.ne
  have htw := Tab.ne_win hw ht
  obtain ⟨d, hd⟩ : ∃ d, st.buf.getD st.pos 0 = d := ⟨_, rfl⟩
  obtain ⟨h0, h1, h2, h3, h4, h5, h6, h7, f4, f3, f2, fl⟩ := hw.facts ht c d hd
  have hci : (c.toNat : Int) < 256 := by have := c.toNat_lt; omega
  have hbi : (d.toNat : Int) < 256 := by have := UInt8.toNat_lt d; omega
  have HD := Lib.hid hd; clear hd
  have hli : (st.pos : Int) < (st.buf.length : Int) := by have := hw.low; omega
  have hlen := hw.len
  have HW := Lib.hid hw
  have HT := Lib.hid ht
  clear hw ht
  go_enter Try.func22, Try.ntmps22
  go_wp2_with fail
  go_cut [] (fun wx => Win wx wb lb tb { st with sum := st.sum1 s c } ∧ Ext (fun k => k = wb ∨ k = lb) w wx)
  case first =>
    refine wp_region_still_tail 17 (by kernel_rfl) (by kernel_rfl) ?_
    simp only [List.take_succ_cons, List.take_zero, List.drop_succ_cons, List.drop_zero]
    repeat still_step
    still_call (still_of_eq (rot_any _ _ _))
    repeat still_step
    refine wpStill_nil ?_
    go_wp2_with fail
    go_meet
    exact ⟨(Win.set_sum HW.out _).drew, ((Ext.refl _ w).setCell _ _ (fun _ => .inl rfl)).drew⟩
  case rest =>
    obtain ⟨hw1, he1⟩ := hcut
    have ht1 : Tab wc tb s := HT.out.ext he1 (by rintro (e | e); exact htw.1 e; exact htw.2 e)
    clear h0 h1 h2 h3 h4 h5 h6 h7 f4 f3 f2 fl
    obtain ⟨h0, h1, h2, h3, h4, h5, h6, h7, f4, f3, f2, fl⟩ := hw1.facts ht1 c d HD.out
    simp only at h0 h1 h2 h3 h4 h5 h6 h7 fl
    have HW1 := Lib.hid hw1
    have HT1 := Lib.hid ht1
    have HE1 := Lib.hid he1
    clear hw1 ht1 he1
    have hs2 : st.sum2 s c = if st.full then st.sum1 s c ^^^ (mixN s d.toNat).rotateLeft (st.buf.length % 32) else st.sum1 s c := by rw [← HD.out]; rfl
    generalize hg1 : st.sum1 s c = sum1 at *
    generalize hg2 : st.sum2 s c = sum2 at *
    have HS1 := Lib.hid hg1; clear hg1
    have HG2 := Lib.hid hg2; clear hg2
    have HS2 := Lib.hid hs2; clear hs2
    go_upto_if 25 with fail
    go_cut [] (fun wx => Win wx wb lb tb { st with sum := sum2 } ∧ Ext (fun k => k = wb ∨ k = lb) w wx)
    case first =>
      cases hf : st.full
      · rw [hf] at h3
        have HF := Lib.hid hf; clear hf
        go_wp2_with fail
        go_meet
        exact ⟨by have := HW1.out; rw [HS2.out, HF.out, if_neg (by decide)]; rw [HF.out] at this; exact this, HE1.out⟩
      · rw [hf] at h3
        have HF := Lib.hid hf; clear hf
        go_wp2_with fail
        refine wp_region_still_tail 30 (by kernel_rfl) (by kernel_rfl) ?_
        simp only [List.take_succ_cons, List.take_zero, List.drop_succ_cons, List.drop_zero]
        repeat still_step
        still_call (still_of_eq (rot_any _ _ _))
        repeat still_step
        refine wpStill_nil ?_
        go_wp2_with fail
        go_meet
        exact ⟨by have := (Win.set_sum HW1.out (sum1 ^^^ (mixN s d.toNat).rotateLeft (st.buf.length % 32))).drew; rw [HS2.out, HF.out, if_pos rfl]; rw [HF.out] at this; exact this,
          HE1.out.trans' ((Ext.refl _ wc).setCell _ _ (fun _ => .inl rfl)).drew⟩
    case rest =>
      obtain ⟨hw2, he2⟩ := hcut
      clear HW1 HT1 HE1 h0 h1 h2 h3 h4 h5 h6 h7 f4 f3 f2 fl
      have ht2 := HT.out.ext he2 (by rintro (e | e); exact htw.1 e; exact htw.2 e)
      obtain ⟨h0, h1, h2, h3, h4, h5, h6, h7, f4, f3, f2, fl⟩ := hw2.facts ht2 c d HD.out
      simp only at h0 h1 h2 h3 h4 h5 h6 h7 fl
      have HW2 := Lib.hid hw2
      have HE2 := Lib.hid he2
      clear hw2 he2 ht2
      go_wp2_with fail
      go_cut [] (fun wx => Win wx wb lb tb { st with buf := st.buf.set st.pos c, sum := sum2 } ∧ Ext (fun k => k = wb ∨ k = lb) w wx)
      case first =>
        refine wp_region_still_tail 10 (by kernel_rfl) (by kernel_rfl) ?_
        simp only [List.take_succ_cons, List.take_zero, List.drop_succ_cons, List.drop_zero]
        repeat still_step
        refine wpStill_nil ?_
        go_wp2_with fail
        go_meet
        exact ⟨(Win.set_buf HW2.out c).drew, HE2.out.trans' ((Ext.refl _ wc).setCell _ _ (fun _ => .inr rfl)).drew⟩
      case rest =>
        obtain ⟨hw3, he3⟩ := hcut
        clear HW2 HE2 h0 h1 h2 h3 h4 h5 h6 h7 f4 f3 f2 fl
        have h1 : wc.cell? ⟨wb, 1, none⟩ = some (.slice (some ⟨lb, 0, none⟩) st.buf.length st.buf.length) := by rw [hw3.head.cell]; simp [winCells]
        have h2 : wc.cell? ⟨wb, 2, none⟩ = some (.int .i64 st.pos) := by rw [hw3.head.cell]; rfl
        have h3 : wc.cell? ⟨wb, 3, none⟩ = some (.bool st.full) := by rw [hw3.head.cell]; rfl
        have h4 : wc.cell? ⟨wb, 4, none⟩ = some (.int .u32 (w32 sum2)) := by rw [hw3.head.cell]; rfl
        have f2 := hw3.head.free 2
        have f3 := hw3.head.free 3
        have HW3 := Lib.hid hw3
        have HE3 := Lib.hid he3
        clear hw3 he3
        by_cases heq : st.pos + 1 = st.buf.length
        · have hb : ((st.pos : Int) + 1 == (st.buf.length : Int)) = true := by rw [beq_iff_eq]; omega
          have HQ := Lib.hid heq; clear heq
          go_wp2_with fail
          go_quiet (fail)
          go_wp2_with fail
          go_ret
          refine ⟨by rw [show (st.push s c).sum = sum2 from HG2.out]; rfl, ?_, ?_⟩
          · have hp : st.push s c = { buf := st.buf.set st.pos c, pos := 0, full := true, sum := sum2 } := by simp only [WS.push, HQ.out, if_true, HG2.out]
            rw [hp]
            have hh := (((HW3.out.head.set 2 (.int .i64 (↑st.pos + 1))).drewN nq).set 2 (.int .i64 0)).set 3 (.bool true)
            refine ⟨?_, (((HW3.out.row.set_other _ _ HW3.out.ne.symm).drewN nq).set_other _ _ HW3.out.ne.symm).set_other _ _ HW3.out.ne.symm, by have := HW3.out.low; simp at this ⊢; omega, HW3.out.len⟩
            exact hh
          · exact (((HE3.out.setCell _ _ (fun _ => .inl rfl)).drewN nq).setCell _ _ (fun _ => .inl rfl)).setCell _ _ (fun _ => .inl rfl)
        · have hb : ((st.pos : Int) + 1 == (st.buf.length : Int)) = false := by rw [beq_eq_false_iff_ne]; omega
          have HQ := Lib.hid heq; clear heq
          go_wp2_with fail
          go_quiet (fail)
          go_wp2_with fail
          go_ret
          refine ⟨by rw [show (st.push s c).sum = sum2 from HG2.out]; rfl, ?_, ?_⟩
          · have hp : st.push s c = { buf := st.buf.set st.pos c, pos := st.pos + 1, full := st.full, sum := sum2 } := by simp only [WS.push, if_neg HQ.out, HG2.out]
            rw [hp]
            have hh := (HW3.out.head.set 2 (.int .i64 (↑st.pos + 1))).drewN nq
            refine ⟨?_, (HW3.out.row.set_other _ _ HW3.out.ne.symm).drewN nq, by have := HW3.out.low; have := HQ.out; simp at this ⊢; omega, HW3.out.len⟩
            exact hh
          · exact (HE3.out.setCell _ _ (fun _ => .inl rfl)).drewN nq

end Go.Proofs.Ytceiahjhfbghpaa
