/-
  JOINED (5): the contracts of the documents own answer: Bytes, Check.
-/
import Derived.Test.YtchejnnfbinclaaZD
set_option linter.unusedVariables false
set_option linter.unusedSimpArgs false

section
/- The contract of the documents' answer for scripts: Bytes. Printed by wip/mkbytes.py. -/
namespace Go.Proofs.Ytchejnnfbinclaa
open Go.RowKit Go.My

theorem OwnBs.build {w : World} {B : Nat} {ls : List (List UInt8)} {vs : List Value} {n : Nat} (hB : B ≤ w.heap.size) (hn : vs.length = n) (hl : ls.length = n) (hm : n ≤ maxLen) (h : ∀ i, i < n → OB w B (ls.getD i []) (vs.getD i undef)) :
    OwnBs (w.alloc (.cells vs.toArray 31)) 5 31 B ls (.slice (some ⟨w.heap.size, 0, none⟩) n n) := by
  subst hn
  refine ⟨vs, ⟨by omega, .inr ⟨w.heap.size, vs.length, vs.toArray, by rw [hl], hB, Blk.new w _ _, by omega, hm, by simp, by rw [hl, Nat.mul_one]; simp⟩⟩, fun i hi => ?_⟩
  obtain ⟨a, n, c, -, h2⟩ := h i (by omega)
  exact h2.ext ((Ext.refl No w).alloc _) (fun _ _ s => s)
def bitRows (l : List Bool) : List (List UInt8) := l.map fun b => numB (flagN b) 1
theorem bitRows_length (l : List Bool) : (bitRows l).length = l.length := by simp [bitRows]
theorem bitRows_take (l : List Bool) (k : Nat) (hk : k < l.length) : bitRows (l.take (k + 1)) = bitRows (l.take k) ++ [numB (flagN (l.getD k false)) 1] := by
  unfold bitRows
  rw [List.take_add_one, List.map_append, List.getElem?_eq_getElem hk]
  simp [List.getD_eq_getElem?_getD, List.getElem?_eq_getElem hk]
theorem u8_kind (k : Int) : IntKind.u8.wrap k = ((UInt8.ofNat (u64N k % 256)).toNat : Int) := by
  rw [IntKind.wrap_u8, UInt8.toNat_ofNat']; unfold u64N; omega
theorem u8_kind' (k : Int) : k % 256 = ((UInt8.ofNat (u64N k % 256)).toNat : Int) := by
  rw [UInt8.toNat_ofNat']; unfold u64N; omega

def BytesV (pb B : Nat) (kind n : Int) (who : Nat) (flag : Bool) (name host : List UInt8) (af : Option Addr) (nf cf : Nat) (last days day within : Int) (tag : List UInt8) (ab : Option Addr) (nb cb : Nat) : Nat → Value → World → Prop
  | 0, v, w => v = .pointer (some ⟨pb, 0, none⟩)
  | 1, v, w => v = .int .i64 kind
  | 2, v, w => v = .int .u8 (((UInt8.ofNat (u64N kind % 256)).toNat : Nat) : Int)
  | 3, v, w => OB w B (numB (u64N kind) 1) v
  | 4, v, w => v = .pointer (some ⟨pb, 3, none⟩)
  | 5, v, w => v = .bool flag
  | 6, v, w => OB w B (numB (flagN flag) 1) v
  | 7, v, w => v = .pointer (some ⟨pb, 2, none⟩)
  | 8, v, w => v = .int .u64 (who : Nat)
  | 9, v, w => OB w B (numB who 8) v
  | 10, v, w => v = .pointer (some ⟨pb, 1, none⟩)
  | 11, v, w => v = .int .i64 n
  | 12, v, w => v = .int .u64 ((u64N n : Nat) : Int)
  | 13, v, w => OB w B (numB (u64N n) 8) v
  | 14, v, w => v = .pointer (some ⟨pb, 4, none⟩)
  | 15, v, w => v = .string (strB name)
  | 16, v, w => IsBN w name v
  | 17, v, w => OB w B (bytesB name) v
  | 18, v, w => v = .pointer (some ⟨pb, 5, none⟩)
  | 19, v, w => v = .string (strB host)
  | 20, v, w => IsBN w host v
  | 21, v, w => OB w B (bytesB host) v
  | 22, v, w => v = .pointer (some ⟨pb, 7, none⟩)
  | 23, v, w => v = .pointer (some ⟨pb, 7, none⟩)
  | 24, v, w => v = .int .i64 last
  | 25, v, w => v = .int .u64 ((u64N last : Nat) : Int)
  | 26, v, w => OB w B (numB (u64N last) 4) v
  | 27, v, w => v = .pointer (some ⟨pb, 7, none⟩)
  | 28, v, w => v = .pointer (some ⟨pb, 8, none⟩)
  | 29, v, w => v = .int .i64 days
  | 30, v, w => v = .int .u64 ((u64N days : Nat) : Int)
  | 31, v, w => OB w B (numB (u64N days) 4) v
  | 32, v, w => v = .pointer (some ⟨pb, 7, none⟩)
  | 33, v, w => v = .pointer (some ⟨pb, 9, none⟩)
  | 34, v, w => v = .int .i64 day
  | 35, v, w => v = .int .u64 ((u64N day : Nat) : Int)
  | 36, v, w => OB w B (numB (u64N day) 8) v
  | 37, v, w => v = .pointer (some ⟨pb, 7, none⟩)
  | 38, v, w => v = .pointer (some ⟨pb, 10, none⟩)
  | 39, v, w => v = .int .i64 within
  | 40, v, w => v = .int .u64 ((u64N within : Nat) : Int)
  | 41, v, w => OB w B (numB (u64N within) 8) v
  | 42, v, w => v = .pointer (some ⟨pb, 7, none⟩)
  | 43, v, w => v = .pointer (some ⟨pb, 11, none⟩)
  | 44, v, w => v = .string (strB tag)
  | 45, v, w => IsBN w tag v
  | 46, v, w => OB w B (bytesB tag) v
  | 47, v, w => v = .pointer (some ⟨pb, 12, none⟩)
  | 48, v, w => v = .slice ab nb cb
  | 49, v, w => v = .int .i64 (nb : Nat)
  | 50, v, w => v = .int .u64 (nb : Nat)
  | 51, v, w => OB w B (numB nb 4) v
  | 52, v, w => OwnBs w 5 31 B [numB (u64N kind) 1, numB (flagN flag) 1, numB who 8, numB (u64N n) 8, bytesB name, bytesB host, numB (u64N last) 4, numB (u64N days) 4, numB (u64N day) 8, numB (u64N within) 8, bytesB tag, numB nb 4] v
  | _, _, _ => True
theorem BytesV_ext (pb B : Nat) (kind n : Int) (who : Nat) (flag : Bool) (name host : List UInt8) (af : Option Addr) (nf cf : Nat) (last days day within : Int) (tag : List UInt8) (ab : Option Addr) (nb cb : Nat) : ∀ i v w w', BytesV pb B kind n who flag name host af nf cf last days day within tag ab nb cb i v w → Ext No w w' → BytesV pb B kind n who flag name host af nf cf last days day within tag ab nb cb i v w'
  | 0, _, _, _, h, _ => h
  | 1, _, _, _, h, _ => h
  | 2, _, _, _, h, _ => h
  | 3, _, _, _, h, x => h.ext x
  | 4, _, _, _, h, _ => h
  | 5, _, _, _, h, _ => h
  | 6, _, _, _, h, x => h.ext x
  | 7, _, _, _, h, _ => h
  | 8, _, _, _, h, _ => h
  | 9, _, _, _, h, x => h.ext x
  | 10, _, _, _, h, _ => h
  | 11, _, _, _, h, _ => h
  | 12, _, _, _, h, _ => h
  | 13, _, _, _, h, x => h.ext x
  | 14, _, _, _, h, _ => h
  | 15, _, _, _, h, _ => h
  | 16, _, _, _, h, x => h.ext0 x
  | 17, _, _, _, h, x => h.ext x
  | 18, _, _, _, h, _ => h
  | 19, _, _, _, h, _ => h
  | 20, _, _, _, h, x => h.ext0 x
  | 21, _, _, _, h, x => h.ext x
  | 22, _, _, _, h, _ => h
  | 23, _, _, _, h, _ => h
  | 24, _, _, _, h, _ => h
  | 25, _, _, _, h, _ => h
  | 26, _, _, _, h, x => h.ext x
  | 27, _, _, _, h, _ => h
  | 28, _, _, _, h, _ => h
  | 29, _, _, _, h, _ => h
  | 30, _, _, _, h, _ => h
  | 31, _, _, _, h, x => h.ext x
  | 32, _, _, _, h, _ => h
  | 33, _, _, _, h, _ => h
  | 34, _, _, _, h, _ => h
  | 35, _, _, _, h, _ => h
  | 36, _, _, _, h, x => h.ext x
  | 37, _, _, _, h, _ => h
  | 38, _, _, _, h, _ => h
  | 39, _, _, _, h, _ => h
  | 40, _, _, _, h, _ => h
  | 41, _, _, _, h, x => h.ext x
  | 42, _, _, _, h, _ => h
  | 43, _, _, _, h, _ => h
  | 44, _, _, _, h, _ => h
  | 45, _, _, _, h, x => h.ext0 x
  | 46, _, _, _, h, x => h.ext x
  | 47, _, _, _, h, _ => h
  | 48, _, _, _, h, _ => h
  | 49, _, _, _, h, _ => h
  | 50, _, _, _, h, _ => h
  | 51, _, _, _, h, x => h.ext x
  | 52, _, _, _, h, x => h.ext x (fun _ _ s => s)
  | _ + 53, _, _, _, _, _ => trivial

set_option maxRecDepth 100000 in
set_option maxHeartbeats 20000000 in
theorem bytesR29_any (kind n : Int) (who : Nat) (flag : Bool) (name host : List UInt8) (files : List FileL) (last days day within : Int) (tag : List UInt8) (bits : List Bool) (vf vb : Value) (w : World) (hf : IsFiles w files vf) (hb : IsBools w bits vb)
    (hwho : who ≤ 18446744073709551615) (hl : 200 + name.length + host.length + tag.length + bits.length + (filesB files).length ≤ 1099511627000) :
    Calls Try.prog 16 #[cmdVal ⟨kind, n, who, flag, name, host, files, last, days, day, within, tag, bits⟩ vf vb] w fun e w' => ∃ x, e = .returned x ∧ OwnB w' 5 w.heap.size (cmdB ⟨kind, n, who, flag, name, host, files, last, days, day, within, tag, bits⟩) x ∧ Ext No w w' := by
  obtain ⟨af, nf, cf, hvf⟩ : ∃ a n c, vf = .slice a n c := by obtain ⟨a, c, h, -⟩ := hf; exact ⟨a, _, c, h⟩
  obtain ⟨ab, nb, cb, hvb⟩ : ∃ a n c, vb = .slice a n c := by obtain ⟨a, c, h, -⟩ := hb; exact ⟨a, _, c, h⟩
  subst hvf; subst hvb
  have hnb := (IsRow.len hb).1
  have hnb2 := (IsRow.len hb).2
  have HFI := Lib.hid hf; have HBL := Lib.hid hb; have HWHO := Lib.hid hwho; have HLN := Lib.hid hl; have HNL := Lib.hid hnb
  have HNB := Lib.hid (show nb ≤ 1099511627000 by omega)
  clear hf hb hwho hnb hl
  obtain ⟨fin, hfin⟩ : ∃ fin, cmdB ⟨kind, n, who, flag, name, host, files, last, days, day, within, tag, bits⟩ = fin := ⟨_, rfl⟩
  rw [hfin]
  have HFIN := Lib.hid hfin; clear hfin
  unfold cmdVal
  simp only
  obtain ⟨w0, hw0⟩ : ∃ w0, w.alloc (.cells #[.int .i64 kind, .int .i64 n, .int .u64 (who : Nat), .bool flag, .string (strB name), .string (strB host), .slice af nf cf, .int .i64 last, .int .i64 days, .int .i64 day, .int .i64 within, .string (strB tag), .slice ab nb cb] 38) = w0 := ⟨_, rfl⟩
  have hb0 := Blk.new w #[.int .i64 kind, .int .i64 n, .int .u64 (who : Nat), .bool flag, .string (strB name), .string (strB host), .slice af nf cf, .int .i64 last, .int .i64 days, .int .i64 day, .int .i64 within, .string (strB tag), .slice ab nb cb] 38
  have hx0 : Ext No w w0 := by rw [← hw0]; exact (Ext.refl No w).alloc _
  rw [hw0] at hb0
  obtain ⟨pb, hpb⟩ : ∃ pb, w.heap.size = pb := ⟨_, rfl⟩
  rw [hpb] at hb0
  have HB0 := Lib.hid hb0; have HX0 := Lib.hid hx0; have HPB := Lib.hid hpb; have HW0 := Lib.hid hw0; have HBW := Lib.hid hx0.size
  clear hb0 hx0 hpb hw0
  go_enter Try.func16, Try.ntmps16
  go_wp2_with fail
  rw [HW0.out, HPB.out]

  refine wp_region_head 53 No (BytesV pb w.heap.size kind n who flag name host af nf cf last days day within tag ab nb cb) (by kernel_rfl) (by kernel_rfl) (by kernel_rfl) (BytesV_ext pb w.heap.size kind n who flag name host af nf cf last days day within tag ab nb cb) (HeadSteps.cons ?_ (HeadSteps.cons ?_ (HeadSteps.cons ?_ (HeadSteps.cons ?_ (HeadSteps.cons ?_ (HeadSteps.cons ?_ (HeadSteps.cons ?_ (HeadSteps.cons ?_ (HeadSteps.cons ?_ (HeadSteps.cons ?_ (HeadSteps.cons ?_ (HeadSteps.cons ?_ (HeadSteps.cons ?_ (HeadSteps.cons ?_ (HeadSteps.cons ?_ (HeadSteps.cons ?_ (HeadSteps.cons ?_ (HeadSteps.cons ?_ (HeadSteps.cons ?_ (HeadSteps.cons ?_ (HeadSteps.cons ?_ (HeadSteps.cons ?_ (HeadSteps.cons ?_ (HeadSteps.cons ?_ (HeadSteps.cons ?_ (HeadSteps.cons ?_ (HeadSteps.cons ?_ (HeadSteps.cons ?_ (HeadSteps.cons ?_ (HeadSteps.cons ?_ (HeadSteps.cons ?_ (HeadSteps.cons ?_ (HeadSteps.cons ?_ (HeadSteps.cons ?_ (HeadSteps.cons ?_ (HeadSteps.cons ?_ (HeadSteps.cons ?_ (HeadSteps.cons ?_ (HeadSteps.cons ?_ (HeadSteps.cons ?_ (HeadSteps.cons ?_ (HeadSteps.cons ?_ (HeadSteps.cons ?_ (HeadSteps.cons ?_ (HeadSteps.cons ?_ (HeadSteps.cons ?_ (HeadSteps.cons ?_ (HeadSteps.cons ?_ (HeadSteps.cons ?_ (HeadSteps.cons ?_ (HeadSteps.cons ?_ (HeadSteps.cons ?_ (HeadSteps.cons ?_ HeadSteps.nil))))))))))))))))))))))))))))))))))))))))))))))))))))) ?_
  · -- slot 5
    intro ac wk hx hsame hdep K hK
    have d1 : ac.tmps.getD 1 undef = .pointer (some ⟨pb, 0, none⟩) := hsame 1 (by kernel_rfl)
    have e1 := d1
    rw [Array.getD_eq_getD_getElem?] at e1
    clear hsame hdep
    go_simp
    exact hK _ _ (Ext.refl _ wk) rfl
  · -- slot 6
    intro ac wk hx hsame hdep K hK
    have d5 : ac.tmps.getD 5 undef = .pointer (some ⟨pb, 0, none⟩) := hdep 0 (by kernel_rfl)
    have e5 := d5
    rw [Array.getD_eq_getD_getElem?] at e5
    clear hsame hdep
    have hc := (HB0.out.drew.ext hx (fun s => s)).cell 0
    simp only [List.getElem?_toArray, List.getElem?_cons_zero, List.getElem?_cons_succ] at hc
    go_simp
    exact hK _ _ (Ext.refl _ wk) rfl
  · -- slot 7
    intro ac wk hx hsame hdep K hK
    have d6 : ac.tmps.getD 6 undef = .int .i64 kind := hdep 1 (by kernel_rfl)
    have e6 := d6
    rw [Array.getD_eq_getD_getElem?] at e6
    clear hsame hdep
    go_simp
    exact hK _ _ (Ext.refl _ wk) (show (_ : Value) = _ by first | rfl | (rw [u8_kind]) | (rw [u8_kind']))
  · -- slot 8
    intro ac wk hx hsame hdep K hK
    have d7 : ac.tmps.getD 7 undef = .int .u8 (((UInt8.ofNat (u64N kind % 256)).toNat : Nat) : Int) := hdep 2 (by kernel_rfl)
    have e7 := d7
    rw [Array.getD_eq_getD_getElem?] at e7
    clear hsame hdep
    go_simp
    exact hK _ _ ((Ext.refl No wk).alloc _) (OB.of (B' := wk.heap.size) ⟨rfl, .inr ⟨wk.heap.size, 1, _, rfl, Nat.le_refl _, Blk.new wk _ _, by simp [numB], by decide, by simp [numB], by simp [numB, byts]⟩⟩ (Nat.le_trans HBW.out hx.size))
  · -- slot 9
    intro ac wk hx hsame hdep K hK
    have d1 : ac.tmps.getD 1 undef = .pointer (some ⟨pb, 0, none⟩) := hsame 1 (by kernel_rfl)
    have e1 := d1
    rw [Array.getD_eq_getD_getElem?] at e1
    clear hsame hdep
    go_simp
    exact hK _ _ (Ext.refl _ wk) rfl
  · -- slot 10
    intro ac wk hx hsame hdep K hK
    have d9 : ac.tmps.getD 9 undef = .pointer (some ⟨pb, 3, none⟩) := hdep 4 (by kernel_rfl)
    have e9 := d9
    rw [Array.getD_eq_getD_getElem?] at e9
    clear hsame hdep
    have hc := (HB0.out.drew.ext hx (fun s => s)).cell 3
    simp only [List.getElem?_toArray, List.getElem?_cons_zero, List.getElem?_cons_succ] at hc
    go_simp
    exact hK _ _ (Ext.refl _ wk) rfl
  · -- slot 11
    intro ac wk hx hsame hdep K hK
    have d10 : ac.tmps.getD 10 undef = .bool flag := hdep 5 (by kernel_rfl)
    have e10 := d10
    rw [Array.getD_eq_getD_getElem?] at e10
    clear hsame hdep
    go_simp
    refine (flagR_any flag wk).mono ?_
    rintro e w' ⟨y, rfl, hy, hx'⟩
    exact hK _ _ hx' (OB.of hy (Nat.le_trans HBW.out hx.size))
  · -- slot 12
    intro ac wk hx hsame hdep K hK
    have d1 : ac.tmps.getD 1 undef = .pointer (some ⟨pb, 0, none⟩) := hsame 1 (by kernel_rfl)
    have e1 := d1
    rw [Array.getD_eq_getD_getElem?] at e1
    clear hsame hdep
    go_simp
    exact hK _ _ (Ext.refl _ wk) rfl
  · -- slot 13
    intro ac wk hx hsame hdep K hK
    have d12 : ac.tmps.getD 12 undef = .pointer (some ⟨pb, 2, none⟩) := hdep 7 (by kernel_rfl)
    have e12 := d12
    rw [Array.getD_eq_getD_getElem?] at e12
    clear hsame hdep
    have hc := (HB0.out.drew.ext hx (fun s => s)).cell 2
    simp only [List.getElem?_toArray, List.getElem?_cons_zero, List.getElem?_cons_succ] at hc
    go_simp
    exact hK _ _ (Ext.refl _ wk) rfl
  · -- slot 14
    intro ac wk hx hsame hdep K hK
    have d13 : ac.tmps.getD 13 undef = .int .u64 (who : Nat) := hdep 8 (by kernel_rfl)
    have e13 := d13
    rw [Array.getD_eq_getD_getElem?] at e13
    clear hsame hdep
    go_simp
    refine (numR_any who 8 HWHO.out (by decide) (by decide) wk).mono ?_
    rintro e w' ⟨y, rfl, hy, hx'⟩
    exact hK _ _ hx' (OB.of hy (Nat.le_trans HBW.out hx.size))
  · -- slot 15
    intro ac wk hx hsame hdep K hK
    have d1 : ac.tmps.getD 1 undef = .pointer (some ⟨pb, 0, none⟩) := hsame 1 (by kernel_rfl)
    have e1 := d1
    rw [Array.getD_eq_getD_getElem?] at e1
    clear hsame hdep
    go_simp
    exact hK _ _ (Ext.refl _ wk) rfl
  · -- slot 16
    intro ac wk hx hsame hdep K hK
    have d15 : ac.tmps.getD 15 undef = .pointer (some ⟨pb, 1, none⟩) := hdep 10 (by kernel_rfl)
    have e15 := d15
    rw [Array.getD_eq_getD_getElem?] at e15
    clear hsame hdep
    have hc := (HB0.out.drew.ext hx (fun s => s)).cell 1
    simp only [List.getElem?_toArray, List.getElem?_cons_zero, List.getElem?_cons_succ] at hc
    go_simp
    exact hK _ _ (Ext.refl _ wk) rfl
  · -- slot 17
    intro ac wk hx hsame hdep K hK
    have d16 : ac.tmps.getD 16 undef = .int .i64 n := hdep 11 (by kernel_rfl)
    have e16 := d16
    rw [Array.getD_eq_getD_getElem?] at e16
    clear hsame hdep
    go_simp
    exact hK _ _ (Ext.refl _ wk) (show (_ : Value) = _ by first | rfl | (rw [u64N_wrap]) | (rw [u64N_mod]))
  · -- slot 18
    intro ac wk hx hsame hdep K hK
    have d17 : ac.tmps.getD 17 undef = .int .u64 ((u64N n : Nat) : Int) := hdep 12 (by kernel_rfl)
    have e17 := d17
    rw [Array.getD_eq_getD_getElem?] at e17
    clear hsame hdep
    go_simp
    refine (numR_any (u64N n) 8 (u64N_lt n) (by decide) (by decide) wk).mono ?_
    rintro e w' ⟨y, rfl, hy, hx'⟩
    exact hK _ _ hx' (OB.of hy (Nat.le_trans HBW.out hx.size))
  · -- slot 19
    intro ac wk hx hsame hdep K hK
    have d1 : ac.tmps.getD 1 undef = .pointer (some ⟨pb, 0, none⟩) := hsame 1 (by kernel_rfl)
    have e1 := d1
    rw [Array.getD_eq_getD_getElem?] at e1
    clear hsame hdep
    go_simp
    exact hK _ _ (Ext.refl _ wk) rfl
  · -- slot 20
    intro ac wk hx hsame hdep K hK
    have d19 : ac.tmps.getD 19 undef = .pointer (some ⟨pb, 4, none⟩) := hdep 14 (by kernel_rfl)
    have e19 := d19
    rw [Array.getD_eq_getD_getElem?] at e19
    clear hsame hdep
    have hc := (HB0.out.drew.ext hx (fun s => s)).cell 4
    simp only [List.getElem?_toArray, List.getElem?_cons_zero, List.getElem?_cons_succ] at hc
    go_simp
    exact hK _ _ (Ext.refl _ wk) rfl
  · -- slot 21
    intro ac wk hx hsame hdep K hK
    have d20 : ac.tmps.getD 20 undef = .string (strB name) := hdep 15 (by kernel_rfl)
    have e20 := d20
    rw [Array.getD_eq_getD_getElem?] at e20
    clear hsame hdep
    obtain ⟨gc, w3, hcv, hx3, he3, hz3⟩ := conv_str name (by have := HLN.out; omega) wk
    go_simp
    exact hK _ _ he3 ⟨_, _, _, rfl, hx3, NilOk.some _ _ _⟩
  · -- slot 22
    intro ac wk hx hsame hdep K hK
    have p21 : IsBN wk name (ac.tmps.getD 21 undef) := hdep 16 (by kernel_rfl)
    obtain ⟨a21, n21, c21, d21, b21, z21⟩ := p21
    have e21 := d21
    rw [Array.getD_eq_getD_getElem?] at e21
    clear hsame hdep
    rw [d21] at b21 z21
    go_simp
    refine (bytesR_any name a21 n21 c21 wk b21 z21 (by have := HLN.out; omega)).mono ?_
    rintro e w' ⟨y, rfl, hy, hx'⟩
    exact hK _ _ hx' (OB.of hy (Nat.le_trans HBW.out hx.size))
  · -- slot 23
    intro ac wk hx hsame hdep K hK
    have d1 : ac.tmps.getD 1 undef = .pointer (some ⟨pb, 0, none⟩) := hsame 1 (by kernel_rfl)
    have e1 := d1
    rw [Array.getD_eq_getD_getElem?] at e1
    clear hsame hdep
    go_simp
    exact hK _ _ (Ext.refl _ wk) rfl
  · -- slot 24
    intro ac wk hx hsame hdep K hK
    have d23 : ac.tmps.getD 23 undef = .pointer (some ⟨pb, 5, none⟩) := hdep 18 (by kernel_rfl)
    have e23 := d23
    rw [Array.getD_eq_getD_getElem?] at e23
    clear hsame hdep
    have hc := (HB0.out.drew.ext hx (fun s => s)).cell 5
    simp only [List.getElem?_toArray, List.getElem?_cons_zero, List.getElem?_cons_succ] at hc
    go_simp
    exact hK _ _ (Ext.refl _ wk) rfl
  · -- slot 25
    intro ac wk hx hsame hdep K hK
    have d24 : ac.tmps.getD 24 undef = .string (strB host) := hdep 19 (by kernel_rfl)
    have e24 := d24
    rw [Array.getD_eq_getD_getElem?] at e24
    clear hsame hdep
    obtain ⟨gc, w3, hcv, hx3, he3, hz3⟩ := conv_str host (by have := HLN.out; omega) wk
    go_simp
    exact hK _ _ he3 ⟨_, _, _, rfl, hx3, NilOk.some _ _ _⟩
  · -- slot 26
    intro ac wk hx hsame hdep K hK
    have p25 : IsBN wk host (ac.tmps.getD 25 undef) := hdep 20 (by kernel_rfl)
    obtain ⟨a25, n25, c25, d25, b25, z25⟩ := p25
    have e25 := d25
    rw [Array.getD_eq_getD_getElem?] at e25
    clear hsame hdep
    rw [d25] at b25 z25
    go_simp
    refine (bytesR_any host a25 n25 c25 wk b25 z25 (by have := HLN.out; omega)).mono ?_
    rintro e w' ⟨y, rfl, hy, hx'⟩
    exact hK _ _ hx' (OB.of hy (Nat.le_trans HBW.out hx.size))
  · -- slot 27
    intro ac wk hx hsame hdep K hK
    have d1 : ac.tmps.getD 1 undef = .pointer (some ⟨pb, 0, none⟩) := hsame 1 (by kernel_rfl)
    have e1 := d1
    rw [Array.getD_eq_getD_getElem?] at e1
    clear hsame hdep
    go_simp
    exact hK _ _ (Ext.refl _ wk) rfl
  · -- slot 28
    intro ac wk hx hsame hdep K hK
    have d27 : ac.tmps.getD 27 undef = .pointer (some ⟨pb, 7, none⟩) := hdep 22 (by kernel_rfl)
    have e27 := d27
    rw [Array.getD_eq_getD_getElem?] at e27
    clear hsame hdep
    go_simp
    exact hK _ _ (Ext.refl _ wk) rfl
  · -- slot 29
    intro ac wk hx hsame hdep K hK
    have d28 : ac.tmps.getD 28 undef = .pointer (some ⟨pb, 7, none⟩) := hdep 23 (by kernel_rfl)
    have e28 := d28
    rw [Array.getD_eq_getD_getElem?] at e28
    clear hsame hdep
    have hc := (HB0.out.drew.ext hx (fun s => s)).cell 7
    simp only [List.getElem?_toArray, List.getElem?_cons_zero, List.getElem?_cons_succ] at hc
    go_simp
    exact hK _ _ (Ext.refl _ wk) rfl
  · -- slot 30
    intro ac wk hx hsame hdep K hK
    have d29 : ac.tmps.getD 29 undef = .int .i64 last := hdep 24 (by kernel_rfl)
    have e29 := d29
    rw [Array.getD_eq_getD_getElem?] at e29
    clear hsame hdep
    go_simp
    exact hK _ _ (Ext.refl _ wk) (show (_ : Value) = _ by first | rfl | (rw [u64N_wrap]) | (rw [u64N_mod]))
  · -- slot 31
    intro ac wk hx hsame hdep K hK
    have d30 : ac.tmps.getD 30 undef = .int .u64 ((u64N last : Nat) : Int) := hdep 25 (by kernel_rfl)
    have e30 := d30
    rw [Array.getD_eq_getD_getElem?] at e30
    clear hsame hdep
    go_simp
    refine (numR_any (u64N last) 4 (u64N_lt last) (by decide) (by decide) wk).mono ?_
    rintro e w' ⟨y, rfl, hy, hx'⟩
    exact hK _ _ hx' (OB.of hy (Nat.le_trans HBW.out hx.size))
  · -- slot 32
    intro ac wk hx hsame hdep K hK
    have d1 : ac.tmps.getD 1 undef = .pointer (some ⟨pb, 0, none⟩) := hsame 1 (by kernel_rfl)
    have e1 := d1
    rw [Array.getD_eq_getD_getElem?] at e1
    clear hsame hdep
    go_simp
    exact hK _ _ (Ext.refl _ wk) rfl
  · -- slot 33
    intro ac wk hx hsame hdep K hK
    have d32 : ac.tmps.getD 32 undef = .pointer (some ⟨pb, 7, none⟩) := hdep 27 (by kernel_rfl)
    have e32 := d32
    rw [Array.getD_eq_getD_getElem?] at e32
    clear hsame hdep
    go_simp
    exact hK _ _ (Ext.refl _ wk) rfl
  · -- slot 34
    intro ac wk hx hsame hdep K hK
    have d33 : ac.tmps.getD 33 undef = .pointer (some ⟨pb, 8, none⟩) := hdep 28 (by kernel_rfl)
    have e33 := d33
    rw [Array.getD_eq_getD_getElem?] at e33
    clear hsame hdep
    have hc := (HB0.out.drew.ext hx (fun s => s)).cell 8
    simp only [List.getElem?_toArray, List.getElem?_cons_zero, List.getElem?_cons_succ] at hc
    go_simp
    exact hK _ _ (Ext.refl _ wk) rfl
  · -- slot 35
    intro ac wk hx hsame hdep K hK
    have d34 : ac.tmps.getD 34 undef = .int .i64 days := hdep 29 (by kernel_rfl)
    have e34 := d34
    rw [Array.getD_eq_getD_getElem?] at e34
    clear hsame hdep
    go_simp
    exact hK _ _ (Ext.refl _ wk) (show (_ : Value) = _ by first | rfl | (rw [u64N_wrap]) | (rw [u64N_mod]))
  · -- slot 36
    intro ac wk hx hsame hdep K hK
    have d35 : ac.tmps.getD 35 undef = .int .u64 ((u64N days : Nat) : Int) := hdep 30 (by kernel_rfl)
    have e35 := d35
    rw [Array.getD_eq_getD_getElem?] at e35
    clear hsame hdep
    go_simp
    refine (numR_any (u64N days) 4 (u64N_lt days) (by decide) (by decide) wk).mono ?_
    rintro e w' ⟨y, rfl, hy, hx'⟩
    exact hK _ _ hx' (OB.of hy (Nat.le_trans HBW.out hx.size))
  · -- slot 37
    intro ac wk hx hsame hdep K hK
    have d1 : ac.tmps.getD 1 undef = .pointer (some ⟨pb, 0, none⟩) := hsame 1 (by kernel_rfl)
    have e1 := d1
    rw [Array.getD_eq_getD_getElem?] at e1
    clear hsame hdep
    go_simp
    exact hK _ _ (Ext.refl _ wk) rfl
  · -- slot 38
    intro ac wk hx hsame hdep K hK
    have d37 : ac.tmps.getD 37 undef = .pointer (some ⟨pb, 7, none⟩) := hdep 32 (by kernel_rfl)
    have e37 := d37
    rw [Array.getD_eq_getD_getElem?] at e37
    clear hsame hdep
    go_simp
    exact hK _ _ (Ext.refl _ wk) rfl
  · -- slot 39
    intro ac wk hx hsame hdep K hK
    have d38 : ac.tmps.getD 38 undef = .pointer (some ⟨pb, 9, none⟩) := hdep 33 (by kernel_rfl)
    have e38 := d38
    rw [Array.getD_eq_getD_getElem?] at e38
    clear hsame hdep
    have hc := (HB0.out.drew.ext hx (fun s => s)).cell 9
    simp only [List.getElem?_toArray, List.getElem?_cons_zero, List.getElem?_cons_succ] at hc
    go_simp
    exact hK _ _ (Ext.refl _ wk) rfl
  · -- slot 40
    intro ac wk hx hsame hdep K hK
    have d39 : ac.tmps.getD 39 undef = .int .i64 day := hdep 34 (by kernel_rfl)
    have e39 := d39
    rw [Array.getD_eq_getD_getElem?] at e39
    clear hsame hdep
    go_simp
    exact hK _ _ (Ext.refl _ wk) (show (_ : Value) = _ by first | rfl | (rw [u64N_wrap]) | (rw [u64N_mod]))
  · -- slot 41
    intro ac wk hx hsame hdep K hK
    have d40 : ac.tmps.getD 40 undef = .int .u64 ((u64N day : Nat) : Int) := hdep 35 (by kernel_rfl)
    have e40 := d40
    rw [Array.getD_eq_getD_getElem?] at e40
    clear hsame hdep
    go_simp
    refine (numR_any (u64N day) 8 (u64N_lt day) (by decide) (by decide) wk).mono ?_
    rintro e w' ⟨y, rfl, hy, hx'⟩
    exact hK _ _ hx' (OB.of hy (Nat.le_trans HBW.out hx.size))
  · -- slot 42
    intro ac wk hx hsame hdep K hK
    have d1 : ac.tmps.getD 1 undef = .pointer (some ⟨pb, 0, none⟩) := hsame 1 (by kernel_rfl)
    have e1 := d1
    rw [Array.getD_eq_getD_getElem?] at e1
    clear hsame hdep
    go_simp
    exact hK _ _ (Ext.refl _ wk) rfl
  · -- slot 43
    intro ac wk hx hsame hdep K hK
    have d42 : ac.tmps.getD 42 undef = .pointer (some ⟨pb, 7, none⟩) := hdep 37 (by kernel_rfl)
    have e42 := d42
    rw [Array.getD_eq_getD_getElem?] at e42
    clear hsame hdep
    go_simp
    exact hK _ _ (Ext.refl _ wk) rfl
  · -- slot 44
    intro ac wk hx hsame hdep K hK
    have d43 : ac.tmps.getD 43 undef = .pointer (some ⟨pb, 10, none⟩) := hdep 38 (by kernel_rfl)
    have e43 := d43
    rw [Array.getD_eq_getD_getElem?] at e43
    clear hsame hdep
    have hc := (HB0.out.drew.ext hx (fun s => s)).cell 10
    simp only [List.getElem?_toArray, List.getElem?_cons_zero, List.getElem?_cons_succ] at hc
    go_simp
    exact hK _ _ (Ext.refl _ wk) rfl
  · -- slot 45
    intro ac wk hx hsame hdep K hK
    have d44 : ac.tmps.getD 44 undef = .int .i64 within := hdep 39 (by kernel_rfl)
    have e44 := d44
    rw [Array.getD_eq_getD_getElem?] at e44
    clear hsame hdep
    go_simp
    exact hK _ _ (Ext.refl _ wk) (show (_ : Value) = _ by first | rfl | (rw [u64N_wrap]) | (rw [u64N_mod]))
  · -- slot 46
    intro ac wk hx hsame hdep K hK
    have d45 : ac.tmps.getD 45 undef = .int .u64 ((u64N within : Nat) : Int) := hdep 40 (by kernel_rfl)
    have e45 := d45
    rw [Array.getD_eq_getD_getElem?] at e45
    clear hsame hdep
    go_simp
    refine (numR_any (u64N within) 8 (u64N_lt within) (by decide) (by decide) wk).mono ?_
    rintro e w' ⟨y, rfl, hy, hx'⟩
    exact hK _ _ hx' (OB.of hy (Nat.le_trans HBW.out hx.size))
  · -- slot 47
    intro ac wk hx hsame hdep K hK
    have d1 : ac.tmps.getD 1 undef = .pointer (some ⟨pb, 0, none⟩) := hsame 1 (by kernel_rfl)
    have e1 := d1
    rw [Array.getD_eq_getD_getElem?] at e1
    clear hsame hdep
    go_simp
    exact hK _ _ (Ext.refl _ wk) rfl
  · -- slot 48
    intro ac wk hx hsame hdep K hK
    have d47 : ac.tmps.getD 47 undef = .pointer (some ⟨pb, 7, none⟩) := hdep 42 (by kernel_rfl)
    have e47 := d47
    rw [Array.getD_eq_getD_getElem?] at e47
    clear hsame hdep
    go_simp
    exact hK _ _ (Ext.refl _ wk) rfl
  · -- slot 49
    intro ac wk hx hsame hdep K hK
    have d48 : ac.tmps.getD 48 undef = .pointer (some ⟨pb, 11, none⟩) := hdep 43 (by kernel_rfl)
    have e48 := d48
    rw [Array.getD_eq_getD_getElem?] at e48
    clear hsame hdep
    have hc := (HB0.out.drew.ext hx (fun s => s)).cell 11
    simp only [List.getElem?_toArray, List.getElem?_cons_zero, List.getElem?_cons_succ] at hc
    go_simp
    exact hK _ _ (Ext.refl _ wk) rfl
  · -- slot 50
    intro ac wk hx hsame hdep K hK
    have d49 : ac.tmps.getD 49 undef = .string (strB tag) := hdep 44 (by kernel_rfl)
    have e49 := d49
    rw [Array.getD_eq_getD_getElem?] at e49
    clear hsame hdep
    obtain ⟨gc, w3, hcv, hx3, he3, hz3⟩ := conv_str tag (by have := HLN.out; omega) wk
    go_simp
    exact hK _ _ he3 ⟨_, _, _, rfl, hx3, NilOk.some _ _ _⟩
  · -- slot 51
    intro ac wk hx hsame hdep K hK
    have p50 : IsBN wk tag (ac.tmps.getD 50 undef) := hdep 45 (by kernel_rfl)
    obtain ⟨a50, n50, c50, d50, b50, z50⟩ := p50
    have e50 := d50
    rw [Array.getD_eq_getD_getElem?] at e50
    clear hsame hdep
    rw [d50] at b50 z50
    go_simp
    refine (bytesR_any tag a50 n50 c50 wk b50 z50 (by have := HLN.out; omega)).mono ?_
    rintro e w' ⟨y, rfl, hy, hx'⟩
    exact hK _ _ hx' (OB.of hy (Nat.le_trans HBW.out hx.size))
  · -- slot 52
    intro ac wk hx hsame hdep K hK
    have d1 : ac.tmps.getD 1 undef = .pointer (some ⟨pb, 0, none⟩) := hsame 1 (by kernel_rfl)
    have e1 := d1
    rw [Array.getD_eq_getD_getElem?] at e1
    clear hsame hdep
    go_simp
    exact hK _ _ (Ext.refl _ wk) rfl
  · -- slot 53
    intro ac wk hx hsame hdep K hK
    have d52 : ac.tmps.getD 52 undef = .pointer (some ⟨pb, 12, none⟩) := hdep 47 (by kernel_rfl)
    have e52 := d52
    rw [Array.getD_eq_getD_getElem?] at e52
    clear hsame hdep
    have hc := (HB0.out.drew.ext hx (fun s => s)).cell 12
    simp only [List.getElem?_toArray, List.getElem?_cons_zero, List.getElem?_cons_succ] at hc
    go_simp
    exact hK _ _ (Ext.refl _ wk) rfl
  · -- slot 54
    intro ac wk hx hsame hdep K hK
    have d53 : ac.tmps.getD 53 undef = .slice ab nb cb := hdep 48 (by kernel_rfl)
    have e53 := d53
    rw [Array.getD_eq_getD_getElem?] at e53
    clear hsame hdep
    go_simp
    exact hK _ _ (Ext.refl _ wk) rfl
  · -- slot 55
    intro ac wk hx hsame hdep K hK
    have d54 : ac.tmps.getD 54 undef = .int .i64 (nb : Nat) := hdep 49 (by kernel_rfl)
    have e54 := d54
    rw [Array.getD_eq_getD_getElem?] at e54
    clear hsame hdep
    have hnb := HNB.out
    go_simp
    exact hK _ _ (Ext.refl _ wk) (show (_ : Value) = _ by first | rfl | (rw [IntWalk.u64_in _ (by omega)]))
  · -- slot 56
    intro ac wk hx hsame hdep K hK
    have d55 : ac.tmps.getD 55 undef = .int .u64 (nb : Nat) := hdep 50 (by kernel_rfl)
    have e55 := d55
    rw [Array.getD_eq_getD_getElem?] at e55
    clear hsame hdep
    go_simp
    refine (numR_any nb 4 (by have := HNB.out; omega) (by decide) (by decide) wk).mono ?_
    rintro e w' ⟨y, rfl, hy, hx'⟩
    exact hK _ _ hx' (OB.of hy (Nat.le_trans HBW.out hx.size))
  · -- slot 57
    intro ac wk hx hsame hdep K hK
    have p8 : OB wk w.heap.size (numB (u64N kind) 1) (ac.tmps.getD 8 undef) := hdep 3 (by kernel_rfl)
    obtain ⟨a8, n8, c8, d8, o8⟩ := p8
    have e8 := d8
    rw [Array.getD_eq_getD_getElem?] at e8
    have p11 : OB wk w.heap.size (numB (flagN flag) 1) (ac.tmps.getD 11 undef) := hdep 6 (by kernel_rfl)
    obtain ⟨a11, n11, c11, d11, o11⟩ := p11
    have e11 := d11
    rw [Array.getD_eq_getD_getElem?] at e11
    have p14 : OB wk w.heap.size (numB who 8) (ac.tmps.getD 14 undef) := hdep 9 (by kernel_rfl)
    obtain ⟨a14, n14, c14, d14, o14⟩ := p14
    have e14 := d14
    rw [Array.getD_eq_getD_getElem?] at e14
    have p18 : OB wk w.heap.size (numB (u64N n) 8) (ac.tmps.getD 18 undef) := hdep 13 (by kernel_rfl)
    obtain ⟨a18, n18, c18, d18, o18⟩ := p18
    have e18 := d18
    rw [Array.getD_eq_getD_getElem?] at e18
    have p22 : OB wk w.heap.size (bytesB name) (ac.tmps.getD 22 undef) := hdep 17 (by kernel_rfl)
    obtain ⟨a22, n22, c22, d22, o22⟩ := p22
    have e22 := d22
    rw [Array.getD_eq_getD_getElem?] at e22
    have p26 : OB wk w.heap.size (bytesB host) (ac.tmps.getD 26 undef) := hdep 21 (by kernel_rfl)
    obtain ⟨a26, n26, c26, d26, o26⟩ := p26
    have e26 := d26
    rw [Array.getD_eq_getD_getElem?] at e26
    have p31 : OB wk w.heap.size (numB (u64N last) 4) (ac.tmps.getD 31 undef) := hdep 26 (by kernel_rfl)
    obtain ⟨a31, n31, c31, d31, o31⟩ := p31
    have e31 := d31
    rw [Array.getD_eq_getD_getElem?] at e31
    have p36 : OB wk w.heap.size (numB (u64N days) 4) (ac.tmps.getD 36 undef) := hdep 31 (by kernel_rfl)
    obtain ⟨a36, n36, c36, d36, o36⟩ := p36
    have e36 := d36
    rw [Array.getD_eq_getD_getElem?] at e36
    have p41 : OB wk w.heap.size (numB (u64N day) 8) (ac.tmps.getD 41 undef) := hdep 36 (by kernel_rfl)
    obtain ⟨a41, n41, c41, d41, o41⟩ := p41
    have e41 := d41
    rw [Array.getD_eq_getD_getElem?] at e41
    have p46 : OB wk w.heap.size (numB (u64N within) 8) (ac.tmps.getD 46 undef) := hdep 41 (by kernel_rfl)
    obtain ⟨a46, n46, c46, d46, o46⟩ := p46
    have e46 := d46
    rw [Array.getD_eq_getD_getElem?] at e46
    have p51 : OB wk w.heap.size (bytesB tag) (ac.tmps.getD 51 undef) := hdep 46 (by kernel_rfl)
    obtain ⟨a51, n51, c51, d51, o51⟩ := p51
    have e51 := d51
    rw [Array.getD_eq_getD_getElem?] at e51
    have p56 : OB wk w.heap.size (numB nb 4) (ac.tmps.getD 56 undef) := hdep 51 (by kernel_rfl)
    obtain ⟨a56, n56, c56, d56, o56⟩ := p56
    have e56 := d56
    rw [Array.getD_eq_getD_getElem?] at e56
    clear hsame hdep
    go_simp
    rw [d8] at o8
    rw [d11] at o11
    rw [d14] at o14
    rw [d18] at o18
    rw [d22] at o22
    rw [d26] at o26
    rw [d31] at o31
    rw [d36] at o36
    rw [d41] at o41
    rw [d46] at o46
    rw [d51] at o51
    rw [d56] at o56
    refine hK _ _ ((Ext.refl No wk).alloc _) (OwnBs.build (vs := [.slice a8 n8 c8, .slice a11 n11 c11, .slice a14 n14 c14, .slice a18 n18 c18, .slice a22 n22 c22, .slice a26 n26 c26, .slice a31 n31 c31, .slice a36 n36 c36, .slice a41 n41 c41, .slice a46 n46 c46, .slice a51 n51 c51, .slice a56 n56 c56]) (n := 12) (Nat.le_trans HBW.out hx.size) rfl rfl (by decide) (fun i hi => ?_))
    match i, hi with
    | 0, _ => exact ⟨_, _, _, rfl, o8⟩
    | 1, _ => exact ⟨_, _, _, rfl, o11⟩
    | 2, _ => exact ⟨_, _, _, rfl, o14⟩
    | 3, _ => exact ⟨_, _, _, rfl, o18⟩
    | 4, _ => exact ⟨_, _, _, rfl, o22⟩
    | 5, _ => exact ⟨_, _, _, rfl, o26⟩
    | 6, _ => exact ⟨_, _, _, rfl, o31⟩
    | 7, _ => exact ⟨_, _, _, rfl, o36⟩
    | 8, _ => exact ⟨_, _, _, rfl, o41⟩
    | 9, _ => exact ⟨_, _, _, rfl, o46⟩
    | 10, _ => exact ⟨_, _, _, rfl, o51⟩
    | 11, _ => exact ⟨_, _, _, rfl, o56⟩
  · intro ac wk hx hdf hsz hsame hvals
    have f0 : ac.tmps.getD 0 undef = .agg #[.int .i64 kind, .int .i64 n, .int .u64 (who : Nat), .bool flag, .string (strB name), .string (strB host), .slice af nf cf, .int .i64 last, .int .i64 days, .int .i64 day, .int .i64 within, .string (strB tag), .slice ab nb cb] := hsame 0 (by kernel_rfl)
    have f1 : ac.tmps.getD 1 undef = .pointer (some ⟨pb, 0, none⟩) := hsame 1 (by kernel_rfl)
    have f2 : ac.tmps.getD 2 undef = .slice none 0 0 := hsame 2 (by kernel_rfl)
    obtain ⟨u3, f3⟩ : ∃ u, ac.tmps.getD 3 undef = u := ⟨_, rfl⟩
    obtain ⟨u4, f4⟩ : ∃ u, ac.tmps.getD 4 undef = u := ⟨_, rfl⟩
    have f5 : ac.tmps.getD 5 undef = .pointer (some ⟨pb, 0, none⟩) := hvals 0 (by decide)
    have f6 : ac.tmps.getD 6 undef = .int .i64 kind := hvals 1 (by decide)
    have f7 : ac.tmps.getD 7 undef = .int .u8 (((UInt8.ofNat (u64N kind % 256)).toNat : Nat) : Int) := hvals 2 (by decide)
    obtain ⟨u8, f8⟩ : ∃ u, ac.tmps.getD 8 undef = u := ⟨_, rfl⟩
    have f9 : ac.tmps.getD 9 undef = .pointer (some ⟨pb, 3, none⟩) := hvals 4 (by decide)
    have f10 : ac.tmps.getD 10 undef = .bool flag := hvals 5 (by decide)
    obtain ⟨u11, f11⟩ : ∃ u, ac.tmps.getD 11 undef = u := ⟨_, rfl⟩
    have f12 : ac.tmps.getD 12 undef = .pointer (some ⟨pb, 2, none⟩) := hvals 7 (by decide)
    have f13 : ac.tmps.getD 13 undef = .int .u64 (who : Nat) := hvals 8 (by decide)
    obtain ⟨u14, f14⟩ : ∃ u, ac.tmps.getD 14 undef = u := ⟨_, rfl⟩
    have f15 : ac.tmps.getD 15 undef = .pointer (some ⟨pb, 1, none⟩) := hvals 10 (by decide)
    have f16 : ac.tmps.getD 16 undef = .int .i64 n := hvals 11 (by decide)
    have f17 : ac.tmps.getD 17 undef = .int .u64 ((u64N n : Nat) : Int) := hvals 12 (by decide)
    obtain ⟨u18, f18⟩ : ∃ u, ac.tmps.getD 18 undef = u := ⟨_, rfl⟩
    have f19 : ac.tmps.getD 19 undef = .pointer (some ⟨pb, 4, none⟩) := hvals 14 (by decide)
    have f20 : ac.tmps.getD 20 undef = .string (strB name) := hvals 15 (by decide)
    obtain ⟨u21, f21⟩ : ∃ u, ac.tmps.getD 21 undef = u := ⟨_, rfl⟩
    obtain ⟨u22, f22⟩ : ∃ u, ac.tmps.getD 22 undef = u := ⟨_, rfl⟩
    have f23 : ac.tmps.getD 23 undef = .pointer (some ⟨pb, 5, none⟩) := hvals 18 (by decide)
    have f24 : ac.tmps.getD 24 undef = .string (strB host) := hvals 19 (by decide)
    obtain ⟨u25, f25⟩ : ∃ u, ac.tmps.getD 25 undef = u := ⟨_, rfl⟩
    obtain ⟨u26, f26⟩ : ∃ u, ac.tmps.getD 26 undef = u := ⟨_, rfl⟩
    have f27 : ac.tmps.getD 27 undef = .pointer (some ⟨pb, 7, none⟩) := hvals 22 (by decide)
    have f28 : ac.tmps.getD 28 undef = .pointer (some ⟨pb, 7, none⟩) := hvals 23 (by decide)
    have f29 : ac.tmps.getD 29 undef = .int .i64 last := hvals 24 (by decide)
    have f30 : ac.tmps.getD 30 undef = .int .u64 ((u64N last : Nat) : Int) := hvals 25 (by decide)
    obtain ⟨u31, f31⟩ : ∃ u, ac.tmps.getD 31 undef = u := ⟨_, rfl⟩
    have f32 : ac.tmps.getD 32 undef = .pointer (some ⟨pb, 7, none⟩) := hvals 27 (by decide)
    have f33 : ac.tmps.getD 33 undef = .pointer (some ⟨pb, 8, none⟩) := hvals 28 (by decide)
    have f34 : ac.tmps.getD 34 undef = .int .i64 days := hvals 29 (by decide)
    have f35 : ac.tmps.getD 35 undef = .int .u64 ((u64N days : Nat) : Int) := hvals 30 (by decide)
    obtain ⟨u36, f36⟩ : ∃ u, ac.tmps.getD 36 undef = u := ⟨_, rfl⟩
    have f37 : ac.tmps.getD 37 undef = .pointer (some ⟨pb, 7, none⟩) := hvals 32 (by decide)
    have f38 : ac.tmps.getD 38 undef = .pointer (some ⟨pb, 9, none⟩) := hvals 33 (by decide)
    have f39 : ac.tmps.getD 39 undef = .int .i64 day := hvals 34 (by decide)
    have f40 : ac.tmps.getD 40 undef = .int .u64 ((u64N day : Nat) : Int) := hvals 35 (by decide)
    obtain ⟨u41, f41⟩ : ∃ u, ac.tmps.getD 41 undef = u := ⟨_, rfl⟩
    have f42 : ac.tmps.getD 42 undef = .pointer (some ⟨pb, 7, none⟩) := hvals 37 (by decide)
    have f43 : ac.tmps.getD 43 undef = .pointer (some ⟨pb, 10, none⟩) := hvals 38 (by decide)
    have f44 : ac.tmps.getD 44 undef = .int .i64 within := hvals 39 (by decide)
    have f45 : ac.tmps.getD 45 undef = .int .u64 ((u64N within : Nat) : Int) := hvals 40 (by decide)
    obtain ⟨u46, f46⟩ : ∃ u, ac.tmps.getD 46 undef = u := ⟨_, rfl⟩
    have f47 : ac.tmps.getD 47 undef = .pointer (some ⟨pb, 7, none⟩) := hvals 42 (by decide)
    have f48 : ac.tmps.getD 48 undef = .pointer (some ⟨pb, 11, none⟩) := hvals 43 (by decide)
    have f49 : ac.tmps.getD 49 undef = .string (strB tag) := hvals 44 (by decide)
    obtain ⟨u50, f50⟩ : ∃ u, ac.tmps.getD 50 undef = u := ⟨_, rfl⟩
    obtain ⟨u51, f51⟩ : ∃ u, ac.tmps.getD 51 undef = u := ⟨_, rfl⟩
    have f52 : ac.tmps.getD 52 undef = .pointer (some ⟨pb, 12, none⟩) := hvals 47 (by decide)
    have f53 : ac.tmps.getD 53 undef = .slice ab nb cb := hvals 48 (by decide)
    have f54 : ac.tmps.getD 54 undef = .int .i64 (nb : Nat) := hvals 49 (by decide)
    have f55 : ac.tmps.getD 55 undef = .int .u64 (nb : Nat) := hvals 50 (by decide)
    obtain ⟨u56, f56⟩ : ∃ u, ac.tmps.getD 56 undef = u := ⟨_, rfl⟩
    have p57 : OwnBs wk 5 31 w.heap.size [numB (u64N kind) 1, numB (flagN flag) 1, numB who 8, numB (u64N n) 8, bytesB name, bytesB host, numB (u64N last) 4, numB (u64N days) 4, numB (u64N day) 8, numB (u64N within) 8, bytesB tag, numB nb 4] (ac.tmps.getD 57 undef) := hvals 52 (by decide)
    obtain ⟨a57, n57, c57, f57, o57⟩ : ∃ aa nn cc, (ac.tmps.getD 57 undef) = .slice aa nn cc ∧ OwnBs wk 5 31 w.heap.size [numB (u64N kind) 1, numB (flagN flag) 1, numB who 8, numB (u64N n) 8, bytesB name, bytesB host, numB (u64N last) 4, numB (u64N days) 4, numB (u64N day) 8, numB (u64N within) 8, bytesB tag, numB nb 4] (ac.tmps.getD 57 undef) := by obtain ⟨xs, h, -⟩ := id p57; obtain ⟨a, c, e⟩ := own_form h; exact ⟨a, _, c, e, p57⟩
    obtain ⟨u58, f58⟩ : ∃ u, ac.tmps.getD 58 undef = u := ⟨_, rfl⟩
    obtain ⟨u59, f59⟩ : ∃ u, ac.tmps.getD 59 undef = u := ⟨_, rfl⟩
    obtain ⟨u60, f60⟩ : ∃ u, ac.tmps.getD 60 undef = u := ⟨_, rfl⟩
    obtain ⟨u61, f61⟩ : ∃ u, ac.tmps.getD 61 undef = u := ⟨_, rfl⟩
    obtain ⟨u62, f62⟩ : ∃ u, ac.tmps.getD 62 undef = u := ⟨_, rfl⟩
    obtain ⟨u63, f63⟩ : ∃ u, ac.tmps.getD 63 undef = u := ⟨_, rfl⟩
    obtain ⟨u64, f64⟩ : ∃ u, ac.tmps.getD 64 undef = u := ⟨_, rfl⟩
    obtain ⟨u65, f65⟩ : ∃ u, ac.tmps.getD 65 undef = u := ⟨_, rfl⟩
    obtain ⟨u66, f66⟩ : ∃ u, ac.tmps.getD 66 undef = u := ⟨_, rfl⟩
    obtain ⟨u67, f67⟩ : ∃ u, ac.tmps.getD 67 undef = u := ⟨_, rfl⟩
    obtain ⟨u68, f68⟩ : ∃ u, ac.tmps.getD 68 undef = u := ⟨_, rfl⟩
    obtain ⟨u69, f69⟩ : ∃ u, ac.tmps.getD 69 undef = u := ⟨_, rfl⟩
    obtain ⟨u70, f70⟩ : ∃ u, ac.tmps.getD 70 undef = u := ⟨_, rfl⟩
    obtain ⟨u71, f71⟩ : ∃ u, ac.tmps.getD 71 undef = u := ⟨_, rfl⟩
    obtain ⟨u72, f72⟩ : ∃ u, ac.tmps.getD 72 undef = u := ⟨_, rfl⟩
    obtain ⟨u73, f73⟩ : ∃ u, ac.tmps.getD 73 undef = u := ⟨_, rfl⟩
    obtain ⟨u74, f74⟩ : ∃ u, ac.tmps.getD 74 undef = u := ⟨_, rfl⟩
    obtain ⟨u75, f75⟩ : ∃ u, ac.tmps.getD 75 undef = u := ⟨_, rfl⟩
    obtain ⟨u76, f76⟩ : ∃ u, ac.tmps.getD 76 undef = u := ⟨_, rfl⟩
    obtain ⟨u77, f77⟩ : ∃ u, ac.tmps.getD 77 undef = u := ⟨_, rfl⟩
    obtain ⟨u78, f78⟩ : ∃ u, ac.tmps.getD 78 undef = u := ⟨_, rfl⟩
    obtain ⟨u79, f79⟩ : ∃ u, ac.tmps.getD 79 undef = u := ⟨_, rfl⟩
    obtain ⟨u80, f80⟩ : ∃ u, ac.tmps.getD 80 undef = u := ⟨_, rfl⟩
    have hlit : ac = ⟨#[.agg #[.int .i64 kind, .int .i64 n, .int .u64 (who : Nat), .bool flag, .string (strB name), .string (strB host), .slice af nf cf, .int .i64 last, .int .i64 days, .int .i64 day, .int .i64 within, .string (strB tag), .slice ab nb cb], .pointer (some ⟨pb, 0, none⟩), .slice none 0 0, u3, u4, .pointer (some ⟨pb, 0, none⟩), .int .i64 kind, .int .u8 (((UInt8.ofNat (u64N kind % 256)).toNat : Nat) : Int), u8, .pointer (some ⟨pb, 3, none⟩), .bool flag, u11, .pointer (some ⟨pb, 2, none⟩), .int .u64 (who : Nat), u14, .pointer (some ⟨pb, 1, none⟩), .int .i64 n, .int .u64 ((u64N n : Nat) : Int), u18, .pointer (some ⟨pb, 4, none⟩), .string (strB name), u21, u22, .pointer (some ⟨pb, 5, none⟩), .string (strB host), u25, u26, .pointer (some ⟨pb, 7, none⟩), .pointer (some ⟨pb, 7, none⟩), .int .i64 last, .int .u64 ((u64N last : Nat) : Int), u31, .pointer (some ⟨pb, 7, none⟩), .pointer (some ⟨pb, 8, none⟩), .int .i64 days, .int .u64 ((u64N days : Nat) : Int), u36, .pointer (some ⟨pb, 7, none⟩), .pointer (some ⟨pb, 9, none⟩), .int .i64 day, .int .u64 ((u64N day : Nat) : Int), u41, .pointer (some ⟨pb, 7, none⟩), .pointer (some ⟨pb, 10, none⟩), .int .i64 within, .int .u64 ((u64N within : Nat) : Int), u46, .pointer (some ⟨pb, 7, none⟩), .pointer (some ⟨pb, 11, none⟩), .string (strB tag), u50, u51, .pointer (some ⟨pb, 12, none⟩), .slice ab nb cb, .int .i64 (nb : Nat), .int .u64 (nb : Nat), u56, .slice a57 n57 c57, u58, u59, u60, u61, u62, u63, u64, u65, u66, u67, u68, u69, u70, u71, u72, u73, u74, u75, u76, u77, u78, u79, u80], []⟩ := by
      refine (act_lit hsz hdf).trans ?_
      rw [show List.range _ = [0, 1, 2, 3, 4, 5, 6, 7, 8, 9, 10, 11, 12, 13, 14, 15, 16, 17, 18, 19, 20, 21, 22, 23, 24, 25, 26, 27, 28, 29, 30, 31, 32, 33, 34, 35, 36, 37, 38, 39, 40, 41, 42, 43, 44, 45, 46, 47, 48, 49, 50, 51, 52, 53, 54, 55, 56, 57, 58, 59, 60, 61, 62, 63, 64, 65, 66, 67, 68, 69, 70, 71, 72, 73, 74, 75, 76, 77, 78, 79, 80] from rfl]
      simp only [List.map_cons, List.map_nil, f0, f1, f2, f3, f4, f5, f6, f7, f8, f9, f10, f11, f12, f13, f14, f15, f16, f17, f18, f19, f20, f21, f22, f23, f24, f25, f26, f27, f28, f29, f30, f31, f32, f33, f34, f35, f36, f37, f38, f39, f40, f41, f42, f43, f44, f45, f46, f47, f48, f49, f50, f51, f52, f53, f54, f55, f56, f57, f58, f59, f60, f61, f62, f63, f64, f65, f66, f67, f68, f69, f70, f71, f72, f73, f74, f75, f76, f77, f78, f79, f80]
    clear hvals hsame hdf hsz f0 f1 f2 f3 f4 f5 f6 f7 f8 f9 f10 f11 f12 f13 f14 f15 f16 f17 f18 f19 f20 f21 f22 f23 f24 f25 f26 f27 f28 f29 f30 f31 f32 f33 f34 f35 f36 f37 f38 f39 f40 f41 f42 f43 f44 f45 f46 f47 f48 f49 f50 f51 f52 f53 f54 f55 f56 f57 f58 f59 f60 f61 f62 f63 f64 f65 f66 f67 f68 f69 f70 f71 f72 f73 f74 f75 f76 f77 f78 f79 f80
    subst hlit
    simp only [List.drop_succ_cons, List.drop_zero]
    have HX1 := Lib.hid (HX0.out.trans' hx); have HBK := Lib.hid (HB0.out.ext hx (fun s => s))
    have HO57 := Lib.hid o57
    clear o57 p57 hx
    go_wp2_with fail
    generalize hRL : [numB (u64N kind) 1, numB (flagN flag) 1, numB who 8, numB (u64N n) 8, bytesB name, bytesB host, numB (u64N last) 4, numB (u64N days) 4, numB (u64N day) 8, numB (u64N within) 8, bytesB tag, numB nb 4] = rl at HO57
    have HRL := Lib.hid hRL
    have hrl : rl.length = 12 := by rw [← hRL]; rfl
    have HRLN := Lib.hid hrl
    have hflat : rl.flatten.length = 58 + name.length + host.length + tag.length := by rw [← hRL]; simp only [List.flatten_cons, List.flatten_nil, List.length_append, numB_length, bytesB_length, List.length_nil]; omega
    have HFLT := Lib.hid hflat
    clear hRL hrl hflat
    go_loopw [3, 4] (fun o i wr => ∃ (k m : Nat) (ax : Option Addr) (cx : Nat), o = .slice ax m cx ∧ i = .int .i64 k ∧ k ≤ nb ∧ m = 12 + k ∧ OwnBs wr 5 31 w.heap.size (rl ++ bitRows (bits.take k)) (.slice ax m cx) ∧ Ext No w wr ∧ Blk wr pb #[.int .i64 kind, .int .i64 n, .int .u64 (who : Nat), .bool flag, .string (strB name), .string (strB host), .slice af nf cf, .int .i64 last, .int .i64 days, .int .i64 day, .int .i64 within, .string (strB tag), .slice ab nb cb] 38) (fun _ i _ => nb - (intOf i).toNat)
    case atStart =>
      have hn57 : n57 = 12 := by obtain ⟨xs, h, -⟩ := HO57.out; obtain ⟨a, c, e⟩ := own_form h; rw [HRLN.out] at e; exact (Value.slice.inj e).2.1
      exact ⟨0, n57, a57, c57, rfl, rfl, by omega, by omega, by simpa [bitRows] using HO57.out, HX1.out, HBK.out⟩
    case round =>
      obtain ⟨k, m, ax, cx, rfl, rfl, hk, hm, ho, hx, hbk⟩ := hrel
      have HX := Lib.hid hx; have HBX := Lib.hid hbk; have HM := Lib.hid hm
      have hc12 := hbk.cell 12; have hc6 := hbk.cell 6
      simp only [List.getElem?_toArray, List.getElem?_cons_zero, List.getElem?_cons_succ] at hc12 hc6
      obtain ⟨xs, o1, o2⟩ := ho
      have hlen1 : (rl ++ bitRows (bits.take k)).length = m := by rw [List.length_append, HRLN.out, HM.out, bitRows_length, List.length_take]; have := HNL.out; omega
      rw [hlen1] at o1
      have HO1 := Lib.hid o1; have HO2 := Lib.hid o2; have HLEN := Lib.hid hlen1
      clear hx hbk hm o1 o2 hlen1
      by_cases hlt : k < nb
      · have hltI : (k : Int) < nb := by omega
        obtain ⟨b, off, rfl, hcb⟩ := IsRow.get (HBL.out.ext0 HX.out) k hlt
        unfold boolV at hcb
        have hbt := bitRows_take bits k (by rw [← HNL.out]; exact hlt)
        generalize bits.getD k false = t at *
        have HBT := Lib.hid hbt; clear hbt
        have HNUM := Lib.hid (show m + 1 ≤ 9223372036854775807 ∧ (m + 1) * 24 ≤ 140737488355328 by have := HM.out; have := HNB.out; omega)
        go_wp2_with fail
        refine (flagR_any t wr).mono ?_
        rintro e w2 ⟨a2, rfl, hy2, hx2⟩
        have hob := OB.of hy2 HX.out.size
        have hxa : Ext No w2 (w2.alloc (.cells #[.slice a2 1 1] 31)) := (Ext.refl No w2).alloc _
        have HOW := Lib.hid (own_ext HO1.out (hx2.trans' hxa) (fun _ _ s => s)); have HOB := Lib.hid (hob.ext hxa); have HX2 := Lib.hid (HX.out.trans' (hx2.trans' hxa)); have HBX2 := Lib.hid (HBX.out.ext (hx2.trans' hxa) (fun s => s)); have HR2 := Lib.hid (hx2.trans' hxa); have HZ := Lib.hid (HX.out.trans' (hx2.trans' hxa)).size
        clear hy2 hx2 hob hxa hc12 hc6 hcb
        dsimp only
        go_wp2_with (at_builtin; refine wpList_app1 _ _ rfl _ _ 59 rfl w.heap.size 31 _ _ rows_info Try.underlying59 rfl _ m xs rfl HOW.out _ rfl (cell_new _ _ _ rfl) rfl HNUM.out.1 HNUM.out.2 HZ.out ?_; intro v' w7 hown7 hg7; obtain ⟨a7, c7, rfl⟩ := own_form hown7; have HOW7 := Lib.hid hown7; have HG7 := Lib.hid hg7; clear hown7 hg7)
        have hobs : OwnBs w7 5 31 w.heap.size ((rl ++ bitRows (bits.take k)) ++ [numB (flagN t) 1]) (.slice a7 (m + 1) c7) :=
          OwnBs.appL (ys := [.slice a2 1 1]) (by decide) (by rw [HLEN.out]; exact HOW.out) (fun i hi => (HO2.out i hi).ext HR2.out (fun _ _ s => s)) (fun i hi => by
            have : i = 0 := by simp at hi; exact hi
            subst this
            obtain ⟨a, n, c, -, h⟩ := HOB.out; exact h) (by rw [HLEN.out]; exact HOW7.out) HG7.out
        rw [List.append_assoc, ← HBT.out] at hobs
        have HOBS := Lib.hid hobs
        have HE7 := Lib.hid (HX2.out.grown HG7.out (fun i hi h => absurd h (Nat.not_lt.2 (World.ownsRow.lt HO1.out i hi).1)))
        have HBX7 := Lib.hid (HBX2.out.grown HG7.out (own_ne_type HOW.out HBX2.out (by decide)))
        clear hobs
        go_roundw
        case rel => exact ⟨k + 1, m + 1, a7, c7, rfl, by go_num, by omega, by have := HM.out; omega, HOBS.out, HE7.out, HBX7.out⟩
        case measure => simp [intOf]; omega
      · have hkn : k = nb := by omega
        subst hkn
        go_wp2_with fail
        refine (filesR_any files _ wr (HFI.out.ext0 HX.out) (by have := HLN.out; omega)).mono ?_
        rintro e w2 ⟨y, rfl, hy2, hx2⟩
        obtain ⟨a2, c2, hyf⟩ := own_form hy2
        obtain ⟨n2, hn2⟩ : ∃ n2, n2 = (filesB files).length := ⟨_, rfl⟩
        rw [← hn2] at hyf
        subst hyf
        have hob := OB.of hy2 HX.out.size
        have hxa : Ext No w2 (w2.alloc (.cells #[.slice a2 n2 c2] 31)) := (Ext.refl No w2).alloc _
        have HOW := Lib.hid (own_ext HO1.out (hx2.trans' hxa) (fun _ _ s => s)); have HOB := Lib.hid (hob.ext hxa); have HX2 := Lib.hid (HX.out.trans' (hx2.trans' hxa)); have HR2 := Lib.hid (hx2.trans' hxa); have HZ := Lib.hid (HX.out.trans' (hx2.trans' hxa)).size
        have HNUM := Lib.hid (show m + 1 ≤ 9223372036854775807 ∧ (m + 1) * 24 ≤ 140737488355328 by have := HM.out; have := HNB.out; omega)
        clear hy2 hx2 hob hxa hc12 hc6 hn2
        dsimp only
        go_wp2_with (at_builtin; refine wpList_app1 _ _ rfl _ _ 59 rfl w.heap.size 31 _ _ rows_info Try.underlying59 rfl _ m xs rfl HOW.out _ rfl (cell_new _ _ _ rfl) rfl HNUM.out.1 HNUM.out.2 HZ.out ?_; intro v' w7 hown7 hg7; obtain ⟨a7, c7, rfl⟩ := own_form hown7; have HOW7 := Lib.hid hown7; have HG7 := Lib.hid hg7; clear hown7 hg7)
        have hobs : OwnBs w7 5 31 w.heap.size ((rl ++ bitRows (bits.take k)) ++ [filesB files]) (.slice a7 (m + 1) c7) :=
          OwnBs.appL (ys := [.slice a2 n2 c2]) (by decide) (by rw [HLEN.out]; exact HOW.out) (fun i hi => (HO2.out i hi).ext HR2.out (fun _ _ s => s)) (fun i hi => by
            have : i = 0 := by simp at hi; exact hi
            subst this
            obtain ⟨a, n, c, -, h⟩ := HOB.out; exact h) (by rw [HLEN.out]; exact HOW7.out) HG7.out
        rw [List.take_of_length_le (by rw [HNL.out]; exact Nat.le_refl _)] at hobs
        have HE7 := Lib.hid (HX2.out.grown HG7.out (fun i hi h => absurd h (Nat.not_lt.2 (World.ownsRow.lt HO1.out i hi).1)))
        have hfl : (rl ++ bitRows bits ++ [filesB files]).flatten = fin := by
          rw [← HFIN.out, ← HRL.out]
          unfold cmdB bitsB bitRows
          simp only [List.flatten_append, List.flatten_cons, List.flatten_nil, List.append_nil, List.append_assoc, HNL.out]
        have hfll : fin.length ≤ 1099511627776 := by
          rw [← HFIN.out]; unfold cmdB; simp only [List.length_append, numB_length, bytesB_length, bitsB_length]; have := HLN.out; omega
        refine (join_any _ _ w7 hobs.rowsN (by rw [hfl]; exact hfll)).mono ?_
        rintro e w8 ⟨x, rfl, hox, hx8⟩
        rw [hfl] at hox
        have HOX := Lib.hid (own_le hox HE7.out.size); have HX8 := Lib.hid (HE7.out.trans' hx8); clear hox hx8 hobs hfl hfll
        dsimp only
        go_wp2_with fail
        go_ret
        exact ⟨x, rfl, HOX.out, HX8.out⟩

end Go.Proofs.Ytchejnnfbinclaa
end

section
/- The contract of the documents' answer for scripts: Check. Printed by wip/mkcheckr.py. -/
namespace Go.Proofs.Ytchejnnfbinclaa
open Go.RowKit Go.My

theorem any_take_badF (l : List FileL) (k : Nat) (hk : k < l.length) (h : (l.take k).any badF = false) (hb : badF (l.getD k ([], [])) = true) : l.any badF = true := by
  rw [List.any_eq_true]
  exact ⟨l.getD k ([], []), by simp [List.getD_eq_getElem?_getD, List.getElem?_eq_getElem hk], hb⟩
theorem any_take_badF' (l : List FileL) (k : Nat) (hk : k < l.length) (h : (l.take k).any badF = false) (hb : badF (l.getD k ([], [])) = false) : (l.take (k + 1)).any badF = false := by
  rw [List.take_add_one, List.any_append, h, List.getElem?_eq_getElem hk]
  simp [List.getD_eq_getElem?_getD, List.getElem?_eq_getElem hk] at hb
  simp [hb]

set_option maxRecDepth 100000 in
set_option maxHeartbeats 8000000 in
theorem checkR_any (c : CmdI) (vf vb : Value) (w : World) (hf : IsFiles w c.files vf) (hb : IsBools w c.bits vb) :
    Calls Try.prog 13 #[cmdVal c vf vb] w fun e w' => e = .returned (.int .i64 (checkN c)) ∧ Ext No w w' := by
  obtain ⟨kind, n, who, flag, name, host, files, last, days, day, within, tag, bits⟩ := c
  simp only at hf hb
  obtain ⟨af, nf, cf, hvf⟩ : ∃ a n c, vf = .slice a n c := by obtain ⟨a, c, h, -⟩ := hf; exact ⟨a, _, c, h⟩
  obtain ⟨ab, nb, cb, hvb⟩ : ∃ a n c, vb = .slice a n c := by obtain ⟨a, c, h, -⟩ := hb; exact ⟨a, _, c, h⟩
  subst hvf; subst hvb
  unfold cmdVal
  simp only
  obtain ⟨hnf, hfl⟩ := hf.len
  have hnb : nb = bits.length := (IsRow.len hb).1
  obtain ⟨k, hk⟩ : ∃ k, checkN ⟨kind, n, who, flag, name, host, files, last, days, day, within, tag, bits⟩ = k := ⟨_, rfl⟩
  rw [hk]
  unfold checkN at hk
  simp only at hk
  rw [← hnf, ← hnb] at hk
  have HF := Lib.hid hf; have HK := Lib.hid hk; have HNF := Lib.hid hnf
  clear hf hb hnf hnb hk
  by_cases h0 : kind < 0
  case pos =>
    have hd0 : decide (kind < 0) = true := by simpa using h0
    have hk : k = 23 := by
      have hk := HK.out
      rw [if_pos (by omega)] at hk
      exact hk.symm
    subst hk
    go_enter Try.func13, Try.ntmps13
    go_wp2_with fail
    go_ret
    exact ⟨rfl, (Ext.refl No w).alloc _⟩
  have hd0 : decide (kind < 0) = false := by simpa using h0
  by_cases h1 : 255 < kind
  case pos =>
    have hd1 : decide (255 < kind) = true := by simpa using h1
    have hk : k = 23 := by
      have hk := HK.out
      rw [if_pos (by omega)] at hk
      exact hk.symm
    subst hk
    go_enter Try.func13, Try.ntmps13
    go_wp2_with fail
    go_ret
    exact ⟨rfl, (Ext.refl No w).alloc _⟩
  have hd1 : decide (255 < kind) = false := by simpa using h1
  by_cases h2 : last < 0
  case pos =>
    have hd2 : decide (last < 0) = true := by simpa using h2
    have hk : k = 23 := by
      have hk := HK.out
      rw [if_neg (by omega)] at hk
      rw [if_pos (by omega)] at hk
      exact hk.symm
    subst hk
    go_enter Try.func13, Try.ntmps13
    go_wp2_with fail
    go_ret
    exact ⟨rfl, (Ext.refl No w).alloc _⟩
  have hd2 : decide (last < 0) = false := by simpa using h2
  by_cases h3 : 2147483647 < last
  case pos =>
    have hd3 : decide (2147483647 < last) = true := by simpa using h3
    have hk : k = 23 := by
      have hk := HK.out
      rw [if_neg (by omega)] at hk
      rw [if_pos (by omega)] at hk
      exact hk.symm
    subst hk
    go_enter Try.func13, Try.ntmps13
    go_wp2_with fail
    go_ret
    exact ⟨rfl, (Ext.refl No w).alloc _⟩
  have hd3 : decide (2147483647 < last) = false := by simpa using h3
  by_cases h4 : days < 0
  case pos =>
    have hd4 : decide (days < 0) = true := by simpa using h4
    have hk : k = 23 := by
      have hk := HK.out
      rw [if_neg (by omega)] at hk
      rw [if_neg (by omega)] at hk
      rw [if_pos (by omega)] at hk
      exact hk.symm
    subst hk
    go_enter Try.func13, Try.ntmps13
    go_wp2_with fail
    go_ret
    exact ⟨rfl, (Ext.refl No w).alloc _⟩
  have hd4 : decide (days < 0) = false := by simpa using h4
  by_cases h5 : 2147483647 < days
  case pos =>
    have hd5 : decide (2147483647 < days) = true := by simpa using h5
    have hk : k = 23 := by
      have hk := HK.out
      rw [if_neg (by omega)] at hk
      rw [if_neg (by omega)] at hk
      rw [if_pos (by omega)] at hk
      exact hk.symm
    subst hk
    go_enter Try.func13, Try.ntmps13
    go_wp2_with fail
    go_ret
    exact ⟨rfl, (Ext.refl No w).alloc _⟩
  have hd5 : decide (2147483647 < days) = false := by simpa using h5
  replace HK := Lib.hid (show (if 120 < name.length then (2 : Int) else if 120 < host.length then 2 else if 120 < tag.length then 2 else if 512 < nb then 3 else if 512 < nf then 3 else if files.any badF then 2 else 0) = k by
    have hk := HK.out
    rw [if_neg (by omega), if_neg (by omega), if_neg (by omega)] at hk
    exact hk)
  go_enter Try.func13, Try.ntmps13
  go_wp2_with fail
  refine (longR_any name _).mono ?_
  rintro e w' ⟨rfl, rfl⟩
  by_cases g0 : 120 < name.length
  · have hk : k = 2 := by
      have hk := HK.out
      rw [if_pos g0] at hk; exact hk.symm
    subst hk
    rw [decide_eq_true g0]
    dsimp only
    go_wp2_with fail
    go_ret
    exact ⟨rfl, (Ext.refl No w).alloc _⟩
  rw [decide_eq_false g0]
  replace HK := Lib.hid (by have hk := HK.out; rw [if_neg g0] at hk; exact hk)
  dsimp only
  go_wp2_with fail
  refine (longR_any host _).mono ?_
  rintro e w' ⟨rfl, rfl⟩
  by_cases g1 : 120 < host.length
  · have hk : k = 2 := by
      have hk := HK.out
      rw [if_pos g1] at hk; exact hk.symm
    subst hk
    rw [decide_eq_true g1]
    dsimp only
    go_wp2_with fail
    go_ret
    exact ⟨rfl, (Ext.refl No w).alloc _⟩
  rw [decide_eq_false g1]
  replace HK := Lib.hid (by have hk := HK.out; rw [if_neg g1] at hk; exact hk)
  dsimp only
  go_wp2_with fail
  refine (longR_any tag _).mono ?_
  rintro e w' ⟨rfl, rfl⟩
  by_cases g2 : 120 < tag.length
  · have hk : k = 2 := by
      have hk := HK.out
      rw [if_pos g2] at hk; exact hk.symm
    subst hk
    rw [decide_eq_true g2]
    dsimp only
    go_wp2_with fail
    go_ret
    exact ⟨rfl, (Ext.refl No w).alloc _⟩
  rw [decide_eq_false g2]
  replace HK := Lib.hid (by have hk := HK.out; rw [if_neg g2] at hk; exact hk)
  dsimp only
  by_cases g3 : 512 < nb
  · have hk : k = 3 := by
      have hk := HK.out
      rw [if_pos g3] at hk; exact hk.symm
    subst hk
    have g3i : (512 : Int) < nb := by omega
    go_wp2_with fail
    go_ret
    exact ⟨rfl, (Ext.refl No w).alloc _⟩
  replace HK := Lib.hid (by have hk := HK.out; rw [if_neg g3] at hk; exact hk)
  have g3i : decide ((512 : Int) < nb) = false := by simp; omega
  by_cases g4 : 512 < nf
  · have hk : k = 3 := by
      have hk := HK.out
      rw [if_pos g4] at hk; exact hk.symm
    subst hk
    have g4i : (512 : Int) < nf := by omega
    go_wp2_with fail
    go_ret
    exact ⟨rfl, (Ext.refl No w).alloc _⟩
  replace HK := Lib.hid (by have hk := HK.out; rw [if_neg g4] at hk; exact hk)
  have g4i : decide ((512 : Int) < nf) = false := by simp; omega
  go_wp2_with fail
  clear hd0 hd1 hd2 hd3 hd4 hd5
  obtain ⟨w1, hw1⟩ : ∃ w1, w.alloc (.cells #[.int .i64 kind, .int .i64 n, .int .u64 (who : Nat), .bool flag, .string (strB name), .string (strB host), .slice af nf cf, .int .i64 last, .int .i64 days, .int .i64 day, .int .i64 within, .string (strB tag), .slice ab nb cb] 38) = w1 := ⟨_, rfl⟩
  have hx1 : Ext No w w1 := by rw [← hw1]; exact (Ext.refl No w).alloc _
  have hb1 := Blk.new w #[.int .i64 kind, .int .i64 n, .int .u64 (who : Nat), .bool flag, .string (strB name), .string (strB host), .slice af nf cf, .int .i64 last, .int .i64 days, .int .i64 day, .int .i64 within, .string (strB tag), .slice ab nb cb] 38
  rw [hw1] at hb1
  rw [hw1]
  obtain ⟨pb, hpb⟩ : ∃ pb, w.heap.size = pb := ⟨_, rfl⟩
  rw [hpb] at hb1 ⊢
  have hc6 := hb1.cell 6
  simp only [List.getElem?_toArray, List.getElem?_cons_zero, List.getElem?_cons_succ] at hc6
  have HX := Lib.hid hx1; have HF1 := Lib.hid (HF.out.ext0 hx1)
  clear hb1 hx1 hw1 hpb g3i g4i g3
  go_loopw [3] (fun i wr => ∃ q : Nat, i = .int .i64 q ∧ q ≤ nf ∧ (files.take q).any badF = false ∧ wr = w1) (fun i _ => nf - (intOf i).toNat)
  case atStart => exact ⟨0, rfl, by omega, by simp, rfl⟩
  case round =>
    obtain ⟨q, rfl, hq, hany, rfl⟩ := hrel
    have HANY := Lib.hid hany; clear hany
    by_cases hlt : q < nf
    · have hltI : (q : Int) < nf := by omega
      obtain ⟨b, off, ax, nx, cx, rfl, hp, hd, hxb, -, hnx⟩ := HF1.out.get q hlt
      have hqf : q < files.length := by rw [← HNF.out]; exact hlt
      have hbad := any_take_badF files q hqf HANY.out
      have hgood := any_take_badF' files q hqf HANY.out
      generalize files.getD q ([], []) = f at *
      obtain ⟨path, data⟩ := f
      simp only at hp hd hnx
      have HBAD := Lib.hid (show (decide (120 < path.length) || decide (65536 < nx)) = true → files.any badF = true by rw [hnx]; exact hbad)
      have HGOOD := Lib.hid (show (decide (120 < path.length) || decide (65536 < nx)) = false → (files.take (q + 1)).any badF = false by rw [hnx]; exact hgood)
      clear hbad hgood hxb hnx
      go_wp2_with fail
      refine (longR_any path _).mono ?_
      rintro e w' ⟨rfl, rfl⟩
      by_cases p1 : 120 < path.length
      · have hk : k = 2 := by
          have hk := HK.out
          have e := HBAD.out (by rw [decide_eq_true p1]; rfl)
          rw [if_pos e] at hk; exact hk.symm
        subst hk
        rw [decide_eq_true p1]
        dsimp only
        go_wp2_with fail
        go_ret
        exact ⟨rfl, HX.out⟩
      rw [decide_eq_false p1]
      by_cases p2 : 65536 < nx
      · have hk : k = 2 := by
          have hk := HK.out
          have e := HBAD.out (by rw [decide_eq_true p2, Bool.or_true])
          rw [if_pos e] at hk; exact hk.symm
        subst hk
        have p2i : (65536 : Int) < nx := by omega
        dsimp only
        go_wp2_with fail
        go_ret
        exact ⟨rfl, HX.out⟩
      have p2i : decide ((65536 : Int) < nx) = false := by simp; omega
      have HG2 := Lib.hid (HGOOD.out (by rw [decide_eq_false p1, decide_eq_false p2]; rfl))
      dsimp only
      go_wp2_with fail
      go_roundw
      case rel => exact ⟨q + 1, by go_num, by omega, HG2.out, by trivial⟩
      case measure => simp [intOf]; omega
    · have hqn : q = nf := by omega
      subst hqn
      have hk : k = 0 := by
        have hk := HK.out
        have e := HANY.out
        rw [List.take_of_length_le (by rw [HNF.out]; exact Nat.le_refl _)] at e
        rw [if_neg (by rw [e]; decide)] at hk; exact hk.symm
      subst hk
      go_wp2_with fail
      go_ret
      exact ⟨rfl, HX.out⟩
end Go.Proofs.Ytchejnnfbinclaa
end

section
/- The contract of the documents' answer for scripts: some (files, read). -/
namespace Go.Proofs.Ytchejnnfbinclaa
open Go.RowKit Go.My

def someLoop (most : Nat) : Nat → RSt → List FileL → RSt × List FileL
  | 0, s, fs => (s, fs)
  | n + 1, s, fs => if s.2 = 0 then someLoop most n (someS (someS s 120).1 most).1 (fs ++ [((someS s 120).2, (someS (someS s 120).1 most).2)]) else (s, fs)
theorem someLoop_go {most n : Nat} {s : RSt} {fs : List FileL} (h : s.2 = 0) : someLoop most (n + 1) s fs = someLoop most n (someS (someS s 120).1 most).1 (fs ++ [((someS s 120).2, (someS (someS s 120).1 most).2)]) := by
  show (if s.2 = 0 then _ else _) = _
  rw [if_pos h]
theorem someLoop_no {most n : Nat} {s : RSt} {fs : List FileL} (h : s.2 ≠ 0) : someLoop most n s fs = (s, fs) := by
  cases n with
  | zero => rfl
  | succ n => show (if s.2 = 0 then _ else _) = _; rw [if_neg h]
def someF (s : RSt) (most : Nat) : RSt × List FileL := someLoop most (getS s 4).2 (getS s 4).1 []

theorem rawS_le (s : RSt) (n : Nat) : (rawS s n).1.1.length ≤ s.1.length := by
  unfold rawS; split
  · exact Nat.le_refl _
  · split
    · exact Nat.le_refl _
    · simp only [List.length_drop]; omega
theorem rawS_ok {s : RSt} {n : Nat} (h : (rawS s n).1.2 = 0) : (rawS s n).1.1.length + n ≤ s.1.length ∧ s.2 = 0 := by
  unfold rawS at h ⊢
  split at h
  · rename_i h0; exact absurd h h0
  · rename_i h0
    split at h
    · cases h
    · rename_i h1
      rw [if_neg h0, if_neg h1]
      simp only [List.length_drop]
      exact ⟨by omega, by simpa using h0⟩
theorem someS_le (s : RSt) (most : Nat) : (someS s most).1.1.length ≤ s.1.length := by
  unfold someS; split
  · exact Nat.le_refl _
  · split
    · exact Nat.le_refl _
    · split
      · exact Nat.le_refl _
      · exact Nat.le_trans (rawS_le _ _) (rawS_le _ _)
theorem someS_ok {s : RSt} {most : Nat} (h : (someS s most).1.2 = 0) : (someS s most).1.1.length + 4 ≤ s.1.length ∧ s.2 = 0 := by
  unfold someS at h ⊢
  split at h
  · rename_i h0; exact absurd h h0
  · rename_i h0
    split at h
    · cases h
    · rename_i h1
      split at h
      · cases h
      · rename_i h2
        rw [if_neg h0, if_neg h1, if_neg h2]
        have h3 := rawS_ok h
        have h4 : (rawS s 4).1.2 = 0 := by simpa [getS] using h0
        have h5 := rawS_ok h4
        unfold getS at h3 ⊢
        simp only at h3 ⊢
        exact ⟨by omega, h5.2⟩

def FileW (wo : World) (w : World) (f : FileL) (us : List Value) : Prop := ∃ x, us = [.string (strB f.1), x] ∧ IsBN wo f.2 x
theorem OwnSeq.filesW {wo w : World} {B : Nat} {fs : List FileL} {v : Value} (h : OwnSeq w B 76 2 (FileW wo) fs v) (hx : Ext No wo w) : IsFiles w fs v := by
  obtain ⟨a, c, rfl⟩ := OwnSeq.len h
  have hc : fs.length ≤ c ∧ c ≤ 9223372036854775807 := by
    obtain ⟨us, h1, -⟩ := h
    rcases h1.2 with ⟨he, h0⟩ | ⟨g, cap, cur, he, -, -, h2, h3, -⟩
    · simp only [Value.slice.injEq] at he; omega
    · simp only [Value.slice.injEq] at he; unfold maxLen at h3; omega
  refine ⟨a, c, rfl, hc.1, hc.2, fun i hi => ?_⟩
  obtain ⟨b, us, rfl, ⟨x, rfl, ax, nx, cx, rfl, hx1, hx2⟩, hcs⟩ := OwnSeq.get h i _ (List.getElem?_eq_getElem hi)
  have e : fs.getD i ([], []) = fs[i] := by simp [List.getD_eq_getElem?_getD, List.getElem?_eq_getElem hi]
  rw [e]
  exact ⟨b, 0, _, rfl, by rw [Nat.zero_add]; exact (hcs 0 (by decide)).symm, by rw [Nat.zero_add]; exact (hcs 1 (by decide)).symm, hx1.ext0 hx, hx2⟩

set_option maxRecDepth 100000 in
set_option maxHeartbeats 8000000 in
theorem someF_any (s : RSt) (v : Value) (most : Nat) (hmo : most ≤ 9223372036854775807) (wo w : World) (hwo : Ext No wo w) (h : IsRd wo s v) (hl : s.1.length ≤ 1099511627776) :
    Calls Try.prog 58 #[v, .int .i64 most] w fun e w' => Ext No w w' ∧ ∃ r x, e = .returned (.tuple #[r, x]) ∧ IsRd wo (someF s most).1 r ∧ OwnSeq w' w.heap.size 76 2 (FileW wo) (someF s most).2 x := by
  have HWO := Lib.hid hwo; have HL := Lib.hid hl
  obtain ⟨l, e⟩ := s
  simp only at HL
  obtain ⟨sf, hsf⟩ : ∃ sf, someF (l, e) most = sf := ⟨_, rfl⟩
  rw [hsf]
  unfold someF at hsf
  have H := Lib.hid h
  obtain ⟨a, m, c, rfl, hb, hnl⟩ := h
  simp only at H hb ⊢
  have hget : ∀ w1, Ext No wo w1 → _ := fun w1 hx => getR_any (l, e) (.agg #[.slice a m c, .int .i64 e]) 4 (by decide) (by decide) wo w1 hx H.out
  have hlt : (getS (l, e) 4).2 < 256 ^ 4 := by
    unfold getS
    exact Nat.lt_of_lt_of_le (getN_lt _) (Nat.pow_le_pow_right (by decide) (rawS_len _ _))
  have hle : (getS (l, e) 4).1.1.length ≤ l.length := rawS_le _ _
  have HGET := Lib.hid hget; have HLT := Lib.hid hlt; have HLE := Lib.hid hle
  clear hget hlt hle hb hnl hwo hl
  generalize getS (l, e) 4 = g at *
  obtain ⟨s1, n⟩ := g
  simp only at HLT HLE hsf
  have HSF := Lib.hid hsf; clear hsf
  obtain ⟨w0, hw0⟩ : ∃ w0, (w.alloc (.cells #[.slice a m c, .int .i64 e] 100)).alloc (.cells #[.slice none 0 0, .int .i64 0] 100) = w0 := ⟨_, rfl⟩
  have hx0 : Ext No w w0 := by rw [← hw0]; exact ((Ext.refl No w).alloc _).alloc _
  have hb0 : Blk w0 w.heap.size #[.slice a m c, .int .i64 e] 100 := by rw [← hw0]; exact (Blk.new w _ _).alloc _
  have hb1 : Blk w0 (w.heap.size + 1) #[.slice none 0 0, .int .i64 0] 100 := by
    have := Blk.new (w.alloc (.cells #[.slice a m c, .int .i64 e] 100)) #[.slice none 0 0, .int .i64 0] 100
    rw [World.size_alloc, hw0] at this; exact this
  obtain ⟨pb, hpb⟩ : ∃ pb, w.heap.size = pb := ⟨_, rfl⟩
  obtain ⟨rb, hrb⟩ : ∃ rb, pb + 1 = rb := ⟨_, rfl⟩
  rw [hpb] at hb0 hb1
  rw [hrb] at hb1
  have HX0 := Lib.hid hx0; have HB0 := Lib.hid hb0; have HB1 := Lib.hid hb1; have HPB := Lib.hid hpb; have HRB := Lib.hid hrb; have HW0 := Lib.hid hw0
  clear hx0 hb0 hb1 hpb hrb hw0
  go_enter Try.func58, Try.ntmps58
  go_wp2_with fail
  rw [HW0.out, HPB.out, HRB.out]
  refine (HGET.out w0 (HWO.out.trans' HX0.out)).mono ?_
  rintro e w1 ⟨hx1, r, rfl, a1, m1, c1, rfl, hr1, hn1⟩
  have hb0 := HB0.out.ext hx1 (fun s => s); have hb1 := HB1.out.ext hx1 (fun s => s)
  have hc0 := hb0.cell 0; have hc1 := hb0.cell 1; have hf0 := hb0.free 0; have hf1 := hb0.free 1
  simp only [List.getElem?_toArray, List.getElem?_cons_zero, List.getElem?_cons_succ] at hc0 hc1
  have hne : pb ≠ rb := by have := HRB.out; omega
  obtain ⟨w2, hw2⟩ : ∃ w2, putAll w1 pb 0 [.slice a1 m1 c1, .int .i64 s1.2] = w2 := ⟨_, rfl⟩
  have hx2 := putAll_ext pb [.slice a1 m1 c1, .int .i64 s1.2] w1 0
  have hb2 := putAll_all hb0 [.slice a1 m1 c1, .int .i64 s1.2] rfl
  rw [hw2] at hx2 hb2
  simp only [putAll, Nat.zero_add] at hw2
  have hwz : w1.heap.size = w2.heap.size := by rw [← hw2]; simp
  have hb3 := hb1.ext hx2 (fun s => hne s.symm)
  have hxw2 : Ext No w w2 := (HX0.out.trans' hx1).trans hx2 (fun _ _ s => s) (fun j hj s => by have := HPB.out; omega)
  have HB2 := Lib.hid hb2; have HB3 := Lib.hid hb3; have HX2 := Lib.hid hxw2; have HR1 := Lib.hid (show IsRd wo s1 (.agg #[.slice a1 m1 c1, .int .i64 s1.2]) from ⟨a1, m1, c1, rfl, hr1, hn1⟩); have HW2 := Lib.hid hw2
  clear hb0 hb1 hb2 hb3 hx2 hxw2 hr1 hn1 hw2 hx1
  dsimp only
  go_wp2_with fail
  rw [HW2.out]
  clear hc0 hc1 hf0 hf1
  have hx3 : Ext No w2 (w2.alloc (.cells #[] 76)) := (Ext.refl No w2).alloc _
  have ho3 : OwnSeq (w2.alloc (.cells #[] 76)) w.heap.size 76 2 (FileW wo) [] (.slice (some ⟨w2.heap.size, 0, none⟩) 0 0) := ⟨[], World.ownsRow_made w2 #[] 0 HX2.out.size (by decide) rfl, fun i x hx => by simp at hx⟩
  have HO3 := Lib.hid ho3; have HB4 := Lib.hid (HB2.out.ext hx3 (fun s => s)); have HB5 := Lib.hid (HB3.out.ext hx3 (fun s => s)); have HX3 := Lib.hid (HX2.out.trans' hx3)
  clear ho3 hx3
  have hn64 : n ≤ 4294967295 := by have := HLT.out; omega
  go_loopw [7, 8] (fun o i wr => ∃ (k : Nat) (sk : RSt) (fs : List FileL) (ak : Option Addr) (mk ck : Nat) (af : Option Addr) (cf : Nat), i = .int .u64 k ∧ k ≤ n ∧ o = .slice af k cf ∧ IsRd wo sk (.agg #[.slice ak mk ck, .int .i64 sk.2]) ∧ Blk wr pb #[.slice ak mk ck, .int .i64 sk.2] 100 ∧ Blk wr rb #[.slice none 0 0, .int .i64 0] 100 ∧
    OwnSeq wr w.heap.size 76 2 (FileW wo) fs (.slice af k cf) ∧ fs.length = k ∧ someLoop most (n - k) sk fs = sf ∧ Ext No w wr ∧ (sk.2 = 0 → 8 * k + sk.1.length ≤ l.length) ∧ k ≤ l.length + 1) (fun _ i _ => n - (intOf i).toNat)
  case atStart => exact ⟨0, s1, [], a1, m1, c1, _, 0, rfl, by omega, rfl, HR1.out, HB4.out, HB5.out, HO3.out, rfl, HSF.out, HX3.out, fun _ => by have := HLE.out; omega, by omega⟩
  case round =>
    obtain ⟨k, sk, fs, ak, mk, ck, af, cf, rfl, hk, rfl, hrd, hbp, hbr, ho, hfl, hsl, hx, hle, hkl⟩ := hrel
    obtain ⟨l0, e0⟩ := sk
    dsimp only at hrd hbp hsl hle
    have hc0 := hbp.cell 0; have hc1 := hbp.cell 1; have hf0 := hbp.free 0; have hf1 := hbp.free 1
    have hd0 := hbr.cell 0; have hd1 := hbr.cell 1; have hg0 := hbr.free 0; have hg1 := hbr.free 1
    simp only [List.getElem?_toArray, List.getElem?_cons_zero, List.getElem?_cons_succ] at hc0 hc1 hd0 hd1
    have HRD := Lib.hid hrd; have HBP := Lib.hid hbp; have HBR := Lib.hid hbr; have HO := Lib.hid ho; have HFL := Lib.hid hfl; have HSL := Lib.hid hsl; have HX := Lib.hid hx; have HLE2 := Lib.hid hle; have HKL := Lib.hid hkl
    clear hrd hbp hbr ho hfl hsl hx hle hkl
    by_cases hgo : k < n ∧ e0 = 0
    · obtain ⟨hlt, he0⟩ := hgo
      have hltI : (k : Int) < n := by omega
      obtain ⟨m', hm'⟩ : ∃ m', n - k = m' + 1 := ⟨n - k - 1, by omega⟩
      have hsl := HSL.out
      subst he0
      rw [hm', someLoop_go rfl] at hsl
      have HSL2 := Lib.hid hsl; clear hsl
      clear hd0 hd1 hg0 hg1
      go_wp2_with fail
      refine (someR_any (l0, 0) _ 120 (by decide) wo wr (HWO.out.trans' HX.out) HRD.out).mono ?_
      rintro e w4 ⟨hx4, r4, x4, rfl, hr4, hbx4⟩
      have hsz4 := someS_ok (s := (l0, 0)) (most := 120)
      have hkp4 := someS_le (l0, 0) 120
      generalize (someS (l0, 0) 120).1 = s4 at *
      generalize (someS (l0, 0) 120).2 = path at *
      obtain ⟨a4, m4, c4, rfl, hb4, hn4⟩ := id hr4
      obtain ⟨a5, m5, c5, rfl, hb5, hn5⟩ := id hbx4
      have hX4 : Ext No w4 (w4.alloc (.cells #[.slice a4 m4 c4, .int .i64 s4.2] 100)) := (Ext.refl No w4).alloc _
      have HX4 := Lib.hid (HX.out.trans' (hx4.trans' hX4)); have HBP4 := Lib.hid (HBP.out.ext (hx4.trans' hX4) (fun s => s)); have HBR4 := Lib.hid (HBR.out.ext (hx4.trans' hX4) (fun s => s)); have HR4 := Lib.hid hr4; have HBX4 := Lib.hid hbx4; have HS4 := Lib.hid hsz4; have HK4 := Lib.hid hkp4
      have HO4 := Lib.hid (show OwnSeq (w4.alloc (.cells #[.slice a4 m4 c4, .int .i64 s4.2] 100)) w.heap.size 76 2 (FileW wo) fs (.slice af k cf) from HO.out.ext (hx4.trans' hX4) (fun _ _ s => s) (fun _ _ h => h))
      have hb9 := Blk.new w4 #[.slice a4 m4 c4, .int .i64 s4.2] 100
      have HB9 := Lib.hid hb9; have HZ4 := Lib.hid hx4.size
      clear hX4 hx4 hr4 hbx4 hb4 hn4 hb5 hn5 hsz4 hkp4 hb9 hc0 hc1 hf0 hf1
      dsimp only
      go_wp2_with fail
      obtain ⟨w5, hw5⟩ : ∃ w5, w4.alloc (.cells #[.slice a4 m4 c4, .int .i64 s4.2] 100) = w5 := ⟨_, rfl⟩
      rw [hw5] at HX4 HBP4 HBR4 HO4 HB9
      rw [hw5]
      obtain ⟨tb, htb⟩ : ∃ tb, w4.heap.size = tb := ⟨_, rfl⟩
      rw [htb] at HB9
      rw [htb]
      have HTB := Lib.hid (show wr.heap.size ≤ tb by have := HZ4.out; omega)
      clear hw5 htb
      refine (someR_any s4 _ most hmo wo w5 (HWO.out.trans' HX4.out) HR4.out).mono ?_
      rintro e w6 ⟨hx6, r6, x6, rfl, hr6, hbx6⟩
      have hsz6 := someS_ok (s := s4) (most := most)
      have hkp6 := someS_le s4 most
      generalize (someS s4 most).1 = s6 at *
      generalize (someS s4 most).2 = data at *
      obtain ⟨a6, m6, c6, rfl, hb6, hn6⟩ := id hr6
      obtain ⟨a7, m7, c7, rfl, hb7, hn7⟩ := id hbx6
      have hbt := HB9.out.ext hx6 (fun s => s)
      have hbp6 := HBP4.out.ext hx6 (fun s => s)
      have hpt : pb ≠ tb := by have := HBP.out.lt; have := HTB.out; omega
      have hrt : rb ≠ tb := by have := HBR.out.lt; have := HTB.out; omega
      have hpr : pb ≠ rb := by have := HRB.out; omega
      have hc0 := hbt.cell 0; have hc1 := hbt.cell 1; have hf0 := hbt.free 0; have hf1 := hbt.free 1
      have hd0 := hbp6.cell 0; have hd1 := hbp6.cell 1; have hg0 := hbp6.free 0; have hg1 := hbp6.free 1
      simp only [List.getElem?_toArray, List.getElem?_cons_zero, List.getElem?_cons_succ] at hc0 hc1 hd0 hd1
      have hpt' : ¬ pb = tb := hpt
      have htp' : ¬ tb = pb := fun h => hpt h.symm
      -- the two stores
      obtain ⟨w7, hw7⟩ : ∃ w7, putAll w6 tb 0 [.slice a6 m6 c6, .int .i64 s6.2] = w7 := ⟨_, rfl⟩
      have hx7 := putAll_ext tb [.slice a6 m6 c6, .int .i64 s6.2] w6 0
      have hb7a := putAll_all hbt [.slice a6 m6 c6, .int .i64 s6.2] rfl
      rw [hw7] at hx7 hb7a
      have hbp7 := hbp6.ext hx7 (fun s => hpt s)
      obtain ⟨w8, hw8⟩ : ∃ w8, putAll w7 pb 0 [.slice a6 m6 c6, .int .i64 s6.2] = w8 := ⟨_, rfl⟩
      have hx8 := putAll_ext pb [.slice a6 m6 c6, .int .i64 s6.2] w7 0
      have hb8 := putAll_all hbp7 [.slice a6 m6 c6, .int .i64 s6.2] rfl
      rw [hw8] at hx8 hb8
      simp only [putAll, Nat.zero_add] at hw7 hw8
      have hbr8 := ((HBR4.out.ext hx6 (fun s => s)).ext hx7 (fun s => hrt s)).ext hx8 (fun s => hpr s.symm)
      have hxw8 : Ext No w w8 := ((HX4.out.trans' hx6).trans hx7 (fun _ _ s => s) (fun j hj s => by have := HTB.out; have := HX.out.size; omega)).trans hx8 (fun _ _ s => s) (fun j hj s => by have := HPB.out; omega)
      have ho8 : OwnSeq w8 w.heap.size 76 2 (FileW wo) fs (.slice af k cf) := by
        have h6 := HO4.out.ext hx6 (fun _ _ s => s) (fun _ _ h => h)
        have h7 := h6.ext hx7 (fun j hj s => by obtain ⟨cs, hb⟩ := OwnSeq.blk h6 hj; exact Blk.ne_type hb hbt (by decide) s) (fun _ _ h => h)
        exact h7.ext hx8 (fun j hj s => by obtain ⟨cs, hb⟩ := OwnSeq.blk h7 hj; exact Blk.ne_type hb hbp7 (by decide) s) (fun _ _ h => h)
      obtain ⟨_, _, _, e5, hb5', -⟩ := HBX4.out
      cases e5
      have hcv := conv_bytes path a5 m5 c5 w8 ((hb5'.ext0 HWO.out).ext0 hxw8)
      have hq0 := hb7a.cell 0; have hq1 := hb7a.cell 1; have hz0 := hbp7.free 0; have hz1 := hbp7.free 1; have hy0 := hbp7.cell 0; have hy1 := hbp7.cell 1
      simp only [List.getElem?_toArray, List.getElem?_cons_zero, List.getElem?_cons_succ] at hq0 hq1 hy0 hy1
      obtain ⟨w9, hw9⟩ : ∃ w9, w8.alloc (.cells #[.string (strB path), .slice a7 m7 c7] 76) = w9 := ⟨_, rfl⟩
      have hx9 : Ext No w8 w9 := by rw [← hw9]; exact (Ext.refl No w8).alloc _
      have hbn := Blk.new w8 #[.string (strB path), .slice a7 m7 c7] 76
      have hz8 : w8.heap.size = w6.heap.size := by rw [← hw8, ← hw7]; simp
      rw [hw9, hz8] at hbn
      obtain ⟨us, o1, o2⟩ := ho8.ext hx9 (fun _ _ s => s) (fun _ _ h => h)
      rw [HFL.out] at o1
      have HO1 := Lib.hid o1; have HO2 := Lib.hid o2; have HBN := Lib.hid hbn
      have HZ := Lib.hid (show w.heap.size ≤ w9.heap.size from (hxw8.trans' hx9).size)
      have HNUM := Lib.hid (show k + 1 ≤ 9223372036854775807 ∧ (k + 1) * 40 ≤ 140737488355328 by have := HKL.out; have := HL.out; omega)
      have H1C := Lib.hid (show ∀ u ∈ [Value.string (strB path), Value.slice a7 m7 c7], u.oneCell' = true by intro u hu; simp at hu; rcases hu with rfl | rfl <;> rfl)
      have HX9 := Lib.hid (hxw8.trans' hx9); have HB8 := Lib.hid (hb8.ext hx9 (fun s => s)); have HBR8 := Lib.hid (hbr8.ext hx9 (fun s => s))
      have HR6 := Lib.hid hr6; have HBX6 := Lib.hid hbx6; have HS6 := Lib.hid hsz6; have HK6 := Lib.hid hkp6
      subst hw9; subst hw8; subst hw7
      clear hx7 hb7a hx8 hb8 hbr8 hxw8 ho8 hx9 hbn hz8 o1 o2 hb6 hn6 hb7 hn7 hb5' hr6 hbx6 hx6 hbt hbp6 hbp7 hsz6 hkp6
      dsimp only
      go_wp2_with (at_builtin; refine wpList_appS _ [.string (strB path), .slice a7 m7 c7] 2 (by decide) rfl _ _ 23 rfl w.heap.size 76 _ _ file_info Try.underlying23 rfl _ _ us rfl HO1.out _ _ rfl HBN.out rfl H1C.out HNUM.out.1 HNUM.out.2 HZ.out ?_; intro v' w10 hown hg hat; obtain ⟨a10, c10, rfl⟩ := own_form hown)
      go_roundw
      case rel =>
        have hEE : ∀ (a : FileL) us, FileW wo _ a us → FileW wo w10 a us := fun _ _ h => h
        refine ⟨k + 1, s6, fs ++ [(path, data)], a6, m6, c6, a10, c10, by go_num, by omega, rfl, HR6.out, HB8.out.grown hg (own_ne_type HO1.out HB8.out (by decide)), HBR8.out.grown hg (own_ne_type HO1.out HBR8.out (by decide)), ?_, by rw [List.length_append, HFL.out]; rfl, ?_, ?_, ?_, ?_⟩
        · exact OwnSeq.app (by rw [HFL.out]; exact HO1.out) HO2.out rfl ⟨_, rfl, HBX6.out⟩ hEE (by rw [HFL.out]; exact hown)
        · rw [show n - (k + 1) = m' by omega]; exact HSL2.out
        · exact HX9.out.grown hg (fun i hi h => absurd h (Nat.not_lt.2 (World.ownsRow.lt HO1.out i hi).1))
        · intro h6
          have h1 := HS6.out h6
          have h2 := HS4.out h1.2
          have h3 := HLE2.out trivial
          have h2' : s4.1.length + 4 ≤ l0.length := h2.1
          have h1' := h1.1
          omega
        · have h3 := HLE2.out trivial
          omega
      case measure => simp [intOf]; omega
    · have hend : someLoop most (n - k) (l0, e0) fs = ((l0, e0), fs) := by
        by_cases he0 : e0 = 0
        · have : n - k = 0 := by
            have : ¬ k < n := fun h => hgo ⟨h, he0⟩
            omega
          rw [this]; rfl
        · exact someLoop_no he0
      have hsfe := HSL.out
      rw [hend] at hsfe
      subst hsfe
      have HXR := Lib.hid HX.out
      by_cases hlt : k < n
      · have he0 : ¬ e0 = 0 := fun h => hgo ⟨hlt, h⟩
        have hltI : (k : Int) < n := by omega
        have heb : (e0 == 0) = false := by simpa using he0
        go_wp2_with fail
        have h4 := putAll_all HBR.out [.slice ak mk ck, .int .i64 e0] rfl
        have h5 := putAll_ext rb [.slice ak mk ck, .int .i64 e0] wr 0
        simp only [putAll, Nat.zero_add] at h4 h5
        have q0 := h4.cell 0; have q1 := h4.cell 1
        simp only [List.getElem?_toArray, List.getElem?_cons_zero, List.getElem?_cons_succ] at q0 q1
        clear hc0 hc1 hf0 hf1 hd0 hd1 hg0 hg1
        refine bodyPost_ret (v := .tuple #[.agg #[.slice ak mk ck, .int .i64 e0], .slice af k cf]) (by simp [results, Try.results58, go_sem, q0, q1]) rfl ?_
        have hof : OwnSeq _ w.heap.size 76 2 (FileW wo) fs (.slice af k cf) := HO.out.ext h5 (fun j hj s => by obtain ⟨cs, hb⟩ := OwnSeq.blk HO.out hj; exact Blk.ne_type hb HBR.out (by decide) s) (fun _ _ h => h)
        have hxf : Ext No w _ := HX.out.trans h5 (fun _ _ s => s) (fun j hj s => by have := HPB.out; have := HRB.out; omega)
        exact ⟨hxf, _, _, rfl, HRD.out, hof⟩
      · have hkn : k = n := by omega
        subst hkn
        go_wp2_with fail
        have h4 := putAll_all HBR.out [.slice ak mk ck, .int .i64 e0] rfl
        have h5 := putAll_ext rb [.slice ak mk ck, .int .i64 e0] wr 0
        simp only [putAll, Nat.zero_add] at h4 h5
        have q0 := h4.cell 0; have q1 := h4.cell 1
        simp only [List.getElem?_toArray, List.getElem?_cons_zero, List.getElem?_cons_succ] at q0 q1
        clear hc0 hc1 hf0 hf1 hd0 hd1 hg0 hg1
        refine bodyPost_ret (v := .tuple #[.agg #[.slice ak mk ck, .int .i64 e0], .slice af k cf]) (by simp [results, Try.results58, go_sem, q0, q1]) rfl ?_
        have hof : OwnSeq _ w.heap.size 76 2 (FileW wo) fs (.slice af k cf) := HO.out.ext h5 (fun j hj s => by obtain ⟨cs, hb⟩ := OwnSeq.blk HO.out hj; exact Blk.ne_type hb HBR.out (by decide) s) (fun _ _ h => h)
        have hxf : Ext No w _ := HX.out.trans h5 (fun _ _ s => s) (fun j hj s => by have := HPB.out; have := HRB.out; omega)
        exact ⟨hxf, _, _, rfl, HRD.out, hof⟩

end Go.Proofs.Ytchejnnfbinclaa
end
