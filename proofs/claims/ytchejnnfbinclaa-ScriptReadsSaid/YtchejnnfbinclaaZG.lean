/-
  JOINED (7): the contracts of the documents own answer: Reply, Items, Parse.
-/
import Derived.Test.YtchejnnfbinclaaZF
set_option linter.unusedVariables false
set_option linter.unusedSimpArgs false

section
/- The contract of the documents' answer for scripts: Reply. Printed by wip/mkreplyr.py. -/
namespace Go.Proofs.Ytchejnnfbinclaa
open Go.RowKit Go.My

def nameRows (l : List (List UInt8)) : List (List UInt8) := l.map bytesB
theorem nameRows_length (l : List (List UInt8)) : (nameRows l).length = l.length := by simp [nameRows]
theorem nameRows_take (l : List (List UInt8)) (k : Nat) (hk : k < l.length) : nameRows (l.take (k + 1)) = nameRows (l.take k) ++ [bytesB (l.getD k [])] := by
  unfold nameRows
  rw [List.take_add_one, List.map_append, List.getElem?_eq_getElem hk]
  simp [List.getD_eq_getElem?_getD, List.getElem?_eq_getElem hk]

def ReplyV (pb B : Nat) (code : Int) (an : Option Addr) (nn cn : Nat) (af : Option Addr) (nf cf : Nat) (done : Bool) (n : Int) : Nat → Value → World → Prop
  | 0, v, w => v = .pointer (some ⟨pb, 0, none⟩)
  | 1, v, w => v = .int .i64 code
  | 2, v, w => v = .int .u64 ((u64N code : Nat) : Int)
  | 3, v, w => OB w B (numB (u64N code) 2) v
  | 4, v, w => v = .pointer (some ⟨pb, 3, none⟩)
  | 5, v, w => v = .bool done
  | 6, v, w => OB w B (numB (flagN done) 1) v
  | 7, v, w => v = .pointer (some ⟨pb, 4, none⟩)
  | 8, v, w => v = .int .i64 n
  | 9, v, w => v = .int .u64 ((u64N n : Nat) : Int)
  | 10, v, w => OB w B (numB (u64N n) 8) v
  | 11, v, w => v = .pointer (some ⟨pb, 1, none⟩)
  | 12, v, w => v = .slice an nn cn
  | 13, v, w => v = .int .i64 (nn : Nat)
  | 14, v, w => v = .int .u64 (nn : Nat)
  | 15, v, w => OB w B (numB nn 4) v
  | 16, v, w => OwnBs w 5 31 B [numB (u64N code) 2, numB (flagN done) 1, numB (u64N n) 8, numB nn 4] v
  | _, _, _ => True
theorem ReplyV_ext (pb B : Nat) (code : Int) (an : Option Addr) (nn cn : Nat) (af : Option Addr) (nf cf : Nat) (done : Bool) (n : Int) : ∀ i v w w', ReplyV pb B code an nn cn af nf cf done n i v w → Ext No w w' → ReplyV pb B code an nn cn af nf cf done n i v w'
  | 0, _, _, _, h, _ => h
  | 1, _, _, _, h, _ => h
  | 2, _, _, _, h, _ => h
  | 3, _, _, _, h, x => h.ext x
  | 4, _, _, _, h, _ => h
  | 5, _, _, _, h, _ => h
  | 6, _, _, _, h, x => h.ext x
  | 7, _, _, _, h, _ => h
  | 8, _, _, _, h, _ => h
  | 9, _, _, _, h, _ => h
  | 10, _, _, _, h, x => h.ext x
  | 11, _, _, _, h, _ => h
  | 12, _, _, _, h, _ => h
  | 13, _, _, _, h, _ => h
  | 14, _, _, _, h, _ => h
  | 15, _, _, _, h, x => h.ext x
  | 16, _, _, _, h, x => h.ext x (fun _ _ s => s)
  | _ + 17, _, _, _, _, _ => trivial

set_option maxRecDepth 100000 in
set_option maxHeartbeats 20000000 in
theorem replyR29_any (code : Int) (names : List (List UInt8)) (files : List FileL) (done : Bool) (n : Int) (vn vf : Value) (w : World) (hn : IsStrs w names vn) (hf : IsFiles w files vf) (hl : 100 + (joinB names).length + (filesB files).length ≤ 1099511627000) :
    Calls Try.prog 32 #[ansVal ⟨code, names, files, done, n⟩ vn vf] w fun e w' => ∃ x, e = .returned x ∧ OwnB w' 5 w.heap.size (replyB ⟨code, names, files, done, n⟩) x ∧ Ext No w w' := by
  obtain ⟨af, nf, cf, hvf⟩ : ∃ a n c, vf = .slice a n c := by obtain ⟨a, c, h, -⟩ := hf; exact ⟨a, _, c, h⟩
  obtain ⟨an, nn, cn, hvn⟩ : ∃ a n c, vn = .slice a n c := by obtain ⟨a, c, h, -⟩ := hn; exact ⟨a, _, c, h⟩
  subst hvf; subst hvn
  have hnb := (IsRow.len hn).1
  have hnb2 := (IsRow.len hn).2
  have hjl := joinB_len names
  have HFI := Lib.hid hf; have HNS := Lib.hid hn; have HLN := Lib.hid hl; have HNL := Lib.hid hnb
  have HNB := Lib.hid (show nn ≤ 1099511627000 by omega)
  clear hf hn hnb hl hjl
  obtain ⟨fin, hfin⟩ : ∃ fin, replyB ⟨code, names, files, done, n⟩ = fin := ⟨_, rfl⟩
  rw [hfin]
  have HFIN := Lib.hid hfin; clear hfin
  unfold ansVal
  simp only
  obtain ⟨w0, hw0⟩ : ∃ w0, w.alloc (.cells #[.int .i64 code, .slice an nn cn, .slice af nf cf, .bool done, .int .i64 n] 52) = w0 := ⟨_, rfl⟩
  have hb0 := Blk.new w #[.int .i64 code, .slice an nn cn, .slice af nf cf, .bool done, .int .i64 n] 52
  have hx0 : Ext No w w0 := by rw [← hw0]; exact (Ext.refl No w).alloc _
  rw [hw0] at hb0
  obtain ⟨pb, hpb⟩ : ∃ pb, w.heap.size = pb := ⟨_, rfl⟩
  rw [hpb] at hb0
  have HB0 := Lib.hid hb0; have HX0 := Lib.hid hx0; have HPB := Lib.hid hpb; have HW0 := Lib.hid hw0; have HBW := Lib.hid hx0.size
  clear hb0 hx0 hpb hw0
  go_enter Try.func32, Try.ntmps32
  go_wp2_with fail
  rw [HW0.out, HPB.out]

  refine wp_region_head 17 No (ReplyV pb w.heap.size code an nn cn af nf cf done n) (by kernel_rfl) (by kernel_rfl) (by kernel_rfl) (ReplyV_ext pb w.heap.size code an nn cn af nf cf done n) (HeadSteps.cons ?_ (HeadSteps.cons ?_ (HeadSteps.cons ?_ (HeadSteps.cons ?_ (HeadSteps.cons ?_ (HeadSteps.cons ?_ (HeadSteps.cons ?_ (HeadSteps.cons ?_ (HeadSteps.cons ?_ (HeadSteps.cons ?_ (HeadSteps.cons ?_ (HeadSteps.cons ?_ (HeadSteps.cons ?_ (HeadSteps.cons ?_ (HeadSteps.cons ?_ (HeadSteps.cons ?_ (HeadSteps.cons ?_ HeadSteps.nil))))))))))))))))) ?_
  · -- slot 5
    intro ac wk hx hsame hdep K hK
    have d1 : ac.tmps.getD 1 undef = .pointer (some ⟨pb, 0, none⟩) := hsame 1 (by kernel_rfl)
    have e1 := d1
    rw [Array.getD_eq_getD_getElem?] at e1
    clear hsame hdep
    go_simp
    exact hK _ _ (Ext.refl _ wk) rfl
  · -- slot 6
    intro ac wk hx hsame hdep K hK
    have d5 : ac.tmps.getD 5 undef = .pointer (some ⟨pb, 0, none⟩) := hdep 0 (by kernel_rfl)
    have e5 := d5
    rw [Array.getD_eq_getD_getElem?] at e5
    clear hsame hdep
    have hc := (HB0.out.drew.ext hx (fun s => s)).cell 0
    simp only [List.getElem?_toArray, List.getElem?_cons_zero, List.getElem?_cons_succ] at hc
    go_simp
    exact hK _ _ (Ext.refl _ wk) rfl
  · -- slot 7
    intro ac wk hx hsame hdep K hK
    have d6 : ac.tmps.getD 6 undef = .int .i64 code := hdep 1 (by kernel_rfl)
    have e6 := d6
    rw [Array.getD_eq_getD_getElem?] at e6
    clear hsame hdep
    go_simp
    exact hK _ _ (Ext.refl _ wk) (show (_ : Value) = _ by first | rfl | (rw [u64N_wrap]) | (rw [u64N_mod]))
  · -- slot 8
    intro ac wk hx hsame hdep K hK
    have d7 : ac.tmps.getD 7 undef = .int .u64 ((u64N code : Nat) : Int) := hdep 2 (by kernel_rfl)
    have e7 := d7
    rw [Array.getD_eq_getD_getElem?] at e7
    clear hsame hdep
    go_simp
    refine (numR_any (u64N code) 2 (u64N_lt code) (by decide) (by decide) wk).mono ?_
    rintro e w' ⟨y, rfl, hy, hx'⟩
    exact hK _ _ hx' (OB.of hy (Nat.le_trans HBW.out hx.size))
  · -- slot 9
    intro ac wk hx hsame hdep K hK
    have d1 : ac.tmps.getD 1 undef = .pointer (some ⟨pb, 0, none⟩) := hsame 1 (by kernel_rfl)
    have e1 := d1
    rw [Array.getD_eq_getD_getElem?] at e1
    clear hsame hdep
    go_simp
    exact hK _ _ (Ext.refl _ wk) rfl
  · -- slot 10
    intro ac wk hx hsame hdep K hK
    have d9 : ac.tmps.getD 9 undef = .pointer (some ⟨pb, 3, none⟩) := hdep 4 (by kernel_rfl)
    have e9 := d9
    rw [Array.getD_eq_getD_getElem?] at e9
    clear hsame hdep
    have hc := (HB0.out.drew.ext hx (fun s => s)).cell 3
    simp only [List.getElem?_toArray, List.getElem?_cons_zero, List.getElem?_cons_succ] at hc
    go_simp
    exact hK _ _ (Ext.refl _ wk) rfl
  · -- slot 11
    intro ac wk hx hsame hdep K hK
    have d10 : ac.tmps.getD 10 undef = .bool done := hdep 5 (by kernel_rfl)
    have e10 := d10
    rw [Array.getD_eq_getD_getElem?] at e10
    clear hsame hdep
    go_simp
    refine (flagR_any done wk).mono ?_
    rintro e w' ⟨y, rfl, hy, hx'⟩
    exact hK _ _ hx' (OB.of hy (Nat.le_trans HBW.out hx.size))
  · -- slot 12
    intro ac wk hx hsame hdep K hK
    have d1 : ac.tmps.getD 1 undef = .pointer (some ⟨pb, 0, none⟩) := hsame 1 (by kernel_rfl)
    have e1 := d1
    rw [Array.getD_eq_getD_getElem?] at e1
    clear hsame hdep
    go_simp
    exact hK _ _ (Ext.refl _ wk) rfl
  · -- slot 13
    intro ac wk hx hsame hdep K hK
    have d12 : ac.tmps.getD 12 undef = .pointer (some ⟨pb, 4, none⟩) := hdep 7 (by kernel_rfl)
    have e12 := d12
    rw [Array.getD_eq_getD_getElem?] at e12
    clear hsame hdep
    have hc := (HB0.out.drew.ext hx (fun s => s)).cell 4
    simp only [List.getElem?_toArray, List.getElem?_cons_zero, List.getElem?_cons_succ] at hc
    go_simp
    exact hK _ _ (Ext.refl _ wk) rfl
  · -- slot 14
    intro ac wk hx hsame hdep K hK
    have d13 : ac.tmps.getD 13 undef = .int .i64 n := hdep 8 (by kernel_rfl)
    have e13 := d13
    rw [Array.getD_eq_getD_getElem?] at e13
    clear hsame hdep
    go_simp
    exact hK _ _ (Ext.refl _ wk) (show (_ : Value) = _ by first | rfl | (rw [u64N_wrap]) | (rw [u64N_mod]))
  · -- slot 15
    intro ac wk hx hsame hdep K hK
    have d14 : ac.tmps.getD 14 undef = .int .u64 ((u64N n : Nat) : Int) := hdep 9 (by kernel_rfl)
    have e14 := d14
    rw [Array.getD_eq_getD_getElem?] at e14
    clear hsame hdep
    go_simp
    refine (numR_any (u64N n) 8 (u64N_lt n) (by decide) (by decide) wk).mono ?_
    rintro e w' ⟨y, rfl, hy, hx'⟩
    exact hK _ _ hx' (OB.of hy (Nat.le_trans HBW.out hx.size))
  · -- slot 16
    intro ac wk hx hsame hdep K hK
    have d1 : ac.tmps.getD 1 undef = .pointer (some ⟨pb, 0, none⟩) := hsame 1 (by kernel_rfl)
    have e1 := d1
    rw [Array.getD_eq_getD_getElem?] at e1
    clear hsame hdep
    go_simp
    exact hK _ _ (Ext.refl _ wk) rfl
  · -- slot 17
    intro ac wk hx hsame hdep K hK
    have d16 : ac.tmps.getD 16 undef = .pointer (some ⟨pb, 1, none⟩) := hdep 11 (by kernel_rfl)
    have e16 := d16
    rw [Array.getD_eq_getD_getElem?] at e16
    clear hsame hdep
    have hc := (HB0.out.drew.ext hx (fun s => s)).cell 1
    simp only [List.getElem?_toArray, List.getElem?_cons_zero, List.getElem?_cons_succ] at hc
    go_simp
    exact hK _ _ (Ext.refl _ wk) rfl
  · -- slot 18
    intro ac wk hx hsame hdep K hK
    have d17 : ac.tmps.getD 17 undef = .slice an nn cn := hdep 12 (by kernel_rfl)
    have e17 := d17
    rw [Array.getD_eq_getD_getElem?] at e17
    clear hsame hdep
    go_simp
    exact hK _ _ (Ext.refl _ wk) rfl
  · -- slot 19
    intro ac wk hx hsame hdep K hK
    have d18 : ac.tmps.getD 18 undef = .int .i64 (nn : Nat) := hdep 13 (by kernel_rfl)
    have e18 := d18
    rw [Array.getD_eq_getD_getElem?] at e18
    clear hsame hdep
    have hnb := HNB.out
    go_simp
    exact hK _ _ (Ext.refl _ wk) (show (_ : Value) = _ by first | rfl | (rw [IntWalk.u64_in _ (by omega)]))
  · -- slot 20
    intro ac wk hx hsame hdep K hK
    have d19 : ac.tmps.getD 19 undef = .int .u64 (nn : Nat) := hdep 14 (by kernel_rfl)
    have e19 := d19
    rw [Array.getD_eq_getD_getElem?] at e19
    clear hsame hdep
    go_simp
    refine (numR_any nn 4 (by have := HNB.out; omega) (by decide) (by decide) wk).mono ?_
    rintro e w' ⟨y, rfl, hy, hx'⟩
    exact hK _ _ hx' (OB.of hy (Nat.le_trans HBW.out hx.size))
  · -- slot 21
    intro ac wk hx hsame hdep K hK
    have p8 : OB wk w.heap.size (numB (u64N code) 2) (ac.tmps.getD 8 undef) := hdep 3 (by kernel_rfl)
    obtain ⟨a8, n8, c8, d8, o8⟩ := p8
    have e8 := d8
    rw [Array.getD_eq_getD_getElem?] at e8
    have p11 : OB wk w.heap.size (numB (flagN done) 1) (ac.tmps.getD 11 undef) := hdep 6 (by kernel_rfl)
    obtain ⟨a11, n11, c11, d11, o11⟩ := p11
    have e11 := d11
    rw [Array.getD_eq_getD_getElem?] at e11
    have p15 : OB wk w.heap.size (numB (u64N n) 8) (ac.tmps.getD 15 undef) := hdep 10 (by kernel_rfl)
    obtain ⟨a15, n15, c15, d15, o15⟩ := p15
    have e15 := d15
    rw [Array.getD_eq_getD_getElem?] at e15
    have p20 : OB wk w.heap.size (numB nn 4) (ac.tmps.getD 20 undef) := hdep 15 (by kernel_rfl)
    obtain ⟨a20, n20, c20, d20, o20⟩ := p20
    have e20 := d20
    rw [Array.getD_eq_getD_getElem?] at e20
    clear hsame hdep
    go_simp
    rw [d8] at o8
    rw [d11] at o11
    rw [d15] at o15
    rw [d20] at o20
    refine hK _ _ ((Ext.refl No wk).alloc _) (OwnBs.build (vs := [.slice a8 n8 c8, .slice a11 n11 c11, .slice a15 n15 c15, .slice a20 n20 c20]) (n := 4) (Nat.le_trans HBW.out hx.size) rfl rfl (by decide) (fun i hi => ?_))
    match i, hi with
    | 0, _ => exact ⟨_, _, _, rfl, o8⟩
    | 1, _ => exact ⟨_, _, _, rfl, o11⟩
    | 2, _ => exact ⟨_, _, _, rfl, o15⟩
    | 3, _ => exact ⟨_, _, _, rfl, o20⟩
  · intro ac wk hx hdf hsz hsame hvals
    have f0 : ac.tmps.getD 0 undef = .agg #[.int .i64 code, .slice an nn cn, .slice af nf cf, .bool done, .int .i64 n] := hsame 0 (by kernel_rfl)
    have f1 : ac.tmps.getD 1 undef = .pointer (some ⟨pb, 0, none⟩) := hsame 1 (by kernel_rfl)
    have f2 : ac.tmps.getD 2 undef = .slice none 0 0 := hsame 2 (by kernel_rfl)
    obtain ⟨u3, f3⟩ : ∃ u, ac.tmps.getD 3 undef = u := ⟨_, rfl⟩
    obtain ⟨u4, f4⟩ : ∃ u, ac.tmps.getD 4 undef = u := ⟨_, rfl⟩
    have f5 : ac.tmps.getD 5 undef = .pointer (some ⟨pb, 0, none⟩) := hvals 0 (by decide)
    have f6 : ac.tmps.getD 6 undef = .int .i64 code := hvals 1 (by decide)
    have f7 : ac.tmps.getD 7 undef = .int .u64 ((u64N code : Nat) : Int) := hvals 2 (by decide)
    obtain ⟨u8, f8⟩ : ∃ u, ac.tmps.getD 8 undef = u := ⟨_, rfl⟩
    have f9 : ac.tmps.getD 9 undef = .pointer (some ⟨pb, 3, none⟩) := hvals 4 (by decide)
    have f10 : ac.tmps.getD 10 undef = .bool done := hvals 5 (by decide)
    obtain ⟨u11, f11⟩ : ∃ u, ac.tmps.getD 11 undef = u := ⟨_, rfl⟩
    have f12 : ac.tmps.getD 12 undef = .pointer (some ⟨pb, 4, none⟩) := hvals 7 (by decide)
    have f13 : ac.tmps.getD 13 undef = .int .i64 n := hvals 8 (by decide)
    have f14 : ac.tmps.getD 14 undef = .int .u64 ((u64N n : Nat) : Int) := hvals 9 (by decide)
    obtain ⟨u15, f15⟩ : ∃ u, ac.tmps.getD 15 undef = u := ⟨_, rfl⟩
    have f16 : ac.tmps.getD 16 undef = .pointer (some ⟨pb, 1, none⟩) := hvals 11 (by decide)
    have f17 : ac.tmps.getD 17 undef = .slice an nn cn := hvals 12 (by decide)
    have f18 : ac.tmps.getD 18 undef = .int .i64 (nn : Nat) := hvals 13 (by decide)
    have f19 : ac.tmps.getD 19 undef = .int .u64 (nn : Nat) := hvals 14 (by decide)
    obtain ⟨u20, f20⟩ : ∃ u, ac.tmps.getD 20 undef = u := ⟨_, rfl⟩
    have p21 : OwnBs wk 5 31 w.heap.size [numB (u64N code) 2, numB (flagN done) 1, numB (u64N n) 8, numB nn 4] (ac.tmps.getD 21 undef) := hvals 16 (by decide)
    obtain ⟨a21, n21, c21, f21, o21⟩ : ∃ aa mm cc, (ac.tmps.getD 21 undef) = .slice aa mm cc ∧ OwnBs wk 5 31 w.heap.size [numB (u64N code) 2, numB (flagN done) 1, numB (u64N n) 8, numB nn 4] (ac.tmps.getD 21 undef) := by obtain ⟨xs, h, -⟩ := id p21; obtain ⟨a, c, e⟩ := own_form h; exact ⟨a, _, c, e, p21⟩
    obtain ⟨u22, f22⟩ : ∃ u, ac.tmps.getD 22 undef = u := ⟨_, rfl⟩
    obtain ⟨u23, f23⟩ : ∃ u, ac.tmps.getD 23 undef = u := ⟨_, rfl⟩
    obtain ⟨u24, f24⟩ : ∃ u, ac.tmps.getD 24 undef = u := ⟨_, rfl⟩
    obtain ⟨u25, f25⟩ : ∃ u, ac.tmps.getD 25 undef = u := ⟨_, rfl⟩
    obtain ⟨u26, f26⟩ : ∃ u, ac.tmps.getD 26 undef = u := ⟨_, rfl⟩
    obtain ⟨u27, f27⟩ : ∃ u, ac.tmps.getD 27 undef = u := ⟨_, rfl⟩
    obtain ⟨u28, f28⟩ : ∃ u, ac.tmps.getD 28 undef = u := ⟨_, rfl⟩
    obtain ⟨u29, f29⟩ : ∃ u, ac.tmps.getD 29 undef = u := ⟨_, rfl⟩
    obtain ⟨u30, f30⟩ : ∃ u, ac.tmps.getD 30 undef = u := ⟨_, rfl⟩
    obtain ⟨u31, f31⟩ : ∃ u, ac.tmps.getD 31 undef = u := ⟨_, rfl⟩
    obtain ⟨u32, f32⟩ : ∃ u, ac.tmps.getD 32 undef = u := ⟨_, rfl⟩
    obtain ⟨u33, f33⟩ : ∃ u, ac.tmps.getD 33 undef = u := ⟨_, rfl⟩
    obtain ⟨u34, f34⟩ : ∃ u, ac.tmps.getD 34 undef = u := ⟨_, rfl⟩
    obtain ⟨u35, f35⟩ : ∃ u, ac.tmps.getD 35 undef = u := ⟨_, rfl⟩
    obtain ⟨u36, f36⟩ : ∃ u, ac.tmps.getD 36 undef = u := ⟨_, rfl⟩
    obtain ⟨u37, f37⟩ : ∃ u, ac.tmps.getD 37 undef = u := ⟨_, rfl⟩
    obtain ⟨u38, f38⟩ : ∃ u, ac.tmps.getD 38 undef = u := ⟨_, rfl⟩
    obtain ⟨u39, f39⟩ : ∃ u, ac.tmps.getD 39 undef = u := ⟨_, rfl⟩
    obtain ⟨u40, f40⟩ : ∃ u, ac.tmps.getD 40 undef = u := ⟨_, rfl⟩
    obtain ⟨u41, f41⟩ : ∃ u, ac.tmps.getD 41 undef = u := ⟨_, rfl⟩
    obtain ⟨u42, f42⟩ : ∃ u, ac.tmps.getD 42 undef = u := ⟨_, rfl⟩
    obtain ⟨u43, f43⟩ : ∃ u, ac.tmps.getD 43 undef = u := ⟨_, rfl⟩
    obtain ⟨u44, f44⟩ : ∃ u, ac.tmps.getD 44 undef = u := ⟨_, rfl⟩
    obtain ⟨u45, f45⟩ : ∃ u, ac.tmps.getD 45 undef = u := ⟨_, rfl⟩
    have hlit : ac = ⟨#[.agg #[.int .i64 code, .slice an nn cn, .slice af nf cf, .bool done, .int .i64 n], .pointer (some ⟨pb, 0, none⟩), .slice none 0 0, u3, u4, .pointer (some ⟨pb, 0, none⟩), .int .i64 code, .int .u64 ((u64N code : Nat) : Int), u8, .pointer (some ⟨pb, 3, none⟩), .bool done, u11, .pointer (some ⟨pb, 4, none⟩), .int .i64 n, .int .u64 ((u64N n : Nat) : Int), u15, .pointer (some ⟨pb, 1, none⟩), .slice an nn cn, .int .i64 (nn : Nat), .int .u64 (nn : Nat), u20, .slice a21 n21 c21, u22, u23, u24, u25, u26, u27, u28, u29, u30, u31, u32, u33, u34, u35, u36, u37, u38, u39, u40, u41, u42, u43, u44, u45], []⟩ := by
      refine (act_lit hsz hdf).trans ?_
      rw [show List.range _ = [0, 1, 2, 3, 4, 5, 6, 7, 8, 9, 10, 11, 12, 13, 14, 15, 16, 17, 18, 19, 20, 21, 22, 23, 24, 25, 26, 27, 28, 29, 30, 31, 32, 33, 34, 35, 36, 37, 38, 39, 40, 41, 42, 43, 44, 45] from rfl]
      simp only [List.map_cons, List.map_nil, f0, f1, f2, f3, f4, f5, f6, f7, f8, f9, f10, f11, f12, f13, f14, f15, f16, f17, f18, f19, f20, f21, f22, f23, f24, f25, f26, f27, f28, f29, f30, f31, f32, f33, f34, f35, f36, f37, f38, f39, f40, f41, f42, f43, f44, f45]
    clear hvals hsame hdf hsz f0 f1 f2 f3 f4 f5 f6 f7 f8 f9 f10 f11 f12 f13 f14 f15 f16 f17 f18 f19 f20 f21 f22 f23 f24 f25 f26 f27 f28 f29 f30 f31 f32 f33 f34 f35 f36 f37 f38 f39 f40 f41 f42 f43 f44 f45
    subst hlit
    simp only [List.drop_succ_cons, List.drop_zero]
    have HX1 := Lib.hid (HX0.out.trans' hx); have HBK := Lib.hid (HB0.out.ext hx (fun s => s))
    have HO21 := Lib.hid o21
    clear o21 p21 hx
    go_wp2_with fail
    generalize hRL : [numB (u64N code) 2, numB (flagN done) 1, numB (u64N n) 8, numB nn 4] = rl at HO21
    have HRL := Lib.hid hRL
    have hrl : rl.length = 4 := by rw [← hRL]; rfl
    have HRLN := Lib.hid hrl
    have hflat : rl.flatten.length = 15 := by rw [← hRL]; simp only [List.flatten_cons, List.flatten_nil, List.length_append, numB_length, bytesB_length, List.length_nil]; try omega
    have HFLT := Lib.hid hflat
    clear hRL hrl hflat
    go_loopw [3, 4] (fun o i wr => ∃ (k m : Nat) (ax : Option Addr) (cx : Nat), o = .slice ax m cx ∧ i = .int .i64 k ∧ k ≤ nn ∧ m = 4 + k ∧ OwnBs wr 5 31 w.heap.size (rl ++ nameRows (names.take k)) (.slice ax m cx) ∧ Ext No w wr ∧ Blk wr pb #[.int .i64 code, .slice an nn cn, .slice af nf cf, .bool done, .int .i64 n] 52) (fun _ i _ => nn - (intOf i).toNat)
    case atStart =>
      have hn21 : n21 = 4 := by obtain ⟨xs, h, -⟩ := HO21.out; obtain ⟨a, c, e⟩ := own_form h; rw [HRLN.out] at e; exact (Value.slice.inj e).2.1
      exact ⟨0, n21, a21, c21, rfl, rfl, by omega, by omega, by simpa [nameRows] using HO21.out, HX1.out, HBK.out⟩
    case round =>
      obtain ⟨k, m, ax, cx, rfl, rfl, hk, hm, ho, hx, hbk⟩ := hrel
      have HX := Lib.hid hx; have HBX := Lib.hid hbk; have HM := Lib.hid hm
      have hc1 := hbk.cell 1; have hc2 := hbk.cell 2
      simp only [List.getElem?_toArray, List.getElem?_cons_zero, List.getElem?_cons_succ] at hc1 hc2
      obtain ⟨xs, o1, o2⟩ := ho
      have hlen1 : (rl ++ nameRows (names.take k)).length = m := by rw [List.length_append, HRLN.out, HM.out, nameRows_length, List.length_take]; have := HNL.out; omega
      rw [hlen1] at o1
      have HO1 := Lib.hid o1; have HO2 := Lib.hid o2; have HLEN := Lib.hid hlen1
      clear hx hbk hm o1 o2 hlen1
      by_cases hlt : k < nn
      · have hltI : (k : Int) < nn := by omega
        obtain ⟨b, off, rfl, hcb⟩ := IsRow.get (HNS.out.ext0 HX.out) k hlt
        unfold strV at hcb
        have hle := joinB_take_le names (k + 1)
        rw [joinB_take names k (by rw [← HNL.out]; exact hlt), List.length_append, bytesB_length] at hle
        have hbt := nameRows_take names k (by rw [← HNL.out]; exact hlt)
        generalize names.getD k [] = t at *
        obtain ⟨gc, w1, hcv, hx1c, he1c, hz1c⟩ := conv_str t (by have := HLN.out; omega) wr
        have HXC := Lib.hid hx1c; have HEC := Lib.hid he1c; have HLT' := Lib.hid (show t.length ≤ 1099511627000 by have := HLN.out; omega); clear hx1c he1c hz1c hle
        generalize htl : t.length = tl at *
        have HBT := Lib.hid hbt; clear hbt
        have HNUM := Lib.hid (show m + 1 ≤ 9223372036854775807 ∧ (m + 1) * 24 ≤ 140737488355328 by have := HM.out; have := HNB.out; omega)
        go_wp2_with fail
        clear hcv
        refine (bytesR_any t _ tl gc w1 HXC.out (NilOk.some _ _ _) (by rw [htl]; exact HLT'.out)).mono ?_
        rintro e w2 ⟨y, rfl, hy2, hx2⟩
        have hx2 := HEC.out.trans' hx2
        obtain ⟨a2, c2, hyf⟩ := own_form hy2
        obtain ⟨n2, hn2⟩ : ∃ n2, n2 = (bytesB t).length := ⟨_, rfl⟩
        rw [← hn2] at hyf
        subst hyf
        have hob := OB.of hy2 (Nat.le_trans HX.out.size HEC.out.size)
        have hxa : Ext No w2 (w2.alloc (.cells #[.slice a2 n2 c2] 31)) := (Ext.refl No w2).alloc _
        have HOW := Lib.hid (own_ext HO1.out (hx2.trans' hxa) (fun _ _ s => s)); have HOB := Lib.hid (hob.ext hxa); have HX2 := Lib.hid (HX.out.trans' (hx2.trans' hxa)); have HBX2 := Lib.hid (HBX.out.ext (hx2.trans' hxa) (fun s => s)); have HR2 := Lib.hid (hx2.trans' hxa); have HZ := Lib.hid (HX.out.trans' (hx2.trans' hxa)).size
        clear hy2 hx2 hob hxa hc1 hc2 hcb hn2
        dsimp only
        go_wp2_with (at_builtin; refine wpList_app1 _ _ rfl _ _ 59 rfl w.heap.size 31 _ _ rows_info Try.underlying59 rfl _ m xs rfl HOW.out _ rfl (cell_new _ _ _ rfl) rfl HNUM.out.1 HNUM.out.2 HZ.out ?_; intro v' w7 hown7 hg7; obtain ⟨a7, c7, rfl⟩ := own_form hown7; have HOW7 := Lib.hid hown7; have HG7 := Lib.hid hg7; clear hown7 hg7)
        have hobs : OwnBs w7 5 31 w.heap.size ((rl ++ nameRows (names.take k)) ++ [bytesB t]) (.slice a7 (m + 1) c7) :=
          OwnBs.appL (ys := [.slice a2 n2 c2]) (by decide) (by rw [HLEN.out]; exact HOW.out) (fun i hi => (HO2.out i hi).ext HR2.out (fun _ _ s => s)) (fun i hi => by
            have : i = 0 := by simp at hi; exact hi
            subst this
            obtain ⟨a, n, c, -, h⟩ := HOB.out; exact h) (by rw [HLEN.out]; exact HOW7.out) HG7.out
        rw [List.append_assoc, ← HBT.out] at hobs
        have HOBS := Lib.hid hobs
        have HE7 := Lib.hid (HX2.out.grown HG7.out (fun i hi h => absurd h (Nat.not_lt.2 (World.ownsRow.lt HO1.out i hi).1)))
        have HBX7 := Lib.hid (HBX2.out.grown HG7.out (own_ne_type HOW.out HBX2.out (by decide)))
        clear hobs
        go_roundw
        case rel => exact ⟨k + 1, m + 1, a7, c7, rfl, by go_num, by omega, by have := HM.out; omega, HOBS.out, HE7.out, HBX7.out⟩
        case measure => simp [intOf]; omega
      · have hkn : k = nn := by omega
        subst hkn
        go_wp2_with fail
        refine (filesR_any files _ wr (HFI.out.ext0 HX.out) (by have := HLN.out; omega)).mono ?_
        rintro e w2 ⟨y, rfl, hy2, hx2⟩
        obtain ⟨a2, c2, hyf⟩ := own_form hy2
        obtain ⟨n2, hn2⟩ : ∃ n2, n2 = (filesB files).length := ⟨_, rfl⟩
        rw [← hn2] at hyf
        subst hyf
        have hob := OB.of hy2 HX.out.size
        have hxa : Ext No w2 (w2.alloc (.cells #[.slice a2 n2 c2] 31)) := (Ext.refl No w2).alloc _
        have HOW := Lib.hid (own_ext HO1.out (hx2.trans' hxa) (fun _ _ s => s)); have HOB := Lib.hid (hob.ext hxa); have HX2 := Lib.hid (HX.out.trans' (hx2.trans' hxa)); have HR2 := Lib.hid (hx2.trans' hxa); have HZ := Lib.hid (HX.out.trans' (hx2.trans' hxa)).size
        have HNUM := Lib.hid (show m + 1 ≤ 9223372036854775807 ∧ (m + 1) * 24 ≤ 140737488355328 by have := HM.out; have := HNB.out; omega)
        clear hy2 hx2 hob hxa hc1 hc2 hn2
        dsimp only
        go_wp2_with (at_builtin; refine wpList_app1 _ _ rfl _ _ 59 rfl w.heap.size 31 _ _ rows_info Try.underlying59 rfl _ m xs rfl HOW.out _ rfl (cell_new _ _ _ rfl) rfl HNUM.out.1 HNUM.out.2 HZ.out ?_; intro v' w7 hown7 hg7; obtain ⟨a7, c7, rfl⟩ := own_form hown7; have HOW7 := Lib.hid hown7; have HG7 := Lib.hid hg7; clear hown7 hg7)
        have hobs : OwnBs w7 5 31 w.heap.size ((rl ++ nameRows (names.take k)) ++ [filesB files]) (.slice a7 (m + 1) c7) :=
          OwnBs.appL (ys := [.slice a2 n2 c2]) (by decide) (by rw [HLEN.out]; exact HOW.out) (fun i hi => (HO2.out i hi).ext HR2.out (fun _ _ s => s)) (fun i hi => by
            have : i = 0 := by simp at hi; exact hi
            subst this
            obtain ⟨a, n, c, -, h⟩ := HOB.out; exact h) (by rw [HLEN.out]; exact HOW7.out) HG7.out
        rw [List.take_of_length_le (by rw [HNL.out]; exact Nat.le_refl _)] at hobs
        have HE7 := Lib.hid (HX2.out.grown HG7.out (fun i hi h => absurd h (Nat.not_lt.2 (World.ownsRow.lt HO1.out i hi).1)))
        have hfl : (rl ++ nameRows names ++ [filesB files]).flatten = fin := by
          rw [← HFIN.out, ← HRL.out]
          unfold replyB joinB nameRows
          simp only [List.flatten_append, List.flatten_cons, List.flatten_nil, List.append_nil, List.append_assoc, HNL.out]
        have hfll : fin.length ≤ 1099511627776 := by
          rw [← HFIN.out]; unfold replyB; simp only [List.length_append, numB_length]; have := HLN.out; omega
        refine (join_any _ _ w7 hobs.rowsN (by rw [hfl]; exact hfll)).mono ?_
        rintro e w8 ⟨x, rfl, hox, hx8⟩
        rw [hfl] at hox
        have HOX := Lib.hid (own_le hox HE7.out.size); have HX8 := Lib.hid (HE7.out.trans' hx8); clear hox hx8 hobs hfl hfll
        dsimp only
        go_wp2_with fail
        go_ret
        exact ⟨x, rfl, HOX.out, HX8.out⟩

end Go.Proofs.Ytchejnnfbinclaa
end

section
/- The documents' reading, told by the program's; the contract of the documents' answer for scripts: Items. -/
namespace Go.Proofs.Ytchejnnfbinclaa
open Go.RowKit Go.My

theorem rawS_some {l : List UInt8} {n : Nat} (h : n ≤ l.length) : rawS (l, 0) n = ((l.drop n, 0), l.take n) := by
  unfold rawS; rw [if_neg (by simp), if_neg (by simpa using h)]
theorem rawS_none {l : List UInt8} {n : Nat} (h : l.length < n) : rawS (l, 0) n = ((l, 20), []) := by
  unfold rawS; rw [if_neg (by simp), if_pos (by simpa using h)]
theorem getS_some {l r : List UInt8} {k n : Nat} (h : numP k l = some (n, r)) : getS (l, 0) k = ((r, 0), n) := by
  unfold numP at h
  by_cases hk : k ≤ l.length
  · rw [if_pos hk] at h
    simp only [Option.some.injEq, Prod.mk.injEq] at h
    unfold getS; rw [rawS_some hk, ← h.1, ← h.2]
  · rw [if_neg hk] at h; cases h
theorem getS_none {l : List UInt8} {k : Nat} (h : numP k l = none) : (getS (l, 0) k).1.2 ≠ 0 := by
  unfold numP at h
  by_cases hk : k ≤ l.length
  · rw [if_pos hk] at h; cases h
  · unfold getS; rw [rawS_none (by omega)]; show (20 : Int) ≠ 0; decide
theorem getS_bad {s : RSt} {k : Nat} (h : s.2 ≠ 0) : (getS s k).1.2 ≠ 0 := by
  unfold getS rawS; rw [if_pos h]; exact h
theorem rawS_bad {s : RSt} {k : Nat} (h : s.2 ≠ 0) : (rawS s k).1.2 ≠ 0 := by
  unfold rawS; rw [if_pos h]; exact h
theorem someS_bad {s : RSt} {k : Nat} (h : s.2 ≠ 0) : (someS s k).1.2 ≠ 0 := by
  unfold someS; rw [if_pos (getS_bad h)]; exact getS_bad h
theorem someS_some {l x r : List UInt8} {most : Nat} (h : bytesP most l = some (x, r)) : someS (l, 0) most = ((r, 0), x) := by
  unfold bytesP at h
  cases hn : numP 4 l with
  | none => rw [hn] at h; cases h
  | some nr =>
    obtain ⟨n, r0⟩ := nr
    rw [hn] at h
    dsimp only at h
    split at h
    · rename_i hc
      simp only [Option.some.injEq, Prod.mk.injEq] at h
      unfold someS
      rw [getS_some hn]
      rw [if_neg (by simp), if_neg (by dsimp only; omega), if_neg (by dsimp only; omega)]
      dsimp only
      rw [rawS_some hc.2, h.1, h.2]
    · cases h
theorem someS_none {l : List UInt8} {most : Nat} (h : bytesP most l = none) : (someS (l, 0) most).1.2 ≠ 0 := by
  unfold bytesP at h
  cases hn : numP 4 l with
  | none => unfold someS; rw [if_pos (getS_none hn)]; exact getS_none hn
  | some nr =>
    obtain ⟨n, r0⟩ := nr
    rw [hn] at h
    dsimp only at h
    split at h
    · cases h
    · rename_i hc
      unfold someS
      rw [getS_some hn, if_neg (by simp)]
      dsimp only
      split
      · show (2 : Int) ≠ 0; decide
      · split
        · show (20 : Int) ≠ 0; decide
        · rename_i h1 h2; exact absurd ⟨by omega, by omega⟩ hc

/-- rows that read out of what came in, in a row of the call's own -/
def RowsW (wo w : World) (B : Nat) (ls : List (List UInt8)) (v : Value) : Prop := OwnSeq w B 31 1 (fun _ l us => ∃ x, us = [x] ∧ IsBN wo l x) ls v
theorem RowsW.rows {wo w : World} {B : Nat} {ls : List (List UInt8)} {v : Value} (h : RowsW wo w B ls v) (hx : Ext No wo w) : IsRows w ls v := by
  obtain ⟨us, h1, h2⟩ := h
  refine ⟨_, IsRow.of_own h1, fun i hi => ?_⟩
  obtain ⟨x, e, a, n, c, rfl, hb, -⟩ := h2 i _ (List.getElem?_eq_getElem hi)
  have hg : us.getD i undef = .slice a n c := by
    have h3 := elC_get us 1 i 0 (by decide)
    rw [e, Nat.mul_one, Nat.add_zero] at h3
    simp only [List.getElem?_cons_zero] at h3
    rw [List.getD_eq_getElem?_getD, ← h3]; rfl
  have e2 : ls.getD i [] = ls[i] := by simp [List.getD_eq_getElem?_getD, List.getElem?_eq_getElem hi]
  show IsBytes w (ls.getD i []) (us.getD i undef)
  rw [hg, e2]
  exact hb.ext0 hx

def ItemsTold (l : List UInt8) (w : World) (e : Ending) (w' : World) : Prop :=
  Ext No w w' ∧ ∃ x t, e = .returned (.tuple #[x, .bool t]) ∧ RowsW w w' w.heap.size (bodies (itemsL l)) x ∧ (t = true ↔ ∀ p ∈ itemsL l, p.2 = true)
set_option maxRecDepth 100000 in
set_option maxHeartbeats 8000000 in
theorem itemsR_any (l : List UInt8) (a : Option Addr) (m c : Nat) (w : World) (hv : IsBytes w l (.slice a m c)) (hnl : NilOk (.slice a m c)) (hl : l.length ≤ 1099511620000) :
    Calls Try.prog 26 #[.slice a m c] w (ItemsTold l w) := by
  have HV := Lib.hid (And.intro hv hnl); have HL := Lib.hid hl
  obtain ⟨w0, hw0⟩ : ∃ w0, w.alloc (.cells #[] 31) = w0 := ⟨_, rfl⟩
  have hx0 : Ext No w w0 := by rw [← hw0]; exact (Ext.refl No w).alloc _
  have ho0 : RowsW w w0 w.heap.size [] (.slice (some ⟨w.heap.size, 0, none⟩) 0 0) := ⟨[], by rw [← hw0]; exact World.ownsRow_made w #[] 0 (Nat.le_refl _) (by decide) rfl, fun i x hx => by simp at hx⟩
  have HX0 := Lib.hid hx0; have HO0 := Lib.hid ho0; have HW0 := Lib.hid hw0
  clear hv hnl hl hx0 ho0 hw0
  go_enter Try.func26, Try.ntmps26
  go_wp2_with fail
  rw [HW0.out]
  go_loopw [0, 4] (fun v o wr => ∃ (k : Nat) (r : List UInt8) (ar : Option Addr) (mr cr : Nat) (ao : Option Addr) (co : Nat), v = .slice ar mr cr ∧ o = .slice ao k co ∧ IsBytes w r (.slice ar mr cr) ∧ NilOk (.slice ar mr cr) ∧ k ≤ (itemsL l).length ∧ itemsL r = (itemsL l).drop k ∧ r.length + k ≤ l.length ∧
    RowsW w wr w.heap.size (bodies ((itemsL l).take k)) (.slice ao k co) ∧ Ext No w wr ∧ ∀ p ∈ (itemsL l).take k, p.2 = true) (fun v _ _ => lenOf v)
  case atStart => exact ⟨0, l, a, m, c, _, 0, rfl, rfl, HV.out.1, HV.out.2, by omega, by simp, by omega, by simpa [bodies] using HO0.out, HX0.out, by simp⟩
  case round =>
    obtain ⟨k, r, ar, mr, cr, ao, co, rfl, rfl, hr, hrn, hk, hd, hrl, ho, hx, hall⟩ := hrel
    have hm := hr.len
    have hm63 := (IsRow.len hr).2
    have HR := Lib.hid (And.intro hr hrn); have HD := Lib.hid hd; have HO := Lib.hid ho; have HX := Lib.hid hx; have HALL := Lib.hid hall; have HM := Lib.hid hm; have HRL := Lib.hid hrl
    clear hr hrn hd ho hx hall hm hrl
    obtain ⟨us, o1, o2⟩ := HO.out
    have hbl : (bodies ((itemsL l).take k)).length = k := by unfold bodies; rw [List.length_map, List.length_take]; omega
    rw [hbl] at o1
    have HO1 := Lib.hid o1; have HO2 := Lib.hid o2; have HBL := Lib.hid hbl
    clear o1 o2 hbl
    have HNUM := Lib.hid (show k + 1 ≤ 9223372036854775807 ∧ (k + 1) * 24 ≤ 140737488355328 by have := HRL.out; have := HL.out; omega)
    by_cases h0 : 0 < mr
    · have h0i : (0 : Int) < mr := by omega
      have hne : r ≠ [] := fun e => by have := HM.out; rw [e] at this; simp at this; omega
      have hcons := itemsL_cons r hne
      rw [HD.out] at hcons
      have hkl : k < (itemsL l).length := by
        rcases Nat.lt_or_ge k (itemsL l).length with h | h
        · exact h
        · rw [List.drop_of_length_le h] at hcons; cases hcons
      have hget : (itemsL l).getD k ([], false) = ((nextL r).1, (nextL r).2.2) := by
        rw [List.drop_eq_getElem_cons hkl] at hcons
        rw [List.getD_eq_getElem?_getD, List.getElem?_eq_getElem hkl]
        exact (List.cons.inj hcons).1
      have hnd : itemsL (nextL r).2.1 = (itemsL l).drop (k + 1) := by
        rw [List.drop_eq_getElem_cons hkl] at hcons
        exact ((List.cons.inj hcons).2).symm
      have htk := bodies_take (itemsL l) k hkl
      have hmem : (itemsL l).take (k + 1) = (itemsL l).take k ++ [((nextL r).1, (nextL r).2.2)] := by
        rw [List.take_add_one, List.getElem?_eq_getElem hkl, ← hget]
        simp [List.getD_eq_getElem?_getD, List.getElem?_eq_getElem hkl]
      rw [hget] at htk
      have HTK := Lib.hid htk; have HND := Lib.hid hnd; have HMEM := Lib.hid hmem; have HGT := Lib.hid hget
      clear htk hnd hmem hcons hget hne
      have hrd : IsRd w (r, 0) (.agg #[.slice ar mr cr, .int .i64 0]) := ⟨ar, mr, cr, rfl, HR.out.1, HR.out.2⟩
      have HRD := Lib.hid hrd; clear hrd
      have hmr : mr ≤ 9223372036854775807 := by omega
      go_wp2_with fail
      refine (someR_any (r, 0) _ mr hmr w wr HX.out HRD.out).mono ?_
      rintro e w2 ⟨hx2, rv, x, rfl, ⟨a2, m2, c2, rfl, hr2, hn2⟩, hxx⟩
      obtain ⟨a3, m3, c3, rfl, hb3, hn3⟩ := id hxx
      have hxa : Ext No w2 (w2.alloc (.cells #[.slice a2 m2 c2, .int .i64 (someS (r, 0) mr).1.2] 100)) := (Ext.refl No w2).alloc _
      have HE2 := Lib.hid (hx2.trans' hxa)
      cases hbp : bytesP r.length r with
      | some xr =>
        obtain ⟨x, q⟩ := xr
        have hs := someS_some hbp
        have hnl : nextL r = (x, q, true) := by unfold nextL; rw [hbp]
        rw [← HM.out] at hs
        rw [hs] at hr2 hxx
        dsimp only at hr2 hxx
        have hsz : (someS (r, 0) mr).1.2 = 0 := by rw [hs]
        have hql := bytesP_len hbp
        rw [hnl] at HTK HND HMEM HGT
        dsimp only at HTK HND HMEM HGT
        have HR2 := Lib.hid (And.intro hr2 hn2); have HXX := Lib.hid hxx; have HQL := Lib.hid hql
        rw [hsz] at HE2
        have hO := own_ext HO1.out (HE2.out.alloc (.cells #[.slice a3 m3 c3] 31)) (fun _ _ s => s)
        have HOW := Lib.hid hO; have HZ := Lib.hid ((HX.out.trans' HE2.out).alloc (.cells #[.slice a3 m3 c3] 31)).size
        have HXE := Lib.hid ((HX.out.trans' HE2.out).alloc (.cells #[.slice a3 m3 c3] 31))
        have HBT := Lib.hid ((Blk.new w2 #[.slice a2 m2 c2, .int .i64 0] 100).alloc (.cells #[.slice a3 m3 c3] 31))
        rw [hsz]
        clear hO hr2 hn2 hxx hb3 hn3 hx2 hxa hs hbp hql hnl
        dsimp only
        go_wp2_with (at_builtin; refine wpList_app1 _ _ rfl _ _ 59 rfl w.heap.size 31 _ _ rows_info Try.underlying59 rfl _ k us rfl HOW.out _ rfl (cell_new _ _ _ (World.size_alloc _ _).symm) rfl HNUM.out.1 HNUM.out.2 HZ.out ?_; intro v' w7 hown7 hg7; obtain ⟨a7, c7, rfl⟩ := own_form hown7; have hb7 := HBT.out.grown hg7 (own_ne_type HOW.out HBT.out (by decide)); have hc7 := hb7.cell 0; simp only [List.getElem?_toArray, List.getElem?_cons_zero] at hc7; have HOW7 := Lib.hid hown7; have HG7 := Lib.hid hg7; clear hown7 hg7 hb7)
        go_roundw
        case rel =>
          refine ⟨k + 1, q, a2, m2, c2, a7, c7, rfl, rfl, HR2.out.1, HR2.out.2, by omega, HND.out, by have := HRL.out; have := HQL.out; omega, ?_, ?_, ?_⟩
          · have h := OwnSeq.app (E := fun _ l us => ∃ x, us = [x] ∧ IsBN w l x) (xs := bodies ((itemsL l).take k)) (y := x) (w' := w7) (news := [.slice a3 m3 c3]) (by rw [HBL.out]; exact HO1.out) HO2.out rfl ⟨_, rfl, HXX.out⟩ (fun _ _ h => h) (by rw [HBL.out]; exact HOW7.out)
            unfold RowsW
            rw [HTK.out]
            exact h
          · exact HXE.out.grown HG7.out (fun i hi h => absurd h (Nat.not_lt.2 (World.ownsRow.lt HO1.out i hi).1))
          · rw [HMEM.out]
            intro p hp
            rw [List.mem_append] at hp
            rcases hp with hp | hp
            · exact HALL.out p hp
            · simp at hp; rw [hp]
        case measure => simp [lenOf]; have := HR2.out.1.len; have := HM.out; have := HQL.out; omega
      | none =>
        have hs := someS_none hbp
        have hnl : nextL r = (r, [], false) := by unfold nextL; rw [hbp]
        rw [← HM.out] at hs
        obtain ⟨ee, hee⟩ : ∃ ee, (someS (r, 0) mr).1.2 = ee := ⟨_, rfl⟩
        rw [hee] at hs HE2
        rw [hee]
        have hen : (ee != 0) = true := by simpa using hs
        rw [hnl] at HTK HND HMEM HGT
        dsimp only at HTK HND HMEM HGT
        have HOW := Lib.hid (own_ext HO1.out (HE2.out.alloc (.cells #[.slice ar mr cr] 31)) (fun _ _ s => s)); have HZ := Lib.hid ((HX.out.trans' HE2.out).alloc (.cells #[.slice ar mr cr] 31)).size
        have HXE := Lib.hid ((HX.out.trans' HE2.out).alloc (.cells #[.slice ar mr cr] 31))
        clear hr2 hn2 hxx hb3 hn3 hx2 hxa hbp hnl hee
        dsimp only
        go_wp2_with (at_builtin; refine wpList_app1 _ _ rfl _ _ 59 rfl w.heap.size 31 _ _ rows_info Try.underlying59 rfl _ k us rfl HOW.out _ rfl (cell_new _ _ _ (World.size_alloc _ _).symm) rfl HNUM.out.1 HNUM.out.2 HZ.out ?_; intro v' w7 hown7 hg7; obtain ⟨a7, c7, rfl⟩ := own_form hown7; have HOW7 := Lib.hid hown7; have HG7 := Lib.hid hg7; clear hown7 hg7)
        go_ret2
        have hlast : itemsL l = (itemsL l).take k ++ [(r, false)] := by
          have h1 : itemsL [] = (itemsL l).drop (k + 1) := HND.out
          rw [itemsL_nil] at h1
          have h2 : (itemsL l).length ≤ k + 1 := by
            rcases Nat.lt_or_ge (k + 1) (itemsL l).length with h | h
            · have := congrArg List.length h1; rw [List.length_drop] at this; simp at this; omega
            · exact h
          have h3 := HMEM.out
          rw [List.take_of_length_le h2] at h3
          exact h3
        have hxf : Ext No w w7 := HXE.out.grown HG7.out (fun i hi h => absurd h (Nat.not_lt.2 (World.ownsRow.lt HO1.out i hi).1))
        have hrw : RowsW w w7 w.heap.size (bodies (itemsL l)) (.slice a7 (k + 1) c7) := by
          have h := OwnSeq.app (E := fun _ l us => ∃ x, us = [x] ∧ IsBN w l x) (xs := bodies ((itemsL l).take k)) (y := r) (w' := w7) (news := [.slice ar mr cr]) (by rw [HBL.out]; exact HO1.out) HO2.out rfl ⟨_, rfl, ar, mr, cr, rfl, HR.out.1, HR.out.2⟩ (fun _ _ h => h) (by rw [HBL.out]; exact HOW7.out)
          have e : bodies (itemsL l) = bodies ((itemsL l).take k) ++ [r] := by
            conv => lhs; rw [hlast]
            unfold bodies
            rw [List.map_append]; rfl
          unfold RowsW
          rw [e]
          exact h
        exact And.intro hxf (Exists.intro _ (Exists.intro false ⟨rfl, hrw, by
          simp only [Bool.false_eq_true, false_iff]
          intro h
          have := h (r, false) (by rw [hlast]; simp)
          cases this⟩))
    · have hr0 : r = [] := List.length_eq_zero_iff.1 (by have := HM.out; omega)
      have hkl : k = (itemsL l).length := by
        have h := HD.out
        rw [hr0, itemsL_nil] at h
        have h2 := congrArg List.length h
        rw [List.length_drop] at h2
        simp at h2; omega
      have HKL := Lib.hid hkl; clear hkl hr0
      have h0i : decide ((0 : Int) < mr) = false := by simp; omega
      go_wp2_with fail
      go_ret2
      have ht : (itemsL l).take k = itemsL l := List.take_of_length_le (by have := HKL.out; omega)
      have ho := HO.out
      have ha := HALL.out
      rw [ht] at ho ha
      exact And.intro HX.out (Exists.intro _ (Exists.intro true ⟨rfl, ho, by simp only [true_iff]; exact ha⟩))

end Go.Proofs.Ytchejnnfbinclaa
end

section
/- The contract of the documents' answer for scripts: Parse. Printed by wip/mkrpar.py. -/
namespace Go.Proofs.Ytchejnnfbinclaa
open Go.RowKit Go.My

def namesLoop : Nat → RSt → List (List UInt8) → RSt × List (List UInt8)
  | 0, s, ns => (s, ns)
  | n + 1, s, ns => if s.2 = 0 then namesLoop n (someS s 120).1 (ns ++ [(someS s 120).2]) else (s, ns)
theorem namesLoop_go {n : Nat} {s : RSt} {ns : List (List UInt8)} (h : s.2 = 0) : namesLoop (n + 1) s ns = namesLoop n (someS s 120).1 (ns ++ [(someS s 120).2]) := by
  show (if s.2 = 0 then _ else _) = _
  rw [if_pos h]
theorem namesLoop_no {n : Nat} {s : RSt} {ns : List (List UInt8)} (h : s.2 ≠ 0) : namesLoop n s ns = (s, ns) := by
  cases n with
  | zero => rfl
  | succ n => show (if s.2 = 0 then _ else _) = _; rw [if_neg h]
/-- what the documents' answer reads out of bytes -/
def rpar (l : List UInt8) : RSt × Nat × AnsI :=
  let g0 := getS (l, 0) 2
  let g1 := getS g0.1 1
  let g2 := getS g1.1 8
  let g3 := getS g2.1 4
  let g4 := namesLoop g3.2 g3.1 []
  let g5 := someF g4.1 1048576
  (g5.1, g1.2, ⟨wrap64 (g0.2 : Int), g4.2, g5.2, decide (g1.2 = 1), wrap64 (g2.2 : Int)⟩)
def rparA (l : List UInt8) : Option AnsI :=
  if endS (rpar l).1 ≠ 0 then none else if 1 < (rpar l).2.1 then none else if 512 < (rpar l).2.2.files.length then none else some (rpar l).2.2

/-- the reader, the answer and the result, while it reads -/
structure RDA (wo w wr : World) (xb cb rb : Nat) (s : RSt) (a : Option Addr) (m c : Nat) : Prop where
  rd : IsRd wo s (.agg #[.slice a m c, .int .i64 s.2])
  box : Blk wr xb #[.slice a m c, .int .i64 s.2] 100
  cmd : Blk wr cb zeroAns 52
  res : Blk wr rb zeroAns 52
  ext : Ext No w wr
  new : w.heap.size ≤ xb ∧ cb ≠ xb ∧ rb ≠ xb
theorem RDA.step {wo w wr w2 : World} {xb cb rb : Nat} {s s2 : RSt} {a a2 : Option Addr} {m c m2 c2 : Nat} (h : RDA wo w wr xb cb rb s a m c) (hx : Ext No wr w2) (hr : IsRd wo s2 (.agg #[.slice a2 m2 c2, .int .i64 s2.2])) :
    RDA wo w (putAll w2 xb 0 [.slice a2 m2 c2, .int .i64 s2.2]) xb cb rb s2 a2 m2 c2 := by
  have hx2 := putAll_ext xb [.slice a2 m2 c2, .int .i64 s2.2] w2 0
  exact ⟨hr, putAll_all (h.box.ext hx (fun s => s)) _ rfl, (h.cmd.ext hx (fun s => s)).ext hx2 (fun s => h.new.2.1 s), (h.res.ext hx (fun s => s)).ext hx2 (fun s => h.new.2.2 s),
    (h.ext.trans' hx).trans hx2 (fun _ _ s => s) (fun j hj s => by have := h.new.1; omega), h.new⟩

theorem strs_own {w : World} {B : Nat} {ns : List (List UInt8)} {v : Value} (h : w.ownsRow B 9 1 v ns.length (strVs ns)) : IsStrs w ns v :=
  (IsRow.of_own h).congr (fun i hi => by unfold strVs strV; simp [List.getD_eq_getElem?_getD, hi])
theorem RDA.ext0 {wo w wr w2 : World} {xb cb rb : Nat} {s : RSt} {a : Option Addr} {m c : Nat} (h : RDA wo w wr xb cb rb s a m c) (x : Ext No wr w2) : RDA wo w w2 xb cb rb s a m c :=
  ⟨h.rd, h.box.ext x (fun s => s), h.cmd.ext x (fun s => s), h.res.ext x (fun s => s), h.ext.trans' x, h.new⟩
theorem RDA.more {wo w wr w2 : World} {xb cb rb : Nat} {s : RSt} {a : Option Addr} {m c : Nat} {S : Nat → Prop} (h : RDA wo w wr xb cb rb s a m c) (x : Ext S wr w2) (hs : ∀ j cs T, Blk wr j cs T → T = 100 ∨ T = 52 → ¬ S j) (hn : ∀ j, j < w.heap.size → ¬ S j) : RDA wo w w2 xb cb rb s a m c :=
  ⟨h.rd, h.box.ext x (hs _ _ _ h.box (.inl rfl)), h.cmd.ext x (hs _ _ _ h.cmd (.inr rfl)), h.res.ext x (hs _ _ _ h.res (.inr rfl)), h.ext.trans x (fun _ _ s => s) (fun j hj s => absurd s (hn j hj)), h.new⟩


def ParseRTold (l : List UInt8) (w : World) (e : Ending) (w' : World) : Prop :=
  Ext No w w' ∧ ((∃ an vn vf, rparA l = some an ∧ e = .returned (.tuple #[ansVal an vn vf, .bool true]) ∧ IsStrs w' an.names vn ∧ IsFiles w' an.files vf) ∨ (rparA l = none ∧ e = .returned (.tuple #[.agg zeroAns, .bool false])))
set_option maxRecDepth 100000 in
set_option maxHeartbeats 20000000 in
theorem parseR_any (l : List UInt8) (a : Option Addr) (m c : Nat) (w : World) (hv : IsBytes w l (.slice a m c)) (hnl : NilOk (.slice a m c)) (hl : l.length ≤ 1099511620000) :
    Calls Try.prog 20 #[.slice a m c] w (ParseRTold l w) := by
  obtain ⟨w0, hw0⟩ : ∃ w0, lay w [(zeroAns, 52), (zeroAns, 52)] = w0 := ⟨_, rfl⟩
  have hx0 : Ext No w w0 := by rw [← hw0]; exact lay_ext _ (Ext.refl _ _)
  have hsz : w0.heap.size = w.heap.size + 2 := by rw [← hw0]; exact lay_size _ w
  have hb0 := lay_at hw0 0 _ _ rfl
  have hb1 := lay_at hw0 1 _ _ rfl
  rw [Nat.add_zero] at hb0
  obtain ⟨rb, hrb⟩ : ∃ rb, w.heap.size = rb := ⟨_, rfl⟩
  obtain ⟨cb, hcb⟩ : ∃ cb, rb + 1 = cb := ⟨_, rfl⟩
  rw [hrb] at hb0 hb1
  rw [hcb] at hb1
  unfold zeroAns at hw0
  simp only [lay] at hw0
  have H := Lib.hid hv; have HNL := Lib.hid hnl; have HL := Lib.hid hl; have HX0 := Lib.hid hx0; have HSZ := Lib.hid hsz; have HW0 := Lib.hid hw0; have HB0 := Lib.hid hb0; have HB1 := Lib.hid hb1; have HRB := Lib.hid hrb; have HCB := Lib.hid hcb
  have HRD := Lib.hid (show IsRd w (l, 0) (.agg #[.slice a m c, .int .i64 0]) from ⟨a, m, c, rfl, hv, hnl⟩)
  clear hv hnl hl hx0 hsz hw0 hb0 hb1 hrb hcb
  go_enter Try.func20, Try.ntmps20
  go_wp2_with fail
  rw [HW0.out, HRB.out, HCB.out]
  refine (getR_any (l, 0) _ 2 (by decide) (by decide) w w0 HX0.out HRD.out).mono ?_
  rintro e w1 ⟨hx1, r, rfl, hr1⟩
  have hlt0 := getS_lt (l, 0) 2; have hle0 := getS_len (l, 0) 2
  generalize hg0 : getS (l, 0) 2 = g0 at *
  obtain ⟨s1, code⟩ := g0
  dsimp only at hr1 hlt0 hle0
  obtain ⟨a1, m1, c1, rfl, hrb1, hrn1⟩ := id hr1
  obtain ⟨xb, hxb⟩ : ∃ xb, w1.heap.size = xb := ⟨_, rfl⟩
  have hxa : Ext No w1 (w1.alloc (.cells #[.slice a1 m1 c1, .int .i64 s1.2] 100)) := (Ext.refl No w1).alloc _
  have hs : RDA w w (w1.alloc (.cells #[.slice a1 m1 c1, .int .i64 s1.2] 100)) xb cb rb s1 a1 m1 c1 :=
    ⟨hr1, by rw [← hxb]; exact Blk.new w1 _ _, (HB1.out.ext hx1 (fun s => s)).ext hxa (fun s => s), (HB0.out.ext hx1 (fun s => s)).ext hxa (fun s => s), (HX0.out.trans' hx1).trans' hxa, by
      have h1 := hx1.size; have h2 := HSZ.out; have h3 := HRB.out; have h4 := HCB.out; omega⟩
  obtain ⟨wc, hwc⟩ : ∃ wc, w1.alloc (.cells #[.slice a1 m1 c1, .int .i64 s1.2] 100) = wc := ⟨_, rfl⟩
  rw [hwc] at hs
  have HS := Lib.hid hs; have HWC := Lib.hid hwc; have HG0 := Lib.hid hg0; have HLT0 := Lib.hid hlt0; have HLE := Lib.hid (show s1.1.length ≤ 1099511620000 from Nat.le_trans hle0 HL.out); have HXB := Lib.hid hxb
  clear hs hwc hg0 hlt0 hle0 hxb hr1 hrb1 hrn1 hxa hx1
  dsimp only
  go_wp2_with fail
  rw [HWC.out, HXB.out]

  -- mark
  have hc0 := HS.out.box.cell 0; have hc1 := HS.out.box.cell 1
  simp only [List.getElem?_toArray, List.getElem?_cons_zero, List.getElem?_cons_succ] at hc0 hc1
  try go_wp2_with fail
  refine (getR_any s1 _ 1 (by decide) (by decide) w wc HS.out.ext HS.out.rd).mono ?_
  rintro e w2 ⟨hx, r, rfl, hr⟩
  have hlt := getS_lt s1 1; have hle := getS_len s1 1
  generalize hg : getS s1 1 = g at *
  obtain ⟨s2, mark⟩ := g
  dsimp only at hr hle
  dsimp only at hlt
  obtain ⟨a2, m2, c2, rfl, hrb, hrn⟩ := id hr
  have hs := HS.out.step hx hr
  have hb := HS.out.box.ext hx (fun s => s)
  have hd0 := hb.cell 0; have hd1 := hb.cell 1; have hf0 := hb.free 0; have hf1 := hb.free 1
  simp only [List.getElem?_toArray, List.getElem?_cons_zero, List.getElem?_cons_succ] at hd0 hd1
  obtain ⟨v2, hw⟩ : ∃ v9, putAll w2 xb 0 [.slice a2 m2 c2, .int .i64 s2.2] = v9 := ⟨_, rfl⟩
  rw [hw] at hs
  simp only [putAll, Nat.zero_add] at hw
  have HW := Lib.hid hw; have HG1 := Lib.hid hg
  have HLT1 := Lib.hid hlt
  have HLE2 := Lib.hid (show s2.1.length ≤ 1099511620000 from Nat.le_trans hle HLE.out)
  clear HS
  have HS := Lib.hid hs
  clear hs hw hg hle hx hr hrb hrn hb hc0 hc1 hlt
  clear HLE; have HLE := HLE2; clear HLE2
  dsimp only
  go_wp2_with fail
  rw [HW.out]; clear HW hd0 hd1 hf0 hf1
  -- n
  have hc0 := HS.out.box.cell 0; have hc1 := HS.out.box.cell 1
  simp only [List.getElem?_toArray, List.getElem?_cons_zero, List.getElem?_cons_succ] at hc0 hc1
  try go_wp2_with fail
  refine (getR_any s2 _ 8 (by decide) (by decide) w v2 HS.out.ext HS.out.rd).mono ?_
  rintro e w3 ⟨hx, r, rfl, hr⟩
  have hlt := getS_lt s2 8; have hle := getS_len s2 8
  generalize hg : getS s2 8 = g at *
  obtain ⟨s3, n⟩ := g
  dsimp only at hr hle
  dsimp only at hlt
  obtain ⟨a3, m3, c3, rfl, hrb, hrn⟩ := id hr
  have hs := HS.out.step hx hr
  have hb := HS.out.box.ext hx (fun s => s)
  have hd0 := hb.cell 0; have hd1 := hb.cell 1; have hf0 := hb.free 0; have hf1 := hb.free 1
  simp only [List.getElem?_toArray, List.getElem?_cons_zero, List.getElem?_cons_succ] at hd0 hd1
  obtain ⟨v3, hw⟩ : ∃ v9, putAll w3 xb 0 [.slice a3 m3 c3, .int .i64 s3.2] = v9 := ⟨_, rfl⟩
  rw [hw] at hs
  simp only [putAll, Nat.zero_add] at hw
  have HW := Lib.hid hw; have HG2 := Lib.hid hg
  have HLT2 := Lib.hid hlt
  have HLE2 := Lib.hid (show s3.1.length ≤ 1099511620000 from Nat.le_trans hle HLE.out)
  clear HS
  have HS := Lib.hid hs
  clear hs hw hg hle hx hr hrb hrn hb hc0 hc1 hlt
  clear HLE; have HLE := HLE2; clear HLE2
  dsimp only
  go_wp2_with fail
  rw [HW.out]; clear HW hd0 hd1 hf0 hf1
  -- many
  have hc0 := HS.out.box.cell 0; have hc1 := HS.out.box.cell 1
  simp only [List.getElem?_toArray, List.getElem?_cons_zero, List.getElem?_cons_succ] at hc0 hc1
  try go_wp2_with fail
  refine (getR_any s3 _ 4 (by decide) (by decide) w v3 HS.out.ext HS.out.rd).mono ?_
  rintro e w4 ⟨hx, r, rfl, hr⟩
  have hlt := getS_lt s3 4; have hle := getS_len s3 4
  generalize hg : getS s3 4 = g at *
  obtain ⟨s4, many⟩ := g
  dsimp only at hr hle
  dsimp only at hlt
  obtain ⟨a4, m4, c4, rfl, hrb, hrn⟩ := id hr
  have hs := HS.out.step hx hr
  have hb := HS.out.box.ext hx (fun s => s)
  have hd0 := hb.cell 0; have hd1 := hb.cell 1; have hf0 := hb.free 0; have hf1 := hb.free 1
  simp only [List.getElem?_toArray, List.getElem?_cons_zero, List.getElem?_cons_succ] at hd0 hd1
  obtain ⟨v4, hw⟩ : ∃ v9, putAll w4 xb 0 [.slice a4 m4 c4, .int .i64 s4.2] = v9 := ⟨_, rfl⟩
  rw [hw] at hs
  simp only [putAll, Nat.zero_add] at hw
  have HW := Lib.hid hw; have HG3 := Lib.hid hg
  have HLT3 := Lib.hid hlt
  have hmany : many ≤ 4294967295 := by omega
  have HZ4 := Lib.hid (show w4.heap.size = v4.heap.size by rw [← hw]; simp)
  have HLE2 := Lib.hid (show s4.1.length ≤ 1099511620000 from Nat.le_trans hle HLE.out)
  clear HS
  have HS := Lib.hid hs
  clear hs hw hg hle hx hr hrb hrn hb hc0 hc1 hlt
  clear HLE; have HLE := HLE2; clear HLE2
  dsimp only
  go_wp2_with fail
  rw [HW.out]; clear HW hd0 hd1 hf0 hf1
  rw [HZ4.out]
  obtain ⟨NL, hNL⟩ : ∃ NL, namesLoop many s4 [] = NL := ⟨_, rfl⟩
  have HNL := Lib.hid hNL; clear hNL
  have hxq : Ext No v4 (v4.alloc (.cells #[] 9)) := (Ext.refl No v4).alloc _
  have hoq : (v4.alloc (.cells #[] 9)).ownsRow w.heap.size 9 1 (.slice (some ⟨v4.heap.size, 0, none⟩) 0 0) 0 (strVs []) := World.ownsRow_made v4 #[] 0 HS.out.ext.size (by decide) rfl
  have HSQ := Lib.hid (HS.out.ext0 hxq); have HOQ := Lib.hid hoq
  clear hxq hoq HS
  go_loopw [10, 11] (fun o i wr => ∃ (k : Nat) (sk : RSt) (ns : List (List UInt8)) (ak : Option Addr) (mk ck : Nat) (an : Option Addr) (cn : Nat), i = .int .u64 k ∧ k ≤ many ∧ o = .slice an k cn ∧ RDA w w wr xb cb rb sk ak mk ck ∧ wr.ownsRow w.heap.size 9 1 (.slice an k cn) k (strVs ns) ∧ ns.length = k ∧ namesLoop (many - k) sk ns = NL ∧
    (sk.2 = 0 → 4 * k + sk.1.length ≤ s4.1.length) ∧ k ≤ s4.1.length + 1 ∧ sk.1.length ≤ s4.1.length) (fun _ i _ => many - (intOf i).toNat)
  case atStart => exact ⟨0, s4, [], a4, m4, c4, _, 0, rfl, by omega, rfl, HSQ.out, HOQ.out, rfl, HNL.out, fun _ => by omega, by omega, Nat.le_refl _⟩
  case round =>
    obtain ⟨k, sk, ns, ak, mk, ck, an, cn, rfl, hk, rfl, hs, hown, hnl, hloop, hle, hkl, hsl⟩ := hrel
    obtain ⟨l0, e0⟩ := sk
    dsimp only at hle hsl hloop
    have hc0 := hs.box.cell 0; have hc1 := hs.box.cell 1; have hf0 := hs.box.free 0; have hf1 := hs.box.free 1
    simp only [List.getElem?_toArray, List.getElem?_cons_zero, List.getElem?_cons_succ] at hc0 hc1
    have HS := Lib.hid hs; have HO := Lib.hid hown; have HN := Lib.hid hnl; have HLP := Lib.hid hloop; have HLE2 := Lib.hid hle; have HKL := Lib.hid hkl; have HSL := Lib.hid hsl
    clear hs hown hnl hloop hle hkl hsl
    by_cases hgo : k < many ∧ e0 = 0
    · obtain ⟨hlt, he0⟩ := hgo
      subst he0
      have hltI : (k : Int) < many := by omega
      obtain ⟨m', hm'⟩ : ∃ m', many - k = m' + 1 := ⟨many - k - 1, by omega⟩
      have hlp := HLP.out
      rw [hm', namesLoop_go rfl] at hlp
      have HLP2 := Lib.hid hlp; clear hlp
      go_wp2_with fail
      refine (someR_any (l0, 0) _ 120 (by decide) w wr HS.out.ext HS.out.rd).mono ?_
      rintro e w5 ⟨hx5, r5, x5, rfl, hr5, hbx5⟩
      have hsz5 := someS_ok (s := (l0, 0)) (most := 120)
      have hkp5 := someS_le (l0, 0) 120
      generalize (someS (l0, 0) 120).1 = s5 at *
      generalize (someS (l0, 0) 120).2 = nm at *
      obtain ⟨a5, m5, c5, rfl, hb5, hn5⟩ := id hr5
      obtain ⟨a6, m6, c6, rfl, hb6, hn6⟩ := id hbx5
      have hxa : Ext No w5 (w5.alloc (.cells #[.slice a5 m5 c5, .int .i64 s5.2] 100)) := (Ext.refl No w5).alloc _
      have hst := HS.out.step (hx5.trans' hxa) hr5
      have hbx := HS.out.box.ext (hx5.trans' hxa) (fun s => s)
      have hd0 := hbx.cell 0; have hd1 := hbx.cell 1; have hg0 := hbx.free 0; have hg1 := hbx.free 1
      simp only [List.getElem?_toArray, List.getElem?_cons_zero, List.getElem?_cons_succ] at hd0 hd1
      obtain ⟨w7, hw7⟩ : ∃ w7, putAll (w5.alloc (.cells #[.slice a5 m5 c5, .int .i64 s5.2] 100)) xb 0 [.slice a5 m5 c5, .int .i64 s5.2] = w7 := ⟨_, rfl⟩
      have hx7 := putAll_ext xb [.slice a5 m5 c5, .int .i64 s5.2] (w5.alloc (.cells #[.slice a5 m5 c5, .int .i64 s5.2] 100)) 0
      rw [hw7] at hst hx7
      simp only [putAll, Nat.zero_add] at hw7
      have hcv := conv_bytes nm a6 m6 c6 w7 (hb6.ext0 hst.ext)
      have ho5 := own_ext HO.out (hx5.trans' hxa) (fun _ _ s => s)
      have ho7 := own_ext ho5 hx7 (fun j hj s => own_ne_type ho5 hbx (by decide) (s ▸ hj))
      have hz7 : w7.heap.size = w5.heap.size + 1 := by rw [← hw7]; simp
      have hx8 : Ext No w7 (w7.alloc (.cells #[.string (strB nm)] 9)) := (Ext.refl No w7).alloc _
      have HOW := Lib.hid (own_ext ho7 hx8 (fun _ _ s => s)); have HST := Lib.hid (hst.ext0 hx8); have HZ := Lib.hid (hst.ext0 hx8).ext.size
      have HNUM := Lib.hid (show k + 1 ≤ 9223372036854775807 ∧ (k + 1) * 16 ≤ 140737488355328 by have := HKL.out; have := HLE.out; omega)
      have HS5 := Lib.hid hsz5; have HK5 := Lib.hid hkp5
      have HZ7 := Lib.hid hz7
      subst hw7
      clear hx5 hr5 hbx5 hsz5 hkp5 hb5 hn5 hb6 hn6 hxa hst hbx hx7 ho5 ho7 hz7 hx8 hc0 hc1 hf0 hf1
      dsimp only
      go_wp2_with (at_builtin; refine wpList_app1 _ _ rfl _ _ 44 rfl w.heap.size 9 _ _ str_info Try.underlying44 rfl _ k _ rfl HOW.out _ rfl (cell_new _ _ _ (HZ7.out).symm) rfl HNUM.out.1 HNUM.out.2 HZ.out ?_; intro v' w10 hown hg; obtain ⟨a10, c10, rfl⟩ := own_form hown; have HOW7 := Lib.hid hown; have HG7 := Lib.hid hg; clear hown hg)
      go_roundw
      case rel =>
        have hgx : Ext (fun j => (Value.slice an k cn).ownBlock = some j) _ w10 := (Ext.refl (fun j => (Value.slice an k cn).ownBlock = some j) _).grown HG7.out (fun i hi _ => hi)
        have hst10 := HST.out.more hgx (fun j cs T hb hT s => by
          obtain ⟨cs', hb'⟩ := own_blkN HOW.out s
          rcases hT with rfl | rfl
          · exact Blk.ne_type hb hb' (by decide) rfl
          · exact Blk.ne_type hb hb' (by decide) rfl) (fun j hj s => by have := (World.ownsRow.lt HOW.out j s).1; omega)
        refine ⟨k + 1, s5, ns ++ [nm], a5, m5, c5, a10, c10, by go_num, by omega, rfl, hst10, ?_, by rw [List.length_append, HN.out]; rfl, ?_, ?_, ?_, ?_⟩
        · unfold strVs; rw [List.map_append]; exact HOW7.out
        · rw [show many - (k + 1) = m' by omega]; exact HLP2.out
        · intro h5
          have h1 := HS5.out h5
          have h3 := HLE2.out trivial
          have h1' : s5.1.length + 4 ≤ l0.length := h1.1
          omega
        · have h3 := HLE2.out trivial
          omega
        · have h1 : s5.1.length ≤ l0.length := HK5.out
          have := HSL.out; omega
      case measure => simp [intOf]; omega
    · have hend : namesLoop (many - k) (l0, e0) ns = ((l0, e0), ns) := by
        by_cases he0 : e0 = 0
        · have : many - k = 0 := by
            have : ¬ k < many := fun h => hgo ⟨h, he0⟩
            omega
          rw [this]; rfl
        · exact namesLoop_no he0
      have hnle := HLP.out
      rw [hend] at hnle
      subst hnle
      have hrest : ∀ Q : Prop, True := fun _ => trivial
      by_cases hlt : k < many
      · have he0 : ¬ e0 = 0 := fun h => hgo ⟨hlt, h⟩
        have hltI : (k : Int) < many := by omega
        have heb : (e0 == 0) = false := by simpa using he0
        go_wp2_with fail
        refine (someF_any (l0, e0) _ 1048576 (by decide) w wr HS.out.ext HS.out.rd (by have := HSL.out; have := HLE.out; dsimp only; omega)).mono ?_
        rintro e w5 ⟨hx, rv, x, rfl, hr, hy⟩
        generalize hg5 : someF (l0, e0) 1048576 = g5 at *
        obtain ⟨s6, files⟩ := g5
        dsimp only at hr hy
        obtain ⟨yf, nyf, cyf, hyf, hyn⟩ : ∃ a n c, x = .slice a n c ∧ n = files.length := by obtain ⟨a, c, h⟩ := OwnSeq.len hy; exact ⟨a, _, c, h, rfl⟩
        subst hyf
        obtain ⟨a6, m6, c6, rfl, hrb, hrn⟩ := id hr
        have hrp : rpar l = (s6, mark, ⟨wrap64 (code : Int), ns, files, decide (mark = 1), wrap64 (n : Int)⟩) := by
          unfold rpar
          simp only [HG0.out, HG1.out, HG2.out, HG3.out, HNL.out, hg5]
        have HRP := Lib.hid hrp; clear hrp hg5
        have hs := HS.out.step hx hr
        have hb := HS.out.box.ext hx (fun s => s)
        have hd0 := hb.cell 0; have hd1 := hb.cell 1; have hh0 := hb.free 0; have hh1 := hb.free 1
        simp only [List.getElem?_toArray, List.getElem?_cons_zero, List.getElem?_cons_succ] at hd0 hd1
        have hx7 := putAll_ext xb [.slice a6 m6 c6, .int .i64 s6.2] w5 0
        obtain ⟨w7, hw7⟩ : ∃ w7, putAll w5 xb 0 [.slice a6 m6 c6, .int .i64 s6.2] = w7 := ⟨_, rfl⟩
        rw [hw7] at hs hx7
        simp only [putAll, Nat.zero_add] at hw7
        have ho5 := own_ext HO.out hx (fun _ _ s => s)
        have ho7 := own_ext ho5 hx7 (fun j hj s => own_ne_type ho5 hb (by decide) (s ▸ hj))
        have hf7 := OwnSeq.ext hy hx7 (fun j hj s => by obtain ⟨cs, hb2⟩ := OwnSeq.blk hy hj; exact Blk.ne_type hb2 hb (by decide) s) (fun _ _ h => h)
        have HW7 := Lib.hid hw7; have HS7 := Lib.hid hs; have HO7 := Lib.hid ho7; have HF7 := Lib.hid hf7; have HYN := Lib.hid hyn
        clear hw7 hs ho5 ho7 hf7 hx hx7 hr hrb hrn hb hy hc0 hc1 hf0 hf1 hyn
        dsimp only
        go_wp2_with fail
        rw [HW7.out]; clear hd0 hd1 hh0 hh1
        have hk0 := HS7.out.box.cell 0; have hk1 := HS7.out.box.cell 1
        simp only [List.getElem?_toArray, List.getElem?_cons_zero, List.getElem?_cons_succ] at hk0 hk1
        try go_wp2_with fail
        refine (endR_any s6 _ w7 (HS7.out.rd.ext0 HS7.out.ext)).mono ?_
        rintro e w8 ⟨hx8, rfl⟩
        clear hk0 hk1
        have hre := HS7.out.res.ext hx8 (fun s => s)
        have hcm := HS7.out.cmd.ext hx8 (fun s => s)
        have hrc : ¬ rb = cb := by have := HCB.out; omega
        have hcr : ¬ cb = rb := fun h => hrc h.symm
        have HRE := Lib.hid hre; have HX8 := Lib.hid (HS7.out.ext.trans' hx8)
        have HO8 := Lib.hid (own_ext HO7.out hx8 (fun _ _ s => s)); have HF8 := Lib.hid (OwnSeq.ext HF7.out hx8 (fun _ _ s => s) (fun _ _ h => h))
        unfold zeroAns at hre hcm
        have hps : w8.cell? ⟨rb, 0, none⟩ = _ ∧ w8.cell? ⟨rb, 1, none⟩ = _ ∧ w8.cell? ⟨rb, 2, none⟩ = _ ∧ w8.cell? ⟨rb, 3, none⟩ = _ ∧ w8.cell? ⟨rb, 4, none⟩ = _ := ⟨hre.cell 0, hre.cell 1, hre.cell 2, hre.cell 3, hre.cell 4⟩
        simp only [List.getElem?_toArray, List.getElem?_cons_zero, List.getElem?_cons_succ] at hps
        obtain ⟨hp0, hp1, hp2, hp3, hp4⟩ := hps
        have hqs : w8.frozen? ⟨rb, 0, none⟩ = false ∧ w8.frozen? ⟨rb, 1, none⟩ = false ∧ w8.frozen? ⟨rb, 2, none⟩ = false ∧ w8.frozen? ⟨rb, 3, none⟩ = false ∧ w8.frozen? ⟨rb, 4, none⟩ = false := ⟨hre.free 0, hre.free 1, hre.free 2, hre.free 3, hre.free 4⟩
        obtain ⟨hq0, hq1, hq2, hq3, hq4⟩ := hqs
        have hys : w8.cell? ⟨cb, 0, none⟩ = _ ∧ w8.cell? ⟨cb, 1, none⟩ = _ ∧ w8.cell? ⟨cb, 2, none⟩ = _ ∧ w8.cell? ⟨cb, 3, none⟩ = _ ∧ w8.cell? ⟨cb, 4, none⟩ = _ := ⟨hcm.cell 0, hcm.cell 1, hcm.cell 2, hcm.cell 3, hcm.cell 4⟩
        simp only [List.getElem?_toArray, List.getElem?_cons_zero, List.getElem?_cons_succ] at hys
        obtain ⟨hy0, hy1, hy2, hy3, hy4⟩ := hys
        clear hre hcm hx8
        have hmk64 : mark ≤ 18446744073709551615 := by have := HLT1.out; omega
        by_cases hbad : endS s6 ≠ 0 ∨ 1 < mark ∨ 512 < nyf
        · have hno : rparA l = none := by
            unfold rparA
            rw [HRP.out]
            dsimp only
            have := HYN.out
            by_cases h1 : endS s6 ≠ 0
            · rw [if_pos h1]
            · rw [if_neg h1]
              by_cases h2 : 1 < mark
              · rw [if_pos h2]
              · rw [if_neg h2, if_pos (by omega)]
          have HNO := Lib.hid hno; clear hno
          by_cases h1 : endS s6 = 0
          · have h1b : (endS s6 != 0) = false := by simpa using h1
            by_cases h2 : 1 < mark
            · have h2i : (1 : Int) < mark := by omega
              dsimp only
              go_wp2_with fail
              obtain ⟨w2, hw2⟩ : ∃ w2, putAll w8 rb 0 [.int .i64 0, .slice none 0 0, .slice none 0 0, .bool false, .int .i64 0] = w2 := ⟨_, rfl⟩
              have hb2 := putAll_all HRE.out [.int .i64 0, .slice none 0 0, .slice none 0 0, .bool false, .int .i64 0] (Eq.trans (b := 5) rfl rfl)
              have hx2 := putAll_ext rb [.int .i64 0, .slice none 0 0, .slice none 0 0, .bool false, .int .i64 0] w8 0
              rw [hw2] at hb2 hx2
              simp only [putAll, Nat.zero_add] at hw2
              rw [hw2]
              have hxf : Ext No w w2 := HX8.out.trans hx2 (fun _ _ s => s) (fun j hj s => by have := HRB.out; omega)
              clear hw2 hp0 hp1 hp2 hp3 hp4 hq0 hq1 hq2 hq3 hq4 hy0 hy1 hy2 hy3 hy4
              have hrs : w2.cell? ⟨rb, 0, none⟩ = _ ∧ w2.cell? ⟨rb, 1, none⟩ = _ ∧ w2.cell? ⟨rb, 2, none⟩ = _ ∧ w2.cell? ⟨rb, 3, none⟩ = _ ∧ w2.cell? ⟨rb, 4, none⟩ = _ := ⟨hb2.cell 0, hb2.cell 1, hb2.cell 2, hb2.cell 3, hb2.cell 4⟩
              simp only [List.getElem?_toArray, List.getElem?_cons_zero, List.getElem?_cons_succ] at hrs
              obtain ⟨hr0, hr1, hr2, hr3, hr4⟩ := hrs
              refine bodyPost_ret (v := .tuple #[.agg #[.int .i64 0, .slice none 0 0, .slice none 0 0, .bool false, .int .i64 0], .bool false]) (by simp [results, Try.results20, go_sem, hr0, hr1, hr2, hr3, hr4]) rfl ?_
              exact ⟨hxf, .inr ⟨HNO.out, rfl⟩⟩
            · have h3 : 512 < nyf := by omega
              have h2i : decide ((1 : Int) < mark) = false := by simp; omega
              have h2n : decide (1 < mark) = false := by simp; omega
              have h3i : (512 : Int) < nyf := by omega
              dsimp only
              go_wp2_with fail
              obtain ⟨w2, hw2⟩ : ∃ w2, putAll w8 rb 0 [.int .i64 0, .slice none 0 0, .slice none 0 0, .bool false, .int .i64 0] = w2 := ⟨_, rfl⟩
              have hb2 := putAll_all HRE.out [.int .i64 0, .slice none 0 0, .slice none 0 0, .bool false, .int .i64 0] (Eq.trans (b := 5) rfl rfl)
              have hx2 := putAll_ext rb [.int .i64 0, .slice none 0 0, .slice none 0 0, .bool false, .int .i64 0] w8 0
              rw [hw2] at hb2 hx2
              simp only [putAll, Nat.zero_add] at hw2
              rw [hw2]
              have hxf : Ext No w w2 := HX8.out.trans hx2 (fun _ _ s => s) (fun j hj s => by have := HRB.out; omega)
              clear hw2 hp0 hp1 hp2 hp3 hp4 hq0 hq1 hq2 hq3 hq4 hy0 hy1 hy2 hy3 hy4
              have hrs : w2.cell? ⟨rb, 0, none⟩ = _ ∧ w2.cell? ⟨rb, 1, none⟩ = _ ∧ w2.cell? ⟨rb, 2, none⟩ = _ ∧ w2.cell? ⟨rb, 3, none⟩ = _ ∧ w2.cell? ⟨rb, 4, none⟩ = _ := ⟨hb2.cell 0, hb2.cell 1, hb2.cell 2, hb2.cell 3, hb2.cell 4⟩
              simp only [List.getElem?_toArray, List.getElem?_cons_zero, List.getElem?_cons_succ] at hrs
              obtain ⟨hr0, hr1, hr2, hr3, hr4⟩ := hrs
              refine bodyPost_ret (v := .tuple #[.agg #[.int .i64 0, .slice none 0 0, .slice none 0 0, .bool false, .int .i64 0], .bool false]) (by simp [results, Try.results20, go_sem, hr0, hr1, hr2, hr3, hr4]) rfl ?_
              exact ⟨hxf, .inr ⟨HNO.out, rfl⟩⟩
          · have h1b : (endS s6 != 0) = true := by simpa using h1
            dsimp only
            go_wp2_with fail
            obtain ⟨w2, hw2⟩ : ∃ w2, putAll w8 rb 0 [.int .i64 0, .slice none 0 0, .slice none 0 0, .bool false, .int .i64 0] = w2 := ⟨_, rfl⟩
            have hb2 := putAll_all HRE.out [.int .i64 0, .slice none 0 0, .slice none 0 0, .bool false, .int .i64 0] (Eq.trans (b := 5) rfl rfl)
            have hx2 := putAll_ext rb [.int .i64 0, .slice none 0 0, .slice none 0 0, .bool false, .int .i64 0] w8 0
            rw [hw2] at hb2 hx2
            simp only [putAll, Nat.zero_add] at hw2
            rw [hw2]
            have hxf : Ext No w w2 := HX8.out.trans hx2 (fun _ _ s => s) (fun j hj s => by have := HRB.out; omega)
            clear hw2 hp0 hp1 hp2 hp3 hp4 hq0 hq1 hq2 hq3 hq4 hy0 hy1 hy2 hy3 hy4
            have hrs : w2.cell? ⟨rb, 0, none⟩ = _ ∧ w2.cell? ⟨rb, 1, none⟩ = _ ∧ w2.cell? ⟨rb, 2, none⟩ = _ ∧ w2.cell? ⟨rb, 3, none⟩ = _ ∧ w2.cell? ⟨rb, 4, none⟩ = _ := ⟨hb2.cell 0, hb2.cell 1, hb2.cell 2, hb2.cell 3, hb2.cell 4⟩
            simp only [List.getElem?_toArray, List.getElem?_cons_zero, List.getElem?_cons_succ] at hrs
            obtain ⟨hr0, hr1, hr2, hr3, hr4⟩ := hrs
            refine bodyPost_ret (v := .tuple #[.agg #[.int .i64 0, .slice none 0 0, .slice none 0 0, .bool false, .int .i64 0], .bool false]) (by simp [results, Try.results20, go_sem, hr0, hr1, hr2, hr3, hr4]) rfl ?_
            exact ⟨hxf, .inr ⟨HNO.out, rfl⟩⟩
        · have h1 : endS s6 = 0 := by
            by_cases h : endS s6 = 0
            · exact h
            · exact absurd (.inl h) hbad
          have h1b : (endS s6 != 0) = false := by simpa using h1
          have h2i : decide ((1 : Int) < mark) = false := by simp; omega
          have h2n : decide (1 < mark) = false := by simp; omega
          have h3i : decide ((512 : Int) < nyf) = false := by simp; omega
          have h3n : decide (512 < nyf) = false := by simp; omega
          obtain ⟨mk1, hmk⟩ : ∃ b, decide (mark = 1) = b := ⟨_, rfl⟩
          have hmq : ((mark : Int) == 1) = mk1 := by rw [← hmk, Bool.eq_iff_iff]; simp; omega
          have hmq' : (mark == 1) = mk1 := by rw [← hmk]; rfl
          have hyes : rparA l = some ⟨wrap64 (code : Int), ns, files, mk1, wrap64 (n : Int)⟩ := by
            unfold rparA
            rw [HRP.out]
            dsimp only
            have := HYN.out
            rw [if_neg (by simpa using h1), if_neg (by omega), if_neg (by omega), hmk]
          have HYES := Lib.hid hyes; have HMK := Lib.hid hmk; clear hyes hmk
          dsimp only
          go_wp2_with fail
          obtain ⟨w2, hw2⟩ : ∃ w2, putAll w8 rb 0 [.int .i64 (wrap64 (code : Int)), .slice an k cn, .slice yf nyf cyf, .bool mk1, .int .i64 (wrap64 (n : Int))] = w2 := ⟨_, rfl⟩
          have hb2 := putAll_all HRE.out [.int .i64 (wrap64 (code : Int)), .slice an k cn, .slice yf nyf cyf, .bool mk1, .int .i64 (wrap64 (n : Int))] (Eq.trans (b := 5) rfl rfl)
          have hx2 := putAll_ext rb [.int .i64 (wrap64 (code : Int)), .slice an k cn, .slice yf nyf cyf, .bool mk1, .int .i64 (wrap64 (n : Int))] w8 0
          rw [hw2] at hb2 hx2
          simp only [putAll, Nat.zero_add] at hw2
          rw [hw2]
          have hxf : Ext No w w2 := HX8.out.trans hx2 (fun _ _ s => s) (fun j hj s => by have := HRB.out; omega)
          clear hw2 hp0 hp1 hp2 hp3 hp4 hq0 hq1 hq2 hq3 hq4 hy0 hy1 hy2 hy3 hy4
          have hrs : w2.cell? ⟨rb, 0, none⟩ = _ ∧ w2.cell? ⟨rb, 1, none⟩ = _ ∧ w2.cell? ⟨rb, 2, none⟩ = _ ∧ w2.cell? ⟨rb, 3, none⟩ = _ ∧ w2.cell? ⟨rb, 4, none⟩ = _ := ⟨hb2.cell 0, hb2.cell 1, hb2.cell 2, hb2.cell 3, hb2.cell 4⟩
          simp only [List.getElem?_toArray, List.getElem?_cons_zero, List.getElem?_cons_succ] at hrs
          obtain ⟨hr0, hr1, hr2, hr3, hr4⟩ := hrs
          refine bodyPost_ret (v := .tuple #[.agg #[.int .i64 (wrap64 (code : Int)), .slice an k cn, .slice yf nyf cyf, .bool mk1, .int .i64 (wrap64 (n : Int))], .bool true]) (by simp [results, Try.results20, go_sem, hr0, hr1, hr2, hr3, hr4]) rfl ?_
          have hof := own_ext HO8.out hx2 (fun j hj s => own_ne_type HO8.out HRE.out (by decide) (s ▸ hj))
          have hff := OwnSeq.ext HF8.out hx2 (fun j hj s => by obtain ⟨cs, hb2⟩ := OwnSeq.blk HF8.out hj; exact Blk.ne_type hb2 HRE.out (by decide) s) (fun _ _ h => h)
          exact ⟨hxf, .inl ⟨_, _, _, HYES.out, rfl, strs_own (by rw [HN.out]; exact hof), OwnSeq.filesW hff hxf⟩⟩
      · have hkn : k = many := by omega
        subst hkn
        go_wp2_with fail
        refine (someF_any (l0, e0) _ 1048576 (by decide) w wr HS.out.ext HS.out.rd (by have := HSL.out; have := HLE.out; dsimp only; omega)).mono ?_
        rintro e w5 ⟨hx, rv, x, rfl, hr, hy⟩
        generalize hg5 : someF (l0, e0) 1048576 = g5 at *
        obtain ⟨s6, files⟩ := g5
        dsimp only at hr hy
        obtain ⟨yf, nyf, cyf, hyf, hyn⟩ : ∃ a n c, x = .slice a n c ∧ n = files.length := by obtain ⟨a, c, h⟩ := OwnSeq.len hy; exact ⟨a, _, c, h, rfl⟩
        subst hyf
        obtain ⟨a6, m6, c6, rfl, hrb, hrn⟩ := id hr
        have hrp : rpar l = (s6, mark, ⟨wrap64 (code : Int), ns, files, decide (mark = 1), wrap64 (n : Int)⟩) := by
          unfold rpar
          simp only [HG0.out, HG1.out, HG2.out, HG3.out, HNL.out, hg5]
        have HRP := Lib.hid hrp; clear hrp hg5
        have hs := HS.out.step hx hr
        have hb := HS.out.box.ext hx (fun s => s)
        have hd0 := hb.cell 0; have hd1 := hb.cell 1; have hh0 := hb.free 0; have hh1 := hb.free 1
        simp only [List.getElem?_toArray, List.getElem?_cons_zero, List.getElem?_cons_succ] at hd0 hd1
        have hx7 := putAll_ext xb [.slice a6 m6 c6, .int .i64 s6.2] w5 0
        obtain ⟨w7, hw7⟩ : ∃ w7, putAll w5 xb 0 [.slice a6 m6 c6, .int .i64 s6.2] = w7 := ⟨_, rfl⟩
        rw [hw7] at hs hx7
        simp only [putAll, Nat.zero_add] at hw7
        have ho5 := own_ext HO.out hx (fun _ _ s => s)
        have ho7 := own_ext ho5 hx7 (fun j hj s => own_ne_type ho5 hb (by decide) (s ▸ hj))
        have hf7 := OwnSeq.ext hy hx7 (fun j hj s => by obtain ⟨cs, hb2⟩ := OwnSeq.blk hy hj; exact Blk.ne_type hb2 hb (by decide) s) (fun _ _ h => h)
        have HW7 := Lib.hid hw7; have HS7 := Lib.hid hs; have HO7 := Lib.hid ho7; have HF7 := Lib.hid hf7; have HYN := Lib.hid hyn
        clear hw7 hs ho5 ho7 hf7 hx hx7 hr hrb hrn hb hy hc0 hc1 hf0 hf1 hyn
        dsimp only
        go_wp2_with fail
        rw [HW7.out]; clear hd0 hd1 hh0 hh1
        have hk0 := HS7.out.box.cell 0; have hk1 := HS7.out.box.cell 1
        simp only [List.getElem?_toArray, List.getElem?_cons_zero, List.getElem?_cons_succ] at hk0 hk1
        try go_wp2_with fail
        refine (endR_any s6 _ w7 (HS7.out.rd.ext0 HS7.out.ext)).mono ?_
        rintro e w8 ⟨hx8, rfl⟩
        clear hk0 hk1
        have hre := HS7.out.res.ext hx8 (fun s => s)
        have hcm := HS7.out.cmd.ext hx8 (fun s => s)
        have hrc : ¬ rb = cb := by have := HCB.out; omega
        have hcr : ¬ cb = rb := fun h => hrc h.symm
        have HRE := Lib.hid hre; have HX8 := Lib.hid (HS7.out.ext.trans' hx8)
        have HO8 := Lib.hid (own_ext HO7.out hx8 (fun _ _ s => s)); have HF8 := Lib.hid (OwnSeq.ext HF7.out hx8 (fun _ _ s => s) (fun _ _ h => h))
        unfold zeroAns at hre hcm
        have hps : w8.cell? ⟨rb, 0, none⟩ = _ ∧ w8.cell? ⟨rb, 1, none⟩ = _ ∧ w8.cell? ⟨rb, 2, none⟩ = _ ∧ w8.cell? ⟨rb, 3, none⟩ = _ ∧ w8.cell? ⟨rb, 4, none⟩ = _ := ⟨hre.cell 0, hre.cell 1, hre.cell 2, hre.cell 3, hre.cell 4⟩
        simp only [List.getElem?_toArray, List.getElem?_cons_zero, List.getElem?_cons_succ] at hps
        obtain ⟨hp0, hp1, hp2, hp3, hp4⟩ := hps
        have hqs : w8.frozen? ⟨rb, 0, none⟩ = false ∧ w8.frozen? ⟨rb, 1, none⟩ = false ∧ w8.frozen? ⟨rb, 2, none⟩ = false ∧ w8.frozen? ⟨rb, 3, none⟩ = false ∧ w8.frozen? ⟨rb, 4, none⟩ = false := ⟨hre.free 0, hre.free 1, hre.free 2, hre.free 3, hre.free 4⟩
        obtain ⟨hq0, hq1, hq2, hq3, hq4⟩ := hqs
        have hys : w8.cell? ⟨cb, 0, none⟩ = _ ∧ w8.cell? ⟨cb, 1, none⟩ = _ ∧ w8.cell? ⟨cb, 2, none⟩ = _ ∧ w8.cell? ⟨cb, 3, none⟩ = _ ∧ w8.cell? ⟨cb, 4, none⟩ = _ := ⟨hcm.cell 0, hcm.cell 1, hcm.cell 2, hcm.cell 3, hcm.cell 4⟩
        simp only [List.getElem?_toArray, List.getElem?_cons_zero, List.getElem?_cons_succ] at hys
        obtain ⟨hy0, hy1, hy2, hy3, hy4⟩ := hys
        clear hre hcm hx8
        have hmk64 : mark ≤ 18446744073709551615 := by have := HLT1.out; omega
        by_cases hbad : endS s6 ≠ 0 ∨ 1 < mark ∨ 512 < nyf
        · have hno : rparA l = none := by
            unfold rparA
            rw [HRP.out]
            dsimp only
            have := HYN.out
            by_cases h1 : endS s6 ≠ 0
            · rw [if_pos h1]
            · rw [if_neg h1]
              by_cases h2 : 1 < mark
              · rw [if_pos h2]
              · rw [if_neg h2, if_pos (by omega)]
          have HNO := Lib.hid hno; clear hno
          by_cases h1 : endS s6 = 0
          · have h1b : (endS s6 != 0) = false := by simpa using h1
            by_cases h2 : 1 < mark
            · have h2i : (1 : Int) < mark := by omega
              dsimp only
              go_wp2_with fail
              obtain ⟨w2, hw2⟩ : ∃ w2, putAll w8 rb 0 [.int .i64 0, .slice none 0 0, .slice none 0 0, .bool false, .int .i64 0] = w2 := ⟨_, rfl⟩
              have hb2 := putAll_all HRE.out [.int .i64 0, .slice none 0 0, .slice none 0 0, .bool false, .int .i64 0] (Eq.trans (b := 5) rfl rfl)
              have hx2 := putAll_ext rb [.int .i64 0, .slice none 0 0, .slice none 0 0, .bool false, .int .i64 0] w8 0
              rw [hw2] at hb2 hx2
              simp only [putAll, Nat.zero_add] at hw2
              rw [hw2]
              have hxf : Ext No w w2 := HX8.out.trans hx2 (fun _ _ s => s) (fun j hj s => by have := HRB.out; omega)
              clear hw2 hp0 hp1 hp2 hp3 hp4 hq0 hq1 hq2 hq3 hq4 hy0 hy1 hy2 hy3 hy4
              have hrs : w2.cell? ⟨rb, 0, none⟩ = _ ∧ w2.cell? ⟨rb, 1, none⟩ = _ ∧ w2.cell? ⟨rb, 2, none⟩ = _ ∧ w2.cell? ⟨rb, 3, none⟩ = _ ∧ w2.cell? ⟨rb, 4, none⟩ = _ := ⟨hb2.cell 0, hb2.cell 1, hb2.cell 2, hb2.cell 3, hb2.cell 4⟩
              simp only [List.getElem?_toArray, List.getElem?_cons_zero, List.getElem?_cons_succ] at hrs
              obtain ⟨hr0, hr1, hr2, hr3, hr4⟩ := hrs
              refine bodyPost_ret (v := .tuple #[.agg #[.int .i64 0, .slice none 0 0, .slice none 0 0, .bool false, .int .i64 0], .bool false]) (by simp [results, Try.results20, go_sem, hr0, hr1, hr2, hr3, hr4]) rfl ?_
              exact ⟨hxf, .inr ⟨HNO.out, rfl⟩⟩
            · have h3 : 512 < nyf := by omega
              have h2i : decide ((1 : Int) < mark) = false := by simp; omega
              have h2n : decide (1 < mark) = false := by simp; omega
              have h3i : (512 : Int) < nyf := by omega
              dsimp only
              go_wp2_with fail
              obtain ⟨w2, hw2⟩ : ∃ w2, putAll w8 rb 0 [.int .i64 0, .slice none 0 0, .slice none 0 0, .bool false, .int .i64 0] = w2 := ⟨_, rfl⟩
              have hb2 := putAll_all HRE.out [.int .i64 0, .slice none 0 0, .slice none 0 0, .bool false, .int .i64 0] (Eq.trans (b := 5) rfl rfl)
              have hx2 := putAll_ext rb [.int .i64 0, .slice none 0 0, .slice none 0 0, .bool false, .int .i64 0] w8 0
              rw [hw2] at hb2 hx2
              simp only [putAll, Nat.zero_add] at hw2
              rw [hw2]
              have hxf : Ext No w w2 := HX8.out.trans hx2 (fun _ _ s => s) (fun j hj s => by have := HRB.out; omega)
              clear hw2 hp0 hp1 hp2 hp3 hp4 hq0 hq1 hq2 hq3 hq4 hy0 hy1 hy2 hy3 hy4
              have hrs : w2.cell? ⟨rb, 0, none⟩ = _ ∧ w2.cell? ⟨rb, 1, none⟩ = _ ∧ w2.cell? ⟨rb, 2, none⟩ = _ ∧ w2.cell? ⟨rb, 3, none⟩ = _ ∧ w2.cell? ⟨rb, 4, none⟩ = _ := ⟨hb2.cell 0, hb2.cell 1, hb2.cell 2, hb2.cell 3, hb2.cell 4⟩
              simp only [List.getElem?_toArray, List.getElem?_cons_zero, List.getElem?_cons_succ] at hrs
              obtain ⟨hr0, hr1, hr2, hr3, hr4⟩ := hrs
              refine bodyPost_ret (v := .tuple #[.agg #[.int .i64 0, .slice none 0 0, .slice none 0 0, .bool false, .int .i64 0], .bool false]) (by simp [results, Try.results20, go_sem, hr0, hr1, hr2, hr3, hr4]) rfl ?_
              exact ⟨hxf, .inr ⟨HNO.out, rfl⟩⟩
          · have h1b : (endS s6 != 0) = true := by simpa using h1
            dsimp only
            go_wp2_with fail
            obtain ⟨w2, hw2⟩ : ∃ w2, putAll w8 rb 0 [.int .i64 0, .slice none 0 0, .slice none 0 0, .bool false, .int .i64 0] = w2 := ⟨_, rfl⟩
            have hb2 := putAll_all HRE.out [.int .i64 0, .slice none 0 0, .slice none 0 0, .bool false, .int .i64 0] (Eq.trans (b := 5) rfl rfl)
            have hx2 := putAll_ext rb [.int .i64 0, .slice none 0 0, .slice none 0 0, .bool false, .int .i64 0] w8 0
            rw [hw2] at hb2 hx2
            simp only [putAll, Nat.zero_add] at hw2
            rw [hw2]
            have hxf : Ext No w w2 := HX8.out.trans hx2 (fun _ _ s => s) (fun j hj s => by have := HRB.out; omega)
            clear hw2 hp0 hp1 hp2 hp3 hp4 hq0 hq1 hq2 hq3 hq4 hy0 hy1 hy2 hy3 hy4
            have hrs : w2.cell? ⟨rb, 0, none⟩ = _ ∧ w2.cell? ⟨rb, 1, none⟩ = _ ∧ w2.cell? ⟨rb, 2, none⟩ = _ ∧ w2.cell? ⟨rb, 3, none⟩ = _ ∧ w2.cell? ⟨rb, 4, none⟩ = _ := ⟨hb2.cell 0, hb2.cell 1, hb2.cell 2, hb2.cell 3, hb2.cell 4⟩
            simp only [List.getElem?_toArray, List.getElem?_cons_zero, List.getElem?_cons_succ] at hrs
            obtain ⟨hr0, hr1, hr2, hr3, hr4⟩ := hrs
            refine bodyPost_ret (v := .tuple #[.agg #[.int .i64 0, .slice none 0 0, .slice none 0 0, .bool false, .int .i64 0], .bool false]) (by simp [results, Try.results20, go_sem, hr0, hr1, hr2, hr3, hr4]) rfl ?_
            exact ⟨hxf, .inr ⟨HNO.out, rfl⟩⟩
        · have h1 : endS s6 = 0 := by
            by_cases h : endS s6 = 0
            · exact h
            · exact absurd (.inl h) hbad
          have h1b : (endS s6 != 0) = false := by simpa using h1
          have h2i : decide ((1 : Int) < mark) = false := by simp; omega
          have h2n : decide (1 < mark) = false := by simp; omega
          have h3i : decide ((512 : Int) < nyf) = false := by simp; omega
          have h3n : decide (512 < nyf) = false := by simp; omega
          obtain ⟨mk1, hmk⟩ : ∃ b, decide (mark = 1) = b := ⟨_, rfl⟩
          have hmq : ((mark : Int) == 1) = mk1 := by rw [← hmk, Bool.eq_iff_iff]; simp; omega
          have hmq' : (mark == 1) = mk1 := by rw [← hmk]; rfl
          have hyes : rparA l = some ⟨wrap64 (code : Int), ns, files, mk1, wrap64 (n : Int)⟩ := by
            unfold rparA
            rw [HRP.out]
            dsimp only
            have := HYN.out
            rw [if_neg (by simpa using h1), if_neg (by omega), if_neg (by omega), hmk]
          have HYES := Lib.hid hyes; have HMK := Lib.hid hmk; clear hyes hmk
          dsimp only
          go_wp2_with fail
          obtain ⟨w2, hw2⟩ : ∃ w2, putAll w8 rb 0 [.int .i64 (wrap64 (code : Int)), .slice an k cn, .slice yf nyf cyf, .bool mk1, .int .i64 (wrap64 (n : Int))] = w2 := ⟨_, rfl⟩
          have hb2 := putAll_all HRE.out [.int .i64 (wrap64 (code : Int)), .slice an k cn, .slice yf nyf cyf, .bool mk1, .int .i64 (wrap64 (n : Int))] (Eq.trans (b := 5) rfl rfl)
          have hx2 := putAll_ext rb [.int .i64 (wrap64 (code : Int)), .slice an k cn, .slice yf nyf cyf, .bool mk1, .int .i64 (wrap64 (n : Int))] w8 0
          rw [hw2] at hb2 hx2
          simp only [putAll, Nat.zero_add] at hw2
          rw [hw2]
          have hxf : Ext No w w2 := HX8.out.trans hx2 (fun _ _ s => s) (fun j hj s => by have := HRB.out; omega)
          clear hw2 hp0 hp1 hp2 hp3 hp4 hq0 hq1 hq2 hq3 hq4 hy0 hy1 hy2 hy3 hy4
          have hrs : w2.cell? ⟨rb, 0, none⟩ = _ ∧ w2.cell? ⟨rb, 1, none⟩ = _ ∧ w2.cell? ⟨rb, 2, none⟩ = _ ∧ w2.cell? ⟨rb, 3, none⟩ = _ ∧ w2.cell? ⟨rb, 4, none⟩ = _ := ⟨hb2.cell 0, hb2.cell 1, hb2.cell 2, hb2.cell 3, hb2.cell 4⟩
          simp only [List.getElem?_toArray, List.getElem?_cons_zero, List.getElem?_cons_succ] at hrs
          obtain ⟨hr0, hr1, hr2, hr3, hr4⟩ := hrs
          refine bodyPost_ret (v := .tuple #[.agg #[.int .i64 (wrap64 (code : Int)), .slice an k cn, .slice yf nyf cyf, .bool mk1, .int .i64 (wrap64 (n : Int))], .bool true]) (by simp [results, Try.results20, go_sem, hr0, hr1, hr2, hr3, hr4]) rfl ?_
          have hof := own_ext HO8.out hx2 (fun j hj s => own_ne_type HO8.out HRE.out (by decide) (s ▸ hj))
          have hff := OwnSeq.ext HF8.out hx2 (fun j hj s => by obtain ⟨cs, hb2⟩ := OwnSeq.blk HF8.out hj; exact Blk.ne_type hb2 HRE.out (by decide) s) (fun _ _ h => h)
          exact ⟨hxf, .inl ⟨_, _, _, HYES.out, rfl, strs_own (by rw [HN.out]; exact hof), OwnSeq.filesW hff hxf⟩⟩
end Go.Proofs.Ytchejnnfbinclaa
end
