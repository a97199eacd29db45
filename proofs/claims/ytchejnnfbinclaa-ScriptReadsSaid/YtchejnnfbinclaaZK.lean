/-
  JOINED (11): the walk of ScriptBack.
-/
import Derived.Test.YtchejnnfbinclaaZJ
set_option linter.unusedVariables false
set_option linter.unusedSimpArgs false

section
/- The walk of ScriptBack. Printed by wip/mkback.py. -/
namespace Go.Proofs.Ytchejnnfbinclaa
open Go.RowKit Go.My

theorem same_flat (kind1 n1 : Int) (who1 : Nat) (flag1 : Bool) (name1 host1 : List UInt8) (files1 : List FileL) (last1 days1 day1 within1 : Int) (tag1 : List UInt8) (bits1 : List Bool) (kind2 n2 : Int) (who2 : Nat) (flag2 : Bool) (name2 host2 : List UInt8) (files2 : List FileL) (last2 days2 day2 within2 : Int) (tag2 : List UInt8) (bits2 : List Bool) (vf vb vf' vb' : Value) (w : World) (hf : IsFiles w files1 vf) (hb : IsBools w bits1 vb) (hf' : IsFiles w files2 vf') (hb' : IsBools w bits2 vb') :
    Calls Try.prog 21 #[.agg #[.int .i64 kind1, .int .i64 n1, .int .u64 (who1 : Nat), .bool flag1, .string (strB name1), .string (strB host1), vf, .int .i64 last1, .int .i64 days1, .int .i64 day1, .int .i64 within1, .string (strB tag1), vb], .agg #[.int .i64 kind2, .int .i64 n2, .int .u64 (who2 : Nat), .bool flag2, .string (strB name2), .string (strB host2), vf', .int .i64 last2, .int .i64 days2, .int .i64 day2, .int .i64 within2, .string (strB tag2), vb']] w fun e w' => Ext No w w' ∧ ∃ t, e = .returned (.bool t) ∧ (t = true ↔ (⟨kind1, n1, who1, flag1, name1, host1, files1, last1, days1, day1, within1, tag1, bits1⟩ : CmdI) = ⟨kind2, n2, who2, flag2, name2, host2, files2, last2, days2, day2, within2, tag2, bits2⟩) :=
  same29_any kind1 n1 who1 flag1 name1 host1 files1 last1 days1 day1 within1 tag1 bits1 vf vb kind2 n2 who2 flag2 name2 host2 files2 last2 days2 day2 within2 tag2 bits2 vf' vb' w hf hb hf' hb'
theorem bools_own {w : World} {B : Nat} {bs : List Bool} {v : Value} (h : w.ownsRow B 4 1 v bs.length (bs.map .bool)) : IsBools w bs v :=
  (IsRow.of_own h).congr (fun i hi => by unfold boolV; simp [List.getD_eq_getElem?_getD, hi])
/-- what Decode tells, in the flat -/
def DecF (l : List UInt8) (w : World) (e : Ending) (w' : World) : Prop :=
  Ext No w w' ∧ ((∃ kind n who flag name host files last days day within tag bits af cf ab cb, decodeC l = some ⟨kind, n, who, flag, name, host, files, last, days, day, within, tag, bits⟩ ∧ e = .returned (.tuple #[.agg #[.int .i64 kind, .int .i64 n, .int .u64 (who : Nat), .bool flag, .string (strB name), .string (strB host), .slice af files.length cf, .int .i64 last, .int .i64 days, .int .i64 day, .int .i64 within, .string (strB tag), .slice ab bits.length cb], .int .i64 0]) ∧ NewF w' w.heap.size files (.slice af files.length cf) ∧ w'.ownsRow w.heap.size 4 1 (.slice ab bits.length cb) bits.length (bits.map .bool)) ∨
    (decodeC l = none ∧ e = .returned (.tuple #[.agg #[.int .i64 0, .int .i64 0, .int .u64 0, .bool false, .string ⟨#[]⟩, .string ⟨#[]⟩, .slice none 0 0, .int .i64 0, .int .i64 0, .int .i64 0, .int .i64 0, .string ⟨#[]⟩, .slice none 0 0], .int .i64 39])))
theorem decode_flat (l : List UInt8) (a : Option Addr) (m c : Nat) (w : World) (hv : IsBytes w l (.slice a m c)) (hl : l.length ≤ 1099511627776) :
    Calls Try.prog 17 #[.slice a m c] w (DecF l w) := by
  refine (decode29_any l a m c w hv hl).mono ?_
  rintro e w' ⟨hE, ⟨cm, vf, vb, hd, rfl, hf, hb⟩ | ⟨hd, rfl⟩⟩
  · obtain ⟨kind, n, who, flag, name, host, files, last, days, day, within, tag, bits⟩ := cm
    obtain ⟨af, cf, rfl⟩ := hf.len
    obtain ⟨ab, cb, rfl⟩ := own_form hb
    exact ⟨hE, .inl ⟨kind, n, who, flag, name, host, files, last, days, day, within, tag, bits, af, cf, ab, cb, hd, rfl, hf, hb⟩⟩
  · exact ⟨hE, .inr ⟨hd, rfl⟩⟩
theorem ok_le {c : CmdI} (h : CmdOk c) : 200 + c.name.length + c.host.length + c.tag.length + c.bits.length + (filesB c.files).length ≤ 1000000000 := by
  have hb : c.files.any badF = false := by
    rw [List.any_eq_false]
    intro f hf
    have := h.each f hf
    unfold fitF at this
    unfold badF
    simp only [Bool.or_eq_true, decide_eq_true_eq, not_or]
    exact ⟨by omega, by omega⟩
  have h1 := filesB_bound c.files hb
  have h2 := h.files; have h3 := h.name; have h4 := h.host; have h5 := h.tag; have h6 := h.bits
  have h7 : c.files.length * 65664 ≤ 512 * 65664 := Nat.mul_le_mul_right _ h2
  omega

def BackVA (kind1 n1 : Int) (who1 : Nat) (flag1 : Bool) (name1 host1 : List UInt8) (last1 days1 day1 within1 : Int) (tag1 : List UInt8) (kind2 n2 : Int) (who2 : Nat) (flag2 : Bool) (name2 host2 : List UInt8) (last2 days2 day2 within2 : Int) (tag2 : List UInt8) (af1 : Option Addr) (nf1 cf1 : Nat) (ab1 : Option Addr) (nb1 cb1 : Nat) (af2 : Option Addr) (nf2 cf2 : Nat) (ab2 : Option Addr) (nb2 cb2 : Nat) (af3 : Option Addr) (nf3 cf3 : Nat) (ab3 : Option Addr) (nb3 cb3 : Nat) (k2 : Int) (ax : Option Addr) (mx cx : Nat) (ay : Option Addr) (my cy : Nat) (r : Bool) : Nat → Value → World → Prop
  | 0, v, w => v = .int .i64 0
  | 1, v, w => v = .bool false
  | 2, v, w => v = .bool false
  | 3, v, w => v = .agg #[.int .i64 kind1, .int .i64 n1, .int .u64 (who1 : Nat), .bool flag1, .string (strB name1), .string (strB host1), .slice af3 nf3 cf3, .int .i64 last1, .int .i64 days1, .int .i64 day1, .int .i64 within1, .string (strB tag1), .slice ab3 nb3 cb3]
  | 4, v, w => v = .agg #[.int .i64 kind1, .int .i64 n1, .int .u64 (who1 : Nat), .bool flag1, .string (strB name1), .string (strB host1), .slice af3 nf3 cf3, .int .i64 last1, .int .i64 days1, .int .i64 day1, .int .i64 within1, .string (strB tag1), .slice ab3 nb3 cb3]
  | 5, v, w => v = .agg #[.int .i64 kind1, .int .i64 n1, .int .u64 (who1 : Nat), .bool flag1, .string (strB name1), .string (strB host1), .slice af1 nf1 cf1, .int .i64 last1, .int .i64 days1, .int .i64 day1, .int .i64 within1, .string (strB tag1), .slice ab1 nb1 cb1]
  | 6, v, w => v = .agg #[.int .i64 kind1, .int .i64 n1, .int .u64 (who1 : Nat), .bool flag1, .string (strB name1), .string (strB host1), .slice af1 nf1 cf1, .int .i64 last1, .int .i64 days1, .int .i64 day1, .int .i64 within1, .string (strB tag1), .slice ab1 nb1 cb1]
  | 7, v, w => v = .bool true
  | 8, v, w => v = .bool false
  | 9, v, w => v = .bool false
  | 10, v, w => v = .bool false
  | 11, v, w => v = .int .i64 0
  | 12, v, w => v = .bool true
  | 13, v, w => v = .bool true
  | 14, v, w => v = .slice ax mx cx
  | 15, v, w => v = .slice ay my cy
  | 16, v, w => v = .bool r
  | 17, v, w => v = .agg #[.int .i64 kind1, .int .i64 n1, .int .u64 (who1 : Nat), .bool flag1, .string (strB name1), .string (strB host1), .slice af1 nf1 cf1, .int .i64 last1, .int .i64 days1, .int .i64 day1, .int .i64 within1, .string (strB tag1), .slice ab1 nb1 cb1]
  | 18, v, w => v = .agg #[.int .i64 kind1, .int .i64 n1, .int .u64 (who1 : Nat), .bool flag1, .string (strB name1), .string (strB host1), .slice af1 nf1 cf1, .int .i64 last1, .int .i64 days1, .int .i64 day1, .int .i64 within1, .string (strB tag1), .slice ab1 nb1 cb1]
  | 19, v, w => v = .agg #[.int .i64 kind2, .int .i64 n2, .int .u64 (who2 : Nat), .bool flag2, .string (strB name2), .string (strB host2), .slice af2 nf2 cf2, .int .i64 last2, .int .i64 days2, .int .i64 day2, .int .i64 within2, .string (strB tag2), .slice ab2 nb2 cb2]
  | 20, v, w => v = .agg #[.int .i64 kind2, .int .i64 n2, .int .u64 (who2 : Nat), .bool flag2, .string (strB name2), .string (strB host2), .slice af2 nf2 cf2, .int .i64 last2, .int .i64 days2, .int .i64 day2, .int .i64 within2, .string (strB tag2), .slice ab2 nb2 cb2]
  | 21, v, w => v = .bool r
  | 22, v, w => v = .bool false
  | 23, v, w => v = .bool false
  | _, _, _ => True
theorem BackVA_ext (kind1 n1 : Int) (who1 : Nat) (flag1 : Bool) (name1 host1 : List UInt8) (last1 days1 day1 within1 : Int) (tag1 : List UInt8) (kind2 n2 : Int) (who2 : Nat) (flag2 : Bool) (name2 host2 : List UInt8) (last2 days2 day2 within2 : Int) (tag2 : List UInt8) (af1 : Option Addr) (nf1 cf1 : Nat) (ab1 : Option Addr) (nb1 cb1 : Nat) (af2 : Option Addr) (nf2 cf2 : Nat) (ab2 : Option Addr) (nb2 cb2 : Nat) (af3 : Option Addr) (nf3 cf3 : Nat) (ab3 : Option Addr) (nb3 cb3 : Nat) (k2 : Int) (ax : Option Addr) (mx cx : Nat) (ay : Option Addr) (my cy : Nat) (r : Bool) : ∀ i v w w', BackVA kind1 n1 who1 flag1 name1 host1 last1 days1 day1 within1 tag1 kind2 n2 who2 flag2 name2 host2 last2 days2 day2 within2 tag2 af1 nf1 cf1 ab1 nb1 cb1 af2 nf2 cf2 ab2 nb2 cb2 af3 nf3 cf3 ab3 nb3 cb3 0 ax mx cx ay my cy r i v w → Ext No w w' → BackVA kind1 n1 who1 flag1 name1 host1 last1 days1 day1 within1 tag1 kind2 n2 who2 flag2 name2 host2 last2 days2 day2 within2 tag2 af1 nf1 cf1 ab1 nb1 cb1 af2 nf2 cf2 ab2 nb2 cb2 af3 nf3 cf3 ab3 nb3 cb3 0 ax mx cx ay my cy r i v w'
  | 0, _, _, _, h, _ => h
  | 1, _, _, _, h, _ => h
  | 2, _, _, _, h, _ => h
  | 3, _, _, _, h, _ => h
  | 4, _, _, _, h, x => h
  | 5, _, _, _, h, _ => h
  | 6, _, _, _, h, x => h
  | 7, _, _, _, h, x => h
  | 8, _, _, _, h, _ => h
  | 9, _, _, _, h, _ => h
  | 10, _, _, _, h, _ => h
  | 11, _, _, _, h, _ => h
  | 12, _, _, _, h, _ => h
  | 13, _, _, _, h, _ => h
  | 14, _, _, _, h, _ => h
  | 15, _, _, _, h, _ => h
  | 16, _, _, _, h, x => h
  | 17, _, _, _, h, _ => h
  | 18, _, _, _, h, x => h
  | 19, _, _, _, h, _ => h
  | 20, _, _, _, h, x => h
  | 21, _, _, _, h, x => h
  | 22, _, _, _, h, _ => h
  | 23, _, _, _, h, _ => h
  | _ + 24, _, _, _, _, _ => trivial
def BackVB (kind1 n1 : Int) (who1 : Nat) (flag1 : Bool) (name1 host1 : List UInt8) (last1 days1 day1 within1 : Int) (tag1 : List UInt8) (kind2 n2 : Int) (who2 : Nat) (flag2 : Bool) (name2 host2 : List UInt8) (last2 days2 day2 within2 : Int) (tag2 : List UInt8) (af1 : Option Addr) (nf1 cf1 : Nat) (ab1 : Option Addr) (nb1 cb1 : Nat) (af2 : Option Addr) (nf2 cf2 : Nat) (ab2 : Option Addr) (nb2 cb2 : Nat) (af3 : Option Addr) (nf3 cf3 : Nat) (ab3 : Option Addr) (nb3 cb3 : Nat) (k2 : Int) (ax : Option Addr) (mx cx : Nat) (ay : Option Addr) (my cy : Nat) (r : Bool) : Nat → Value → World → Prop
  | 0, v, w => v = .int .i64 0
  | 1, v, w => v = .bool false
  | 2, v, w => v = .bool false
  | 3, v, w => v = .agg #[.int .i64 kind1, .int .i64 n1, .int .u64 (who1 : Nat), .bool flag1, .string (strB name1), .string (strB host1), .slice af3 nf3 cf3, .int .i64 last1, .int .i64 days1, .int .i64 day1, .int .i64 within1, .string (strB tag1), .slice ab3 nb3 cb3]
  | 4, v, w => v = .agg #[.int .i64 kind1, .int .i64 n1, .int .u64 (who1 : Nat), .bool flag1, .string (strB name1), .string (strB host1), .slice af3 nf3 cf3, .int .i64 last1, .int .i64 days1, .int .i64 day1, .int .i64 within1, .string (strB tag1), .slice ab3 nb3 cb3]
  | 5, v, w => v = .agg #[.int .i64 kind1, .int .i64 n1, .int .u64 (who1 : Nat), .bool flag1, .string (strB name1), .string (strB host1), .slice af1 nf1 cf1, .int .i64 last1, .int .i64 days1, .int .i64 day1, .int .i64 within1, .string (strB tag1), .slice ab1 nb1 cb1]
  | 6, v, w => v = .agg #[.int .i64 kind1, .int .i64 n1, .int .u64 (who1 : Nat), .bool flag1, .string (strB name1), .string (strB host1), .slice af1 nf1 cf1, .int .i64 last1, .int .i64 days1, .int .i64 day1, .int .i64 within1, .string (strB tag1), .slice ab1 nb1 cb1]
  | 7, v, w => v = .bool true
  | 8, v, w => v = .bool false
  | 9, v, w => v = .bool false
  | 10, v, w => v = .bool false
  | 11, v, w => v = .int .i64 k2
  | 12, v, w => v = .bool false
  | 13, v, w => v = .bool false
  | 14, v, w => v = undef
  | 15, v, w => v = undef
  | 16, v, w => v = undef
  | 17, v, w => v = undef
  | 18, v, w => v = undef
  | 19, v, w => v = undef
  | 20, v, w => v = undef
  | 21, v, w => v = undef
  | 22, v, w => v = undef
  | 23, v, w => v = .bool false
  | _, _, _ => True
theorem BackVB_ext (kind1 n1 : Int) (who1 : Nat) (flag1 : Bool) (name1 host1 : List UInt8) (last1 days1 day1 within1 : Int) (tag1 : List UInt8) (kind2 n2 : Int) (who2 : Nat) (flag2 : Bool) (name2 host2 : List UInt8) (last2 days2 day2 within2 : Int) (tag2 : List UInt8) (af1 : Option Addr) (nf1 cf1 : Nat) (ab1 : Option Addr) (nb1 cb1 : Nat) (af2 : Option Addr) (nf2 cf2 : Nat) (ab2 : Option Addr) (nb2 cb2 : Nat) (af3 : Option Addr) (nf3 cf3 : Nat) (ab3 : Option Addr) (nb3 cb3 : Nat) (k2 : Int) (ax : Option Addr) (mx cx : Nat) (ay : Option Addr) (my cy : Nat) (r : Bool) : ∀ i v w w', BackVB kind1 n1 who1 flag1 name1 host1 last1 days1 day1 within1 tag1 kind2 n2 who2 flag2 name2 host2 last2 days2 day2 within2 tag2 af1 nf1 cf1 ab1 nb1 cb1 af2 nf2 cf2 ab2 nb2 cb2 af3 nf3 cf3 ab3 nb3 cb3 k2 ax mx cx ay my cy r i v w → Ext No w w' → BackVB kind1 n1 who1 flag1 name1 host1 last1 days1 day1 within1 tag1 kind2 n2 who2 flag2 name2 host2 last2 days2 day2 within2 tag2 af1 nf1 cf1 ab1 nb1 cb1 af2 nf2 cf2 ab2 nb2 cb2 af3 nf3 cf3 ab3 nb3 cb3 k2 ax mx cx ay my cy r i v w'
  | 0, _, _, _, h, _ => h
  | 1, _, _, _, h, _ => h
  | 2, _, _, _, h, _ => h
  | 3, _, _, _, h, _ => h
  | 4, _, _, _, h, x => h
  | 5, _, _, _, h, _ => h
  | 6, _, _, _, h, x => h
  | 7, _, _, _, h, x => h
  | 8, _, _, _, h, _ => h
  | 9, _, _, _, h, _ => h
  | 10, _, _, _, h, _ => h
  | 11, _, _, _, h, _ => h
  | 12, _, _, _, h, _ => h
  | 13, _, _, _, h, _ => h
  | 14, _, _, _, h, _ => h
  | 15, _, _, _, h, _ => h
  | 16, _, _, _, h, _ => h
  | 17, _, _, _, h, _ => h
  | 18, _, _, _, h, _ => h
  | 19, _, _, _, h, _ => h
  | 20, _, _, _, h, _ => h
  | 21, _, _, _, h, _ => h
  | 22, _, _, _, h, _ => h
  | 23, _, _, _, h, _ => h
  | _ + 24, _, _, _, _, _ => trivial
theorem same_zero (w : World) : Calls Try.prog 21 #[.agg #[.int .i64 0, .int .i64 0, .int .u64 0, .bool false, .string ⟨#[]⟩, .string ⟨#[]⟩, .slice none 0 0, .int .i64 0, .int .i64 0, .int .i64 0, .int .i64 0, .string ⟨#[]⟩, .slice none 0 0], .agg #[.int .i64 0, .int .i64 0, .int .u64 0, .bool false, .string ⟨#[]⟩, .string ⟨#[]⟩, .slice none 0 0, .int .i64 0, .int .i64 0, .int .i64 0, .int .i64 0, .string ⟨#[]⟩, .slice none 0 0]] w fun e w' => Ext No w w' ∧ e = .returned (.bool true) := by
  have hf : IsFiles w ([] : List FileL) (.slice none 0 0) := ⟨none, 0, rfl, Nat.le_refl 0, by decide, fun i hi => by simp at hi⟩
  have hb : IsBools w ([] : List Bool) (.slice none 0 0) := IsRow.nil _ _
  exact (same_flat 0 0 0 false [] [] [] 0 0 0 0 [] [] 0 0 0 false [] [] [] 0 0 0 0 [] [] _ _ _ _ w hf hb hf hb).mono fun e w' ⟨h1, t, h2, h3⟩ => ⟨h1, by rw [h2, h3.2 rfl]⟩

set_option maxRecDepth 100000 in
set_option maxHeartbeats 40000000 in
theorem scriptBack_fr (c1 : CmdI) (v1 : Value) (c2 : CmdI) (v2 : Value) (l : List UInt8) (v3 : Value) (w : World) (h1 : IsCmdA w c1 v1) (h2 : IsCmdA w c2 v2) (hl : IsBytes w l v3) :
    Calls Try.prog 6 #[v1, v2, v3] w fun e w' => e = .returned (.bool true) ∧ Ext No w w' := by
  obtain ⟨vf, vb, rfl, hf, hb, hwho, -, hn, -, -, hday, hwithin⟩ := h1
  obtain ⟨kind1, n1, who1, flag1, name1, host1, files1, last1, days1, day1, within1, tag1, bits1⟩ := c1
  obtain ⟨af1, nf1, cf1, rfl⟩ := files_form hf
  obtain ⟨ab1, nb1, cb1, rfl⟩ := bools_form hb
  dsimp only at hf hb hwho hn hday hwithin
  have HF1 := Lib.hid hf; have HZ1 := Lib.hid hb; have HW1 := Lib.hid (show who1 ≤ 18446744073709551615 by omega); have HFT1 := Lib.hid (show CmdFit ⟨kind1, n1, who1, flag1, name1, host1, files1, last1, days1, day1, within1, tag1, bits1⟩ from ⟨hwho, hn, hday, hwithin⟩)
  clear hf hb hwho hn hday hwithin
  obtain ⟨vf, vb, rfl, hf, hb, hwho, -, hn, -, -, hday, hwithin⟩ := h2
  obtain ⟨kind2, n2, who2, flag2, name2, host2, files2, last2, days2, day2, within2, tag2, bits2⟩ := c2
  obtain ⟨af2, nf2, cf2, rfl⟩ := files_form hf
  obtain ⟨ab2, nb2, cb2, rfl⟩ := bools_form hb
  dsimp only at hf hb hwho hn hday hwithin
  have HF2 := Lib.hid hf; have HZ2 := Lib.hid hb; have HW2 := Lib.hid (show who2 ≤ 18446744073709551615 by omega); have HFT2 := Lib.hid (show CmdFit ⟨kind2, n2, who2, flag2, name2, host2, files2, last2, days2, day2, within2, tag2, bits2⟩ from ⟨hwho, hn, hday, hwithin⟩)
  clear hf hb hwho hn hday hwithin
  obtain ⟨al, cl, rfl, -⟩ := id hl
  obtain ⟨ml, hmle⟩ : ∃ m, m = l.length := ⟨_, rfl⟩
  rw [← hmle] at hl ⊢
  have HML := Lib.hid hmle; have HL := Lib.hid hl
  clear hmle hl
  unfold cmdVal
  dsimp only
  have hx : Ext No w ((w.alloc (.cells #[.int .i64 kind1, .int .i64 n1, .int .u64 (who1 : Nat), .bool flag1, .string (strB name1), .string (strB host1), .slice af1 nf1 cf1, .int .i64 last1, .int .i64 days1, .int .i64 day1, .int .i64 within1, .string (strB tag1), .slice ab1 nb1 cb1] 28)).alloc (.cells #[.int .i64 kind2, .int .i64 n2, .int .u64 (who2 : Nat), .bool flag2, .string (strB name2), .string (strB host2), .slice af2 nf2 cf2, .int .i64 last2, .int .i64 days2, .int .i64 day2, .int .i64 within2, .string (strB tag2), .slice ab2 nb2 cb2] 28)) := ((Ext.refl No w).alloc _).alloc _
  have hB1 := (Blk.new w #[.int .i64 kind1, .int .i64 n1, .int .u64 (who1 : Nat), .bool flag1, .string (strB name1), .string (strB host1), .slice af1 nf1 cf1, .int .i64 last1, .int .i64 days1, .int .i64 day1, .int .i64 within1, .string (strB tag1), .slice ab1 nb1 cb1] 28).alloc (.cells #[.int .i64 kind2, .int .i64 n2, .int .u64 (who2 : Nat), .bool flag2, .string (strB name2), .string (strB host2), .slice af2 nf2 cf2, .int .i64 last2, .int .i64 days2, .int .i64 day2, .int .i64 within2, .string (strB tag2), .slice ab2 nb2 cb2] 28)
  have hB2 := Blk.new (w.alloc (.cells #[.int .i64 kind1, .int .i64 n1, .int .u64 (who1 : Nat), .bool flag1, .string (strB name1), .string (strB host1), .slice af1 nf1 cf1, .int .i64 last1, .int .i64 days1, .int .i64 day1, .int .i64 within1, .string (strB tag1), .slice ab1 nb1 cb1] 28)) #[.int .i64 kind2, .int .i64 n2, .int .u64 (who2 : Nat), .bool flag2, .string (strB name2), .string (strB host2), .slice af2 nf2 cf2, .int .i64 last2, .int .i64 days2, .int .i64 day2, .int .i64 within2, .string (strB tag2), .slice ab2 nb2 cb2] 28
  rw [World.size_alloc] at hB2
  have HX := Lib.hid hx; have HBa := Lib.hid hB1; have HBb := Lib.hid hB2; clear hx hB1 hB2
  go_enter Try.func6, Try.ntmps6
  go_wp2_with fail
  refine (alive_any _).mono ?_
  rintro e w1 ⟨rfl, hx1⟩
  have HX1 := Lib.hid (HX.out.trans' hx1); have HA1 := Lib.hid (HBa.out.ext hx1 (fun x => x)); have HE1 := Lib.hid (HBb.out.ext hx1 (fun x => x)); clear hx1 HX HBa HBb
  obtain ⟨b2, hb2⟩ : ∃ b, b = w.heap.size + 1 := ⟨_, rfl⟩
  rw [← hb2] at HE1 ⊢
  generalize w.heap.size = b1 at *
  clear hb2
  have hd0 := HA1.out.cell 0; have hd1 := HA1.out.cell 1; have hd2 := HA1.out.cell 2; have hd3 := HA1.out.cell 3; have hd4 := HA1.out.cell 4; have hd5 := HA1.out.cell 5; have hd6 := HA1.out.cell 6; have hd7 := HA1.out.cell 7; have hd8 := HA1.out.cell 8; have hd9 := HA1.out.cell 9; have hd10 := HA1.out.cell 10; have hd11 := HA1.out.cell 11; have hd12 := HA1.out.cell 12
  simp only [List.getElem?_toArray, List.getElem?_cons_succ, List.getElem?_cons_zero] at hd0 hd1 hd2 hd3 hd4 hd5 hd6 hd7 hd8 hd9 hd10 hd11 hd12
  go_wp2_with fail
  clear hd0 hd1 hd2 hd3 hd4 hd5 hd6 hd7 hd8 hd9 hd10 hd11 hd12
  refine (few_flat kind1 n1 who1 flag1 name1 host1 files1 last1 days1 day1 within1 tag1 bits1 _ _ w1 (HF1.out.ext0 HX1.out) (HZ1.out.ext0 HX1.out)).mono ?_
  rintro e w2 ⟨hx2, t, rfl, ht⟩
  have HX2 := Lib.hid (HX1.out.trans' hx2); have HA2 := Lib.hid (HA1.out.ext hx2 (fun x => x)); have HE2 := Lib.hid (HE1.out.ext hx2 (fun x => x)); clear hx2 HX1 HA1 HE1
  cases t
  · clear ht
    dsimp only
    go_wp2_with fail
    go_ret
    exact ⟨rfl, HX2.out⟩
  have HP1 := Lib.hid (few_le (ht.1 rfl))
  clear ht
  have hd0 := HE2.out.cell 0; have hd1 := HE2.out.cell 1; have hd2 := HE2.out.cell 2; have hd3 := HE2.out.cell 3; have hd4 := HE2.out.cell 4; have hd5 := HE2.out.cell 5; have hd6 := HE2.out.cell 6; have hd7 := HE2.out.cell 7; have hd8 := HE2.out.cell 8; have hd9 := HE2.out.cell 9; have hd10 := HE2.out.cell 10; have hd11 := HE2.out.cell 11; have hd12 := HE2.out.cell 12
  simp only [List.getElem?_toArray, List.getElem?_cons_succ, List.getElem?_cons_zero] at hd0 hd1 hd2 hd3 hd4 hd5 hd6 hd7 hd8 hd9 hd10 hd11 hd12
  dsimp only
  go_wp2_with fail
  clear hd0 hd1 hd2 hd3 hd4 hd5 hd6 hd7 hd8 hd9 hd10 hd11 hd12
  refine (few_flat kind2 n2 who2 flag2 name2 host2 files2 last2 days2 day2 within2 tag2 bits2 _ _ w2 (HF2.out.ext0 HX2.out) (HZ2.out.ext0 HX2.out)).mono ?_
  rintro e w3 ⟨hx3, t, rfl, ht⟩
  have HX3 := Lib.hid (HX2.out.trans' hx3); have HA3 := Lib.hid (HA2.out.ext hx3 (fun x => x)); have HE3 := Lib.hid (HE2.out.ext hx3 (fun x => x)); clear hx3 HX2 HA2 HE2
  cases t
  · clear ht
    dsimp only
    go_wp2_with fail
    go_ret
    exact ⟨rfl, HX3.out⟩
  have HP2 := Lib.hid (few_le (ht.1 rfl))
  clear ht
  by_cases h600 : 600 < ml
  · have h600i : (600 : Int) < ml := by omega
    dsimp only
    go_wp2_with fail
    go_ret
    exact ⟨rfl, HX3.out⟩
  have h600i : decide ((600 : Int) < ml) = false := by simp; omega
  have hml : ml ≤ 600 := by omega
  have hd0 := HA3.out.cell 0; have hd1 := HA3.out.cell 1; have hd2 := HA3.out.cell 2; have hd3 := HA3.out.cell 3; have hd4 := HA3.out.cell 4; have hd5 := HA3.out.cell 5; have hd6 := HA3.out.cell 6; have hd7 := HA3.out.cell 7; have hd8 := HA3.out.cell 8; have hd9 := HA3.out.cell 9; have hd10 := HA3.out.cell 10; have hd11 := HA3.out.cell 11; have hd12 := HA3.out.cell 12
  simp only [List.getElem?_toArray, List.getElem?_cons_succ, List.getElem?_cons_zero] at hd0 hd1 hd2 hd3 hd4 hd5 hd6 hd7 hd8 hd9 hd10 hd11 hd12
  dsimp only
  go_wp2_with fail
  clear hd0 hd1 hd2 hd3 hd4 hd5 hd6 hd7 hd8 hd9 hd10 hd11 hd12
  clear h600i h600
  refine (encode_flat kind1 n1 who1 flag1 name1 host1 files1 last1 days1 day1 within1 tag1 bits1 _ _ w3 (HF1.out.ext0 HX3.out) (HZ1.out.ext0 HX3.out) HW1.out (Nat.le_trans HP1.out (by decide))).mono ?_
  rintro e w4 ⟨hx4, hc1⟩
  have HX4 := Lib.hid (HX3.out.trans' hx4); have HA4 := Lib.hid (HA3.out.ext hx4 (fun x => x)); have HE4 := Lib.hid (HE3.out.ext hx4 (fun x => x)); clear hx4 HX3 HA3 HE3
  have HC2 := Lib.hid (fun W hX => encode_flat kind2 n2 who2 flag2 name2 host2 files2 last2 days2 day2 within2 tag2 bits2 (.slice af2 nf2 cf2) (.slice ab2 nb2 cb2) W (HF2.out.ext0 hX) (HZ2.out.ext0 hX) HW2.out (Nat.le_trans HP2.out (by decide)))
  have HI1 := Lib.hid (fun l => decodeC_iff l ⟨kind1, n1, who1, flag1, name1, host1, files1, last1, days1, day1, within1, tag1, bits1⟩); have HI2 := Lib.hid (fun l => decodeC_iff l ⟨kind2, n2, who2, flag2, name2, host2, files2, last2, days2, day2, within2, tag2, bits2⟩)
  have HO1 := Lib.hid (checkN_ok ⟨kind1, n1, who1, flag1, name1, host1, files1, last1, days1, day1, within1, tag1, bits1⟩); have HO2 := Lib.hid (checkN_ok ⟨kind2, n2, who2, flag2, name2, host2, files2, last2, days2, day2, within2, tag2, bits2⟩)
  obtain ⟨k1, hk1⟩ : ∃ k, k = checkN ⟨kind1, n1, who1, flag1, name1, host1, files1, last1, days1, day1, within1, tag1, bits1⟩ := ⟨_, rfl⟩
  obtain ⟨k2, hk2⟩ : ∃ k, k = checkN ⟨kind2, n2, who2, flag2, name2, host2, files2, last2, days2, day2, within2, tag2, bits2⟩ := ⟨_, rfl⟩
  rw [← hk1] at hc1
  have HK1 := Lib.hid hk1; have HK2 := Lib.hid hk2
  clear hk1 hk2
  generalize hlb1 : cmdB ⟨kind1, n1, who1, flag1, name1, host1, files1, last1, days1, day1, within1, tag1, bits1⟩ = lb1 at *
  have HLB1 := Lib.hid hlb1; clear hlb1
  have hd0 := HE4.out.cell 0; have hd1 := HE4.out.cell 1; have hd2 := HE4.out.cell 2; have hd3 := HE4.out.cell 3; have hd4 := HE4.out.cell 4; have hd5 := HE4.out.cell 5; have hd6 := HE4.out.cell 6; have hd7 := HE4.out.cell 7; have hd8 := HE4.out.cell 8; have hd9 := HE4.out.cell 9; have hd10 := HE4.out.cell 10; have hd11 := HE4.out.cell 11; have hd12 := HE4.out.cell 12
  simp only [List.getElem?_toArray, List.getElem?_cons_succ, List.getElem?_cons_zero] at hd0 hd1 hd2 hd3 hd4 hd5 hd6 hd7 hd8 hd9 hd10 hd11 hd12
  rcases hc1 with ⟨hk10, x4, rfl, hx4⟩ | ⟨hk10, rfl⟩
  · subst hk10
    have hbx := hx4.bytes
    obtain ⟨ax, cx, rfl⟩ := own_form hx4
    obtain ⟨mx, hmx⟩ : ∃ m, m = lb1.length := ⟨_, rfl⟩
    rw [← hmx] at hbx ⊢
    have HMX := Lib.hid hmx; have HBX4 := Lib.hid hbx
    have HLE := Lib.hid (show mx ≤ 1000000000 by
      rw [hmx, ← HLB1.out]; have h1 := HP1.out; unfold cmdB; simp only [List.length_append, numB_length, bytesB_length, bitsB_length]; omega)
    have hok1 := HO1.out.1 HK1.out.symm
    have HDEC := Lib.hid ((HI1.out lb1).2 ⟨rfl, hok1, HFT1.out⟩)
    clear hx4 hbx hmx
    dsimp only
    go_wp2_with fail
    clear hd0 hd1 hd2 hd3 hd4 hd5 hd6 hd7 hd8 hd9 hd10 hd11 hd12
    refine (HC2.out w4 HX4.out).mono ?_
    rintro e w5 ⟨hx5, hc2⟩
    have HX5 := Lib.hid (HX4.out.trans' hx5); have HA5 := Lib.hid (HA4.out.ext hx5 (fun x => x)); have HE5 := Lib.hid (HE4.out.ext hx5 (fun x => x))
    rw [← HK2.out] at hc2
    have HBX5 := Lib.hid (HBX4.out.ext0 hx5)
    clear hx5 HX4 HA4 HE4 HBX4
    rcases hc2 with ⟨hk20, x5, rfl, hx5⟩ | ⟨hk20, rfl⟩
    · subst hk20
      have hby := hx5.bytes
      obtain ⟨ay, cy, rfl⟩ := own_form hx5
      obtain ⟨my, hmy⟩ : ∃ m, m = (cmdB ⟨kind2, n2, who2, flag2, name2, host2, files2, last2, days2, day2, within2, tag2, bits2⟩).length := ⟨_, rfl⟩
      rw [← hmy] at hby ⊢
      have HBY5 := Lib.hid hby
      have hok2 := HO2.out.1 HK2.out.symm
      have hinj : lb1 = cmdB ⟨kind2, n2, who2, flag2, name2, host2, files2, last2, days2, day2, within2, tag2, bits2⟩ ↔ (⟨kind1, n1, who1, flag1, name1, host1, files1, last1, days1, day1, within1, tag1, bits1⟩ : CmdI) = ⟨kind2, n2, who2, flag2, name2, host2, files2, last2, days2, day2, within2, tag2, bits2⟩ := by
        constructor
        · intro h
          have e1 := (HI2.out lb1).2 ⟨h, hok2, HFT2.out⟩
          rw [HDEC.out] at e1
          exact Option.some.inj e1
        · intro h; rw [← h, HLB1.out]
      obtain ⟨r, hr⟩ : ∃ r : Bool, r = decide (lb1 = cmdB ⟨kind2, n2, who2, flag2, name2, host2, files2, last2, days2, day2, within2, tag2, bits2⟩) := ⟨_, rfl⟩
      have HR := Lib.hid (show decide (lb1 = cmdB ⟨kind2, n2, who2, flag2, name2, host2, files2, last2, days2, day2, within2, tag2, bits2⟩) = r ∧ ∀ t : Bool, (t = true ↔ (⟨kind1, n1, who1, flag1, name1, host1, files1, last1, days1, day1, within1, tag1, bits1⟩ : CmdI) = ⟨kind2, n2, who2, flag2, name2, host2, files2, last2, days2, day2, within2, tag2, bits2⟩) → t = r from ⟨hr.symm, fun t ht => by
        rw [hr]
        cases t
        · have h1 : ¬ lb1 = cmdB ⟨kind2, n2, who2, flag2, name2, host2, files2, last2, days2, day2, within2, tag2, bits2⟩ := fun h => absurd (ht.2 (hinj.1 h)) (by decide)
          rw [decide_eq_false h1]
        · rw [decide_eq_true (hinj.2 (ht.1 rfl))]⟩)
      generalize cmdB ⟨kind2, n2, who2, flag2, name2, host2, files2, last2, days2, day2, within2, tag2, bits2⟩ = lb2 at *
      clear hx5 hby hmy hok1 hok2 hinj hr
      dsimp only
      go_wp2_with fail
      refine (decode_flat lb1 ax mx cx w5 HBX5.out (by rw [← HMX.out]; have := HLE.out; omega)).mono ?_
      rintro e w6 ⟨hE6, ⟨kind3, n3, who3, flag3, name3, host3, files3, last3, days3, day3, within3, tag3, bits3, af3, cf3, ab3, cb3, hd, rfl, hf3, hb3⟩ | ⟨hd, -⟩⟩
      case inr => rw [HDEC.out] at hd; cases hd
      rw [HDEC.out] at hd
      simp only [Option.some.injEq, CmdI.mk.injEq] at hd
      obtain ⟨rfl, rfl, rfl, rfl, rfl, rfl, rfl, rfl, rfl, rfl, rfl, rfl, rfl⟩ := hd
      have hf3' := hf3.files
      have hb3' := bools_own hb3
      obtain ⟨nf3, hnf3⟩ : ∃ m, m = files1.length := ⟨_, rfl⟩
      obtain ⟨nb3, hnb3⟩ : ∃ m, m = bits1.length := ⟨_, rfl⟩
      rw [← hnf3] at hf3' ⊢
      rw [← hnb3] at hb3' ⊢
      have hxA : Ext No w6 (w6.alloc (.cells #[.int .i64 kind1, .int .i64 n1, .int .u64 (who1 : Nat), .bool flag1, .string (strB name1), .string (strB host1), .slice af3 nf3 cf3, .int .i64 last1, .int .i64 days1, .int .i64 day1, .int .i64 within1, .string (strB tag1), .slice ab3 nb3 cb3] 28)) := (Ext.refl No w6).alloc _
      have hE := hE6.trans' hxA
      have hEE := Lib.hid hE
      have HX7 := Lib.hid (HX5.out.trans' hE); have HB1 := Lib.hid (HA5.out.ext hE (fun x => x)); have HB2 := Lib.hid (HE5.out.ext hE (fun x => x)); have HBX := Lib.hid (HBX5.out.ext0 hE)
      have HB3 := Lib.hid (Blk.new w6 #[.int .i64 kind1, .int .i64 n1, .int .u64 (who1 : Nat), .bool flag1, .string (strB name1), .string (strB host1), .slice af3 nf3 cf3, .int .i64 last1, .int .i64 days1, .int .i64 day1, .int .i64 within1, .string (strB tag1), .slice ab3 nb3 cb3] 28)
      have HF3 := Lib.hid (hf3'.ext0 hxA); have HZ3 := Lib.hid (hb3'.ext0 hxA)
      have HF1' := HF1; have HF2' := HF2; have HZ1' := HZ1; have HZ2' := HZ2
      have HF1 := Lib.hid (HF1'.out.ext0 HX7.out); have HZ1 := Lib.hid (HZ1'.out.ext0 HX7.out); have HF2 := Lib.hid (HF2'.out.ext0 HX7.out); have HZ2 := Lib.hid (HZ2'.out.ext0 HX7.out)
      clear hE6 hxA hE hf3 hb3 hf3' hb3' hnf3 hnb3 HX5 HA5 HE5 HBX5 HF1' HF2' HZ1' HZ2'
      have HBY := Lib.hid (HBY5.out.ext0 (show Ext No w5 _ from hEE.out))
      clear HBY5 hEE
      dsimp only
      go_wp2_with fail
      generalize w6.heap.size = b3 at *
      refine wp_region_headG 24 (fun i => !([] : List Nat).contains i) No (BackVA kind1 n1 who1 flag1 name1 host1 last1 days1 day1 within1 tag1 kind2 n2 who2 flag2 name2 host2 last2 days2 day2 within2 tag2 af1 nf1 cf1 ab1 nb1 cb1 af2 nf2 cf2 ab2 nb2 cb2 af3 nf3 cf3 ab3 nb3 cb3 0 ax mx cx ay my cy r) (by kernel_rfl) (by kernel_rfl) (by kernel_rfl) (BackVA_ext kind1 n1 who1 flag1 name1 host1 last1 days1 day1 within1 tag1 kind2 n2 who2 flag2 name2 host2 last2 days2 day2 within2 tag2 af1 nf1 cf1 ab1 nb1 cb1 af2 nf2 cf2 ab2 nb2 cb2 af3 nf3 cf3 ab3 nb3 cb3 0 ax mx cx ay my cy r) (HeadStepsG.cons (by rfl) (by exact trivial) ?_ (HeadStepsG.cons (by rfl) (by exact trivial) ?_ (HeadStepsG.cons (by rfl) (by exact trivial) ?_ (HeadStepsG.cons (by rfl) (by exact fun _ _ h => h) ?_ (HeadStepsG.cons (by rfl) (by exact fun _ _ h => h) ?_ (HeadStepsG.cons (by rfl) (by exact fun _ _ h => h) ?_ (HeadStepsG.cons (by rfl) (by exact fun _ _ h => h) ?_ (HeadStepsG.cons (by rfl) (by exact fun _ _ h => h) ?_ (HeadStepsG.cons (by rfl) (by exact fun _ _ h => h) ?_ (HeadStepsG.cons (by rfl) (by exact trivial) ?_ (HeadStepsG.cons (by rfl) (by exact trivial) ?_ (HeadStepsG.cons (by rfl) (by exact fun _ _ h => h) ?_ (HeadStepsG.cons (by rfl) (by exact fun _ _ h => h) ?_ (HeadStepsG.cons (by rfl) (by exact fun _ _ h => h) ?_ (HeadStepsG.cons (by rfl) (by exact fun _ _ h => h) ?_ (HeadStepsG.cons (by rfl) (by exact fun _ _ h => h) ?_ (HeadStepsG.cons (by rfl) (by exact fun _ _ h => h) ?_ (HeadStepsG.cons (by rfl) (by exact fun _ _ h => h) ?_ (HeadStepsG.cons (by rfl) (by exact fun _ _ h => h) ?_ (HeadStepsG.cons (by rfl) (by exact fun _ _ h => h) ?_ (HeadStepsG.cons (by rfl) (by exact fun _ _ h => h) ?_ (HeadStepsG.cons (by rfl) (by exact fun _ _ h => h) ?_ (HeadStepsG.cons (by rfl) (by exact fun _ _ h => h) ?_ (HeadStepsG.cons (by rfl) (by exact fun _ _ h => h) ?_ HeadStepsG.nil)))))))))))))))))))))))) ?_
      · -- slot 49
        intro ac wk hx hsame hdep K hK
        have d12 : ac.tmps.getD 12 undef = .int .i64 0 := hsame 12 (by kernel_rfl)
        have e12 := d12
        rw [Array.getD_eq_getD_getElem?] at e12
        clear hsame hdep
        go_simp
        exact hK _ _ (Ext.refl _ wk) rfl
      · -- slot 50
        intro ac wk hx hsame hdep K hK
        have d49 : ac.tmps.getD 49 undef = .int .i64 0 := hdep 0 (by kernel_rfl)
        have e49 := d49
        rw [Array.getD_eq_getD_getElem?] at e49
        clear hsame hdep
        go_simp
        exact hK _ _ (Ext.refl _ wk) rfl
      · -- slot 51
        intro ac wk hx hsame hdep K hK
        have d50 : ac.tmps.getD 50 undef = .bool false := hdep 1 (by kernel_rfl)
        have e50 := d50
        rw [Array.getD_eq_getD_getElem?] at e50
        clear hsame hdep
        go_simp
        exact hK _ _ (Ext.refl _ wk) rfl
      · -- slot 52
        intro ac wk hx hsame hdep K hK
        have d11 : ac.tmps.getD 11 undef = .pointer (some ⟨b3, 0, none⟩) := hsame 11 (by kernel_rfl)
        have e11 := d11
        rw [Array.getD_eq_getD_getElem?] at e11
        clear hsame hdep
        have hz := HB3.out.drew.ext hx (fun s => s)
        have hc0 := hz.cell 0; have hc1 := hz.cell 1; have hc2 := hz.cell 2; have hc3 := hz.cell 3; have hc4 := hz.cell 4; have hc5 := hz.cell 5; have hc6 := hz.cell 6; have hc7 := hz.cell 7; have hc8 := hz.cell 8; have hc9 := hz.cell 9; have hc10 := hz.cell 10; have hc11 := hz.cell 11; have hc12 := hz.cell 12
        simp only [List.getElem?_toArray, List.getElem?_cons_succ, List.getElem?_cons_zero] at hc0 hc1 hc2 hc3 hc4 hc5 hc6 hc7 hc8 hc9 hc10 hc11 hc12
        clear hz
        go_simp
        exact hK _ _ (Ext.refl _ wk) rfl
      · -- slot 53
        intro ac wk hx hsame hdep K hK
        have d52 : ac.tmps.getD 52 undef = .agg #[.int .i64 kind1, .int .i64 n1, .int .u64 (who1 : Nat), .bool flag1, .string (strB name1), .string (strB host1), .slice af3 nf3 cf3, .int .i64 last1, .int .i64 days1, .int .i64 day1, .int .i64 within1, .string (strB tag1), .slice ab3 nb3 cb3] := hdep 3 (by kernel_rfl)
        have e52 := d52
        rw [Array.getD_eq_getD_getElem?] at e52
        clear hsame hdep
        go_simp
        refine (command_flat kind1 n1 who1 flag1 name1 host1 last1 days1 day1 within1 tag1 _ _ wk (slice_ex _ _ _) (slice_ex _ _ _)).mono ?_
        rintro e w' ⟨rfl, hx'⟩
        exact hK _ _ hx' rfl
      · -- slot 54
        intro ac wk hx hsame hdep K hK
        have d3 : ac.tmps.getD 3 undef = .pointer (some ⟨b1, 0, none⟩) := hsame 3 (by kernel_rfl)
        have e3 := d3
        rw [Array.getD_eq_getD_getElem?] at e3
        clear hsame hdep
        have hz := HB1.out.drew.ext hx (fun s => s)
        have hc0 := hz.cell 0; have hc1 := hz.cell 1; have hc2 := hz.cell 2; have hc3 := hz.cell 3; have hc4 := hz.cell 4; have hc5 := hz.cell 5; have hc6 := hz.cell 6; have hc7 := hz.cell 7; have hc8 := hz.cell 8; have hc9 := hz.cell 9; have hc10 := hz.cell 10; have hc11 := hz.cell 11; have hc12 := hz.cell 12
        simp only [List.getElem?_toArray, List.getElem?_cons_succ, List.getElem?_cons_zero] at hc0 hc1 hc2 hc3 hc4 hc5 hc6 hc7 hc8 hc9 hc10 hc11 hc12
        clear hz
        go_simp
        exact hK _ _ (Ext.refl _ wk) rfl
      · -- slot 55
        intro ac wk hx hsame hdep K hK
        have d54 : ac.tmps.getD 54 undef = .agg #[.int .i64 kind1, .int .i64 n1, .int .u64 (who1 : Nat), .bool flag1, .string (strB name1), .string (strB host1), .slice af1 nf1 cf1, .int .i64 last1, .int .i64 days1, .int .i64 day1, .int .i64 within1, .string (strB tag1), .slice ab1 nb1 cb1] := hdep 5 (by kernel_rfl)
        have e54 := d54
        rw [Array.getD_eq_getD_getElem?] at e54
        clear hsame hdep
        go_simp
        refine (command_flat kind1 n1 who1 flag1 name1 host1 last1 days1 day1 within1 tag1 _ _ wk (slice_ex _ _ _) (slice_ex _ _ _)).mono ?_
        rintro e w' ⟨rfl, hx'⟩
        exact hK _ _ hx' rfl
      · -- slot 56
        intro ac wk hx hsame hdep K hK
        have p53 : (ac.tmps.getD 53 undef) = .agg #[.int .i64 kind1, .int .i64 n1, .int .u64 (who1 : Nat), .bool flag1, .string (strB name1), .string (strB host1), .slice af3 nf3 cf3, .int .i64 last1, .int .i64 days1, .int .i64 day1, .int .i64 within1, .string (strB tag1), .slice ab3 nb3 cb3] := hdep 4 (by kernel_rfl)
        have d53 := p53
        have e53 := d53
        rw [Array.getD_eq_getD_getElem?] at e53
        have p55 : (ac.tmps.getD 55 undef) = .agg #[.int .i64 kind1, .int .i64 n1, .int .u64 (who1 : Nat), .bool flag1, .string (strB name1), .string (strB host1), .slice af1 nf1 cf1, .int .i64 last1, .int .i64 days1, .int .i64 day1, .int .i64 within1, .string (strB tag1), .slice ab1 nb1 cb1] := hdep 6 (by kernel_rfl)
        have d55 := p55
        have e55 := d55
        rw [Array.getD_eq_getD_getElem?] at e55
        clear hsame hdep
        go_simp
        refine (same_flat kind1 n1 who1 flag1 name1 host1 files1 last1 days1 day1 within1 tag1 bits1 kind1 n1 who1 flag1 name1 host1 files1 last1 days1 day1 within1 tag1 bits1 _ _ _ _ wk (HF3.out.ext0 (Dr.extN hx)) (HZ3.out.ext0 (Dr.extN hx)) (HF1.out.ext0 (Dr.extN hx)) (HZ1.out.ext0 (Dr.extN hx))).mono ?_
        rintro e w' ⟨hx', t, rfl, ht⟩
        exact hK _ _ hx' (congrArg Value.bool (ht.2 rfl))
      · -- slot 57
        intro ac wk hx hsame hdep K hK
        have p56 : (ac.tmps.getD 56 undef) = .bool true := hdep 7 (by kernel_rfl)
        have d56 := p56
        have e56 := d56
        rw [Array.getD_eq_getD_getElem?] at e56
        clear hsame hdep
        go_simp
        exact hK _ _ (Ext.refl _ wk) rfl
      · -- slot 58
        intro ac wk hx hsame hdep K hK
        have d51 : ac.tmps.getD 51 undef = .bool false := hdep 2 (by kernel_rfl)
        have e51 := d51
        rw [Array.getD_eq_getD_getElem?] at e51
        have d57 : ac.tmps.getD 57 undef = .bool false := hdep 8 (by kernel_rfl)
        have e57 := d57
        rw [Array.getD_eq_getD_getElem?] at e57
        clear hsame hdep
        go_simp
        exact hK _ _ (Ext.refl _ wk) rfl
      · -- slot 59
        intro ac wk hx hsame hdep K hK
        have d58 : ac.tmps.getD 58 undef = .bool false := hdep 9 (by kernel_rfl)
        have e58 := d58
        rw [Array.getD_eq_getD_getElem?] at e58
        clear hsame hdep
        go_simp
        exact hK _ _ (Ext.refl _ wk) rfl
      · -- slot 60
        intro ac wk hx hsame hdep K hK
        have d10 : ac.tmps.getD 10 undef = .int .i64 0 := hsame 10 (by kernel_rfl)
        have e10 := d10
        rw [Array.getD_eq_getD_getElem?] at e10
        clear hsame hdep
        go_simp
        exact hK _ _ (Ext.refl _ wk) rfl
      · -- slot 61
        intro ac wk hx hsame hdep K hK
        have d60 : ac.tmps.getD 60 undef = .int .i64 0 := hdep 11 (by kernel_rfl)
        have e60 := d60
        rw [Array.getD_eq_getD_getElem?] at e60
        clear hsame hdep
        go_simp
        exact hK _ _ (Ext.refl _ wk) rfl
      · -- slot 62
        intro ac wk hx hsame hdep K hK
        have d61 : ac.tmps.getD 61 undef = .bool true := hdep 12 (by kernel_rfl)
        have e61 := d61
        rw [Array.getD_eq_getD_getElem?] at e61
        clear hsame hdep
        go_simp
        exact hK _ _ (Ext.refl _ wk) rfl
      · -- slot 63
        intro ac wk hx hsame hdep K hK
        have d7 : ac.tmps.getD 7 undef = .slice ax mx cx := hsame 7 (by kernel_rfl)
        have e7 := d7
        rw [Array.getD_eq_getD_getElem?] at e7
        clear hsame hdep
        go_simp
        exact hK _ _ (Ext.refl _ wk) rfl
      · -- slot 64
        intro ac wk hx hsame hdep K hK
        have d9 : ac.tmps.getD 9 undef = .slice ay my cy := hsame 9 (by kernel_rfl)
        have e9 := d9
        rw [Array.getD_eq_getD_getElem?] at e9
        clear hsame hdep
        go_simp
        exact hK _ _ (Ext.refl _ wk) rfl
      · -- slot 65
        intro ac wk hx hsame hdep K hK
        have d63 : ac.tmps.getD 63 undef = .slice ax mx cx := hdep 14 (by kernel_rfl)
        have e63 := d63
        rw [Array.getD_eq_getD_getElem?] at e63
        have d64 : ac.tmps.getD 64 undef = .slice ay my cy := hdep 15 (by kernel_rfl)
        have e64 := d64
        rw [Array.getD_eq_getD_getElem?] at e64
        clear hsame hdep
        go_simp
        refine (same1_any _ _ _ _ wk (HBX.out.ext0 (Dr.extN hx)) (HBY.out.ext0 (Dr.extN hx))).mono ?_
        rintro e w' ⟨rfl, rfl⟩
        exact hK _ _ (Ext.refl _ _) (congrArg Value.bool HR.out.1)
      · -- slot 66
        intro ac wk hx hsame hdep K hK
        have d3 : ac.tmps.getD 3 undef = .pointer (some ⟨b1, 0, none⟩) := hsame 3 (by kernel_rfl)
        have e3 := d3
        rw [Array.getD_eq_getD_getElem?] at e3
        clear hsame hdep
        have hz := HB1.out.drew.ext hx (fun s => s)
        have hc0 := hz.cell 0; have hc1 := hz.cell 1; have hc2 := hz.cell 2; have hc3 := hz.cell 3; have hc4 := hz.cell 4; have hc5 := hz.cell 5; have hc6 := hz.cell 6; have hc7 := hz.cell 7; have hc8 := hz.cell 8; have hc9 := hz.cell 9; have hc10 := hz.cell 10; have hc11 := hz.cell 11; have hc12 := hz.cell 12
        simp only [List.getElem?_toArray, List.getElem?_cons_succ, List.getElem?_cons_zero] at hc0 hc1 hc2 hc3 hc4 hc5 hc6 hc7 hc8 hc9 hc10 hc11 hc12
        clear hz
        go_simp
        exact hK _ _ (Ext.refl _ wk) rfl
      · -- slot 67
        intro ac wk hx hsame hdep K hK
        have d66 : ac.tmps.getD 66 undef = .agg #[.int .i64 kind1, .int .i64 n1, .int .u64 (who1 : Nat), .bool flag1, .string (strB name1), .string (strB host1), .slice af1 nf1 cf1, .int .i64 last1, .int .i64 days1, .int .i64 day1, .int .i64 within1, .string (strB tag1), .slice ab1 nb1 cb1] := hdep 17 (by kernel_rfl)
        have e66 := d66
        rw [Array.getD_eq_getD_getElem?] at e66
        clear hsame hdep
        go_simp
        refine (command_flat kind1 n1 who1 flag1 name1 host1 last1 days1 day1 within1 tag1 _ _ wk (slice_ex _ _ _) (slice_ex _ _ _)).mono ?_
        rintro e w' ⟨rfl, hx'⟩
        exact hK _ _ hx' rfl
      · -- slot 68
        intro ac wk hx hsame hdep K hK
        have d4 : ac.tmps.getD 4 undef = .pointer (some ⟨b2, 0, none⟩) := hsame 4 (by kernel_rfl)
        have e4 := d4
        rw [Array.getD_eq_getD_getElem?] at e4
        clear hsame hdep
        have hz := HB2.out.drew.ext hx (fun s => s)
        have hc0 := hz.cell 0; have hc1 := hz.cell 1; have hc2 := hz.cell 2; have hc3 := hz.cell 3; have hc4 := hz.cell 4; have hc5 := hz.cell 5; have hc6 := hz.cell 6; have hc7 := hz.cell 7; have hc8 := hz.cell 8; have hc9 := hz.cell 9; have hc10 := hz.cell 10; have hc11 := hz.cell 11; have hc12 := hz.cell 12
        simp only [List.getElem?_toArray, List.getElem?_cons_succ, List.getElem?_cons_zero] at hc0 hc1 hc2 hc3 hc4 hc5 hc6 hc7 hc8 hc9 hc10 hc11 hc12
        clear hz
        go_simp
        exact hK _ _ (Ext.refl _ wk) rfl
      · -- slot 69
        intro ac wk hx hsame hdep K hK
        have d68 : ac.tmps.getD 68 undef = .agg #[.int .i64 kind2, .int .i64 n2, .int .u64 (who2 : Nat), .bool flag2, .string (strB name2), .string (strB host2), .slice af2 nf2 cf2, .int .i64 last2, .int .i64 days2, .int .i64 day2, .int .i64 within2, .string (strB tag2), .slice ab2 nb2 cb2] := hdep 19 (by kernel_rfl)
        have e68 := d68
        rw [Array.getD_eq_getD_getElem?] at e68
        clear hsame hdep
        go_simp
        refine (command_flat kind2 n2 who2 flag2 name2 host2 last2 days2 day2 within2 tag2 _ _ wk (slice_ex _ _ _) (slice_ex _ _ _)).mono ?_
        rintro e w' ⟨rfl, hx'⟩
        exact hK _ _ hx' rfl
      · -- slot 70
        intro ac wk hx hsame hdep K hK
        have p67 : (ac.tmps.getD 67 undef) = .agg #[.int .i64 kind1, .int .i64 n1, .int .u64 (who1 : Nat), .bool flag1, .string (strB name1), .string (strB host1), .slice af1 nf1 cf1, .int .i64 last1, .int .i64 days1, .int .i64 day1, .int .i64 within1, .string (strB tag1), .slice ab1 nb1 cb1] := hdep 18 (by kernel_rfl)
        have d67 := p67
        have e67 := d67
        rw [Array.getD_eq_getD_getElem?] at e67
        have p69 : (ac.tmps.getD 69 undef) = .agg #[.int .i64 kind2, .int .i64 n2, .int .u64 (who2 : Nat), .bool flag2, .string (strB name2), .string (strB host2), .slice af2 nf2 cf2, .int .i64 last2, .int .i64 days2, .int .i64 day2, .int .i64 within2, .string (strB tag2), .slice ab2 nb2 cb2] := hdep 20 (by kernel_rfl)
        have d69 := p69
        have e69 := d69
        rw [Array.getD_eq_getD_getElem?] at e69
        clear hsame hdep
        go_simp
        refine (same_flat kind1 n1 who1 flag1 name1 host1 files1 last1 days1 day1 within1 tag1 bits1 kind2 n2 who2 flag2 name2 host2 files2 last2 days2 day2 within2 tag2 bits2 _ _ _ _ wk (HF1.out.ext0 (Dr.extN hx)) (HZ1.out.ext0 (Dr.extN hx)) (HF2.out.ext0 (Dr.extN hx)) (HZ2.out.ext0 (Dr.extN hx))).mono ?_
        rintro e w' ⟨hx', t, rfl, ht⟩
        exact hK _ _ hx' (congrArg Value.bool (HR.out.2 t ht))
      · -- slot 71
        intro ac wk hx hsame hdep K hK
        have p65 : (ac.tmps.getD 65 undef) = .bool r := hdep 16 (by kernel_rfl)
        have d65 := p65
        have e65 := d65
        rw [Array.getD_eq_getD_getElem?] at e65
        have p70 : (ac.tmps.getD 70 undef) = .bool r := hdep 21 (by kernel_rfl)
        have d70 := p70
        have e70 := d70
        rw [Array.getD_eq_getD_getElem?] at e70
        clear hsame hdep
        go_simp
        exact hK _ _ (Ext.refl _ wk) rfl
      · -- slot 72
        intro ac wk hx hsame hdep K hK
        have d62 : ac.tmps.getD 62 undef = .bool true := hdep 13 (by kernel_rfl)
        have e62 := d62
        rw [Array.getD_eq_getD_getElem?] at e62
        have d71 : ac.tmps.getD 71 undef = .bool false := hdep 22 (by kernel_rfl)
        have e71 := d71
        rw [Array.getD_eq_getD_getElem?] at e71
        clear hsame hdep
        go_simp
        exact hK _ _ (Ext.refl _ wk) rfl
      · intro ac wk hx hdf hsz hsame hvals
        obtain ⟨u0, f0⟩ : ∃ u, ac.tmps.getD 0 undef = u := ⟨_, rfl⟩
        obtain ⟨u1, f1⟩ : ∃ u, ac.tmps.getD 1 undef = u := ⟨_, rfl⟩
        have f2 : ac.tmps.getD 2 undef = .slice al ml cl := hsame 2 (by kernel_rfl)
        have f3 : ac.tmps.getD 3 undef = .pointer (some ⟨b1, 0, none⟩) := hsame 3 (by kernel_rfl)
        have f4 : ac.tmps.getD 4 undef = .pointer (some ⟨b2, 0, none⟩) := hsame 4 (by kernel_rfl)
        obtain ⟨u5, f5⟩ : ∃ u, ac.tmps.getD 5 undef = u := ⟨_, rfl⟩
        obtain ⟨u6, f6⟩ : ∃ u, ac.tmps.getD 6 undef = u := ⟨_, rfl⟩
        have f7 : ac.tmps.getD 7 undef = .slice ax mx cx := hsame 7 (by kernel_rfl)
        obtain ⟨u8, f8⟩ : ∃ u, ac.tmps.getD 8 undef = u := ⟨_, rfl⟩
        have f9 : ac.tmps.getD 9 undef = .slice ay my cy := hsame 9 (by kernel_rfl)
        have f10 : ac.tmps.getD 10 undef = .int .i64 0 := hsame 10 (by kernel_rfl)
        have f11 : ac.tmps.getD 11 undef = .pointer (some ⟨b3, 0, none⟩) := hsame 11 (by kernel_rfl)
        have f12 : ac.tmps.getD 12 undef = .int .i64 0 := hsame 12 (by kernel_rfl)
        obtain ⟨u13, f13⟩ : ∃ u, ac.tmps.getD 13 undef = u := ⟨_, rfl⟩
        obtain ⟨u14, f14⟩ : ∃ u, ac.tmps.getD 14 undef = u := ⟨_, rfl⟩
        obtain ⟨u15, f15⟩ : ∃ u, ac.tmps.getD 15 undef = u := ⟨_, rfl⟩
        obtain ⟨u16, f16⟩ : ∃ u, ac.tmps.getD 16 undef = u := ⟨_, rfl⟩
        obtain ⟨u17, f17⟩ : ∃ u, ac.tmps.getD 17 undef = u := ⟨_, rfl⟩
        obtain ⟨u18, f18⟩ : ∃ u, ac.tmps.getD 18 undef = u := ⟨_, rfl⟩
        obtain ⟨u19, f19⟩ : ∃ u, ac.tmps.getD 19 undef = u := ⟨_, rfl⟩
        obtain ⟨u20, f20⟩ : ∃ u, ac.tmps.getD 20 undef = u := ⟨_, rfl⟩
        obtain ⟨u21, f21⟩ : ∃ u, ac.tmps.getD 21 undef = u := ⟨_, rfl⟩
        obtain ⟨u22, f22⟩ : ∃ u, ac.tmps.getD 22 undef = u := ⟨_, rfl⟩
        obtain ⟨u23, f23⟩ : ∃ u, ac.tmps.getD 23 undef = u := ⟨_, rfl⟩
        obtain ⟨u24, f24⟩ : ∃ u, ac.tmps.getD 24 undef = u := ⟨_, rfl⟩
        obtain ⟨u25, f25⟩ : ∃ u, ac.tmps.getD 25 undef = u := ⟨_, rfl⟩
        obtain ⟨u26, f26⟩ : ∃ u, ac.tmps.getD 26 undef = u := ⟨_, rfl⟩
        obtain ⟨u27, f27⟩ : ∃ u, ac.tmps.getD 27 undef = u := ⟨_, rfl⟩
        obtain ⟨u28, f28⟩ : ∃ u, ac.tmps.getD 28 undef = u := ⟨_, rfl⟩
        obtain ⟨u29, f29⟩ : ∃ u, ac.tmps.getD 29 undef = u := ⟨_, rfl⟩
        obtain ⟨u30, f30⟩ : ∃ u, ac.tmps.getD 30 undef = u := ⟨_, rfl⟩
        obtain ⟨u31, f31⟩ : ∃ u, ac.tmps.getD 31 undef = u := ⟨_, rfl⟩
        obtain ⟨u32, f32⟩ : ∃ u, ac.tmps.getD 32 undef = u := ⟨_, rfl⟩
        obtain ⟨u33, f33⟩ : ∃ u, ac.tmps.getD 33 undef = u := ⟨_, rfl⟩
        obtain ⟨u34, f34⟩ : ∃ u, ac.tmps.getD 34 undef = u := ⟨_, rfl⟩
        obtain ⟨u35, f35⟩ : ∃ u, ac.tmps.getD 35 undef = u := ⟨_, rfl⟩
        obtain ⟨u36, f36⟩ : ∃ u, ac.tmps.getD 36 undef = u := ⟨_, rfl⟩
        obtain ⟨u37, f37⟩ : ∃ u, ac.tmps.getD 37 undef = u := ⟨_, rfl⟩
        obtain ⟨u38, f38⟩ : ∃ u, ac.tmps.getD 38 undef = u := ⟨_, rfl⟩
        obtain ⟨u39, f39⟩ : ∃ u, ac.tmps.getD 39 undef = u := ⟨_, rfl⟩
        obtain ⟨u40, f40⟩ : ∃ u, ac.tmps.getD 40 undef = u := ⟨_, rfl⟩
        obtain ⟨u41, f41⟩ : ∃ u, ac.tmps.getD 41 undef = u := ⟨_, rfl⟩
        obtain ⟨u42, f42⟩ : ∃ u, ac.tmps.getD 42 undef = u := ⟨_, rfl⟩
        obtain ⟨u43, f43⟩ : ∃ u, ac.tmps.getD 43 undef = u := ⟨_, rfl⟩
        obtain ⟨u44, f44⟩ : ∃ u, ac.tmps.getD 44 undef = u := ⟨_, rfl⟩
        obtain ⟨u45, f45⟩ : ∃ u, ac.tmps.getD 45 undef = u := ⟨_, rfl⟩
        obtain ⟨u46, f46⟩ : ∃ u, ac.tmps.getD 46 undef = u := ⟨_, rfl⟩
        obtain ⟨u47, f47⟩ : ∃ u, ac.tmps.getD 47 undef = u := ⟨_, rfl⟩
        obtain ⟨u48, f48⟩ : ∃ u, ac.tmps.getD 48 undef = u := ⟨_, rfl⟩
        have f49 : ac.tmps.getD 49 undef = .int .i64 0 := hvals 0 (by decide)
        have f50 : ac.tmps.getD 50 undef = .bool false := hvals 1 (by decide)
        have f51 : ac.tmps.getD 51 undef = .bool false := hvals 2 (by decide)
        have f52 : ac.tmps.getD 52 undef = .agg #[.int .i64 kind1, .int .i64 n1, .int .u64 (who1 : Nat), .bool flag1, .string (strB name1), .string (strB host1), .slice af3 nf3 cf3, .int .i64 last1, .int .i64 days1, .int .i64 day1, .int .i64 within1, .string (strB tag1), .slice ab3 nb3 cb3] := hvals 3 (by decide)
        obtain ⟨u53, f53⟩ : ∃ u, ac.tmps.getD 53 undef = u := ⟨_, rfl⟩
        have f54 : ac.tmps.getD 54 undef = .agg #[.int .i64 kind1, .int .i64 n1, .int .u64 (who1 : Nat), .bool flag1, .string (strB name1), .string (strB host1), .slice af1 nf1 cf1, .int .i64 last1, .int .i64 days1, .int .i64 day1, .int .i64 within1, .string (strB tag1), .slice ab1 nb1 cb1] := hvals 5 (by decide)
        obtain ⟨u55, f55⟩ : ∃ u, ac.tmps.getD 55 undef = u := ⟨_, rfl⟩
        obtain ⟨u56, f56⟩ : ∃ u, ac.tmps.getD 56 undef = u := ⟨_, rfl⟩
        have f57 : ac.tmps.getD 57 undef = .bool false := hvals 8 (by decide)
        have f58 : ac.tmps.getD 58 undef = .bool false := hvals 9 (by decide)
        have f59 : ac.tmps.getD 59 undef = .bool false := hvals 10 (by decide)
        have f60 : ac.tmps.getD 60 undef = .int .i64 0 := hvals 11 (by decide)
        have f61 : ac.tmps.getD 61 undef = .bool true := hvals 12 (by decide)
        have f62 : ac.tmps.getD 62 undef = .bool true := hvals 13 (by decide)
        have f63 : ac.tmps.getD 63 undef = .slice ax mx cx := hvals 14 (by decide)
        have f64 : ac.tmps.getD 64 undef = .slice ay my cy := hvals 15 (by decide)
        obtain ⟨u65, f65⟩ : ∃ u, ac.tmps.getD 65 undef = u := ⟨_, rfl⟩
        have f66 : ac.tmps.getD 66 undef = .agg #[.int .i64 kind1, .int .i64 n1, .int .u64 (who1 : Nat), .bool flag1, .string (strB name1), .string (strB host1), .slice af1 nf1 cf1, .int .i64 last1, .int .i64 days1, .int .i64 day1, .int .i64 within1, .string (strB tag1), .slice ab1 nb1 cb1] := hvals 17 (by decide)
        obtain ⟨u67, f67⟩ : ∃ u, ac.tmps.getD 67 undef = u := ⟨_, rfl⟩
        have f68 : ac.tmps.getD 68 undef = .agg #[.int .i64 kind2, .int .i64 n2, .int .u64 (who2 : Nat), .bool flag2, .string (strB name2), .string (strB host2), .slice af2 nf2 cf2, .int .i64 last2, .int .i64 days2, .int .i64 day2, .int .i64 within2, .string (strB tag2), .slice ab2 nb2 cb2] := hvals 19 (by decide)
        obtain ⟨u69, f69⟩ : ∃ u, ac.tmps.getD 69 undef = u := ⟨_, rfl⟩
        obtain ⟨u70, f70⟩ : ∃ u, ac.tmps.getD 70 undef = u := ⟨_, rfl⟩
        have f71 : ac.tmps.getD 71 undef = .bool false := hvals 22 (by decide)
        have f72 : ac.tmps.getD 72 undef = .bool false := hvals 23 (by decide)
        obtain ⟨u73, f73⟩ : ∃ u, ac.tmps.getD 73 undef = u := ⟨_, rfl⟩
        obtain ⟨u74, f74⟩ : ∃ u, ac.tmps.getD 74 undef = u := ⟨_, rfl⟩
        obtain ⟨u75, f75⟩ : ∃ u, ac.tmps.getD 75 undef = u := ⟨_, rfl⟩
        obtain ⟨u76, f76⟩ : ∃ u, ac.tmps.getD 76 undef = u := ⟨_, rfl⟩
        obtain ⟨u77, f77⟩ : ∃ u, ac.tmps.getD 77 undef = u := ⟨_, rfl⟩
        obtain ⟨u78, f78⟩ : ∃ u, ac.tmps.getD 78 undef = u := ⟨_, rfl⟩
        obtain ⟨u79, f79⟩ : ∃ u, ac.tmps.getD 79 undef = u := ⟨_, rfl⟩
        obtain ⟨u80, f80⟩ : ∃ u, ac.tmps.getD 80 undef = u := ⟨_, rfl⟩
        obtain ⟨u81, f81⟩ : ∃ u, ac.tmps.getD 81 undef = u := ⟨_, rfl⟩
        obtain ⟨u82, f82⟩ : ∃ u, ac.tmps.getD 82 undef = u := ⟨_, rfl⟩
        obtain ⟨u83, f83⟩ : ∃ u, ac.tmps.getD 83 undef = u := ⟨_, rfl⟩
        obtain ⟨u84, f84⟩ : ∃ u, ac.tmps.getD 84 undef = u := ⟨_, rfl⟩
        obtain ⟨u85, f85⟩ : ∃ u, ac.tmps.getD 85 undef = u := ⟨_, rfl⟩
        obtain ⟨u86, f86⟩ : ∃ u, ac.tmps.getD 86 undef = u := ⟨_, rfl⟩
        obtain ⟨u87, f87⟩ : ∃ u, ac.tmps.getD 87 undef = u := ⟨_, rfl⟩
        obtain ⟨u88, f88⟩ : ∃ u, ac.tmps.getD 88 undef = u := ⟨_, rfl⟩
        obtain ⟨u89, f89⟩ : ∃ u, ac.tmps.getD 89 undef = u := ⟨_, rfl⟩
        obtain ⟨u90, f90⟩ : ∃ u, ac.tmps.getD 90 undef = u := ⟨_, rfl⟩
        obtain ⟨u91, f91⟩ : ∃ u, ac.tmps.getD 91 undef = u := ⟨_, rfl⟩
        obtain ⟨u92, f92⟩ : ∃ u, ac.tmps.getD 92 undef = u := ⟨_, rfl⟩
        obtain ⟨u93, f93⟩ : ∃ u, ac.tmps.getD 93 undef = u := ⟨_, rfl⟩
        obtain ⟨u94, f94⟩ : ∃ u, ac.tmps.getD 94 undef = u := ⟨_, rfl⟩
        obtain ⟨u95, f95⟩ : ∃ u, ac.tmps.getD 95 undef = u := ⟨_, rfl⟩
        obtain ⟨u96, f96⟩ : ∃ u, ac.tmps.getD 96 undef = u := ⟨_, rfl⟩
        have hlit : ac = ⟨#[u0, u1, .slice al ml cl, .pointer (some ⟨b1, 0, none⟩), .pointer (some ⟨b2, 0, none⟩), u5, u6, .slice ax mx cx, u8, .slice ay my cy, .int .i64 0, .pointer (some ⟨b3, 0, none⟩), .int .i64 0, u13, u14, u15, u16, u17, u18, u19, u20, u21, u22, u23, u24, u25, u26, u27, u28, u29, u30, u31, u32, u33, u34, u35, u36, u37, u38, u39, u40, u41, u42, u43, u44, u45, u46, u47, u48, .int .i64 0, .bool false, .bool false, .agg #[.int .i64 kind1, .int .i64 n1, .int .u64 (who1 : Nat), .bool flag1, .string (strB name1), .string (strB host1), .slice af3 nf3 cf3, .int .i64 last1, .int .i64 days1, .int .i64 day1, .int .i64 within1, .string (strB tag1), .slice ab3 nb3 cb3], u53, .agg #[.int .i64 kind1, .int .i64 n1, .int .u64 (who1 : Nat), .bool flag1, .string (strB name1), .string (strB host1), .slice af1 nf1 cf1, .int .i64 last1, .int .i64 days1, .int .i64 day1, .int .i64 within1, .string (strB tag1), .slice ab1 nb1 cb1], u55, u56, .bool false, .bool false, .bool false, .int .i64 0, .bool true, .bool true, .slice ax mx cx, .slice ay my cy, u65, .agg #[.int .i64 kind1, .int .i64 n1, .int .u64 (who1 : Nat), .bool flag1, .string (strB name1), .string (strB host1), .slice af1 nf1 cf1, .int .i64 last1, .int .i64 days1, .int .i64 day1, .int .i64 within1, .string (strB tag1), .slice ab1 nb1 cb1], u67, .agg #[.int .i64 kind2, .int .i64 n2, .int .u64 (who2 : Nat), .bool flag2, .string (strB name2), .string (strB host2), .slice af2 nf2 cf2, .int .i64 last2, .int .i64 days2, .int .i64 day2, .int .i64 within2, .string (strB tag2), .slice ab2 nb2 cb2], u69, u70, .bool false, .bool false, u73, u74, u75, u76, u77, u78, u79, u80, u81, u82, u83, u84, u85, u86, u87, u88, u89, u90, u91, u92, u93, u94, u95, u96], []⟩ := by
          refine (act_lit hsz hdf).trans ?_
          rw [show List.range _ = [0, 1, 2, 3, 4, 5, 6, 7, 8, 9, 10, 11, 12, 13, 14, 15, 16, 17, 18, 19, 20, 21, 22, 23, 24, 25, 26, 27, 28, 29, 30, 31, 32, 33, 34, 35, 36, 37, 38, 39, 40, 41, 42, 43, 44, 45, 46, 47, 48, 49, 50, 51, 52, 53, 54, 55, 56, 57, 58, 59, 60, 61, 62, 63, 64, 65, 66, 67, 68, 69, 70, 71, 72, 73, 74, 75, 76, 77, 78, 79, 80, 81, 82, 83, 84, 85, 86, 87, 88, 89, 90, 91, 92, 93, 94, 95, 96] from rfl]
          simp only [List.map_cons, List.map_nil, f0, f1, f2, f3, f4, f5, f6, f7, f8, f9, f10, f11, f12, f13, f14, f15, f16, f17, f18, f19, f20, f21, f22, f23, f24, f25, f26, f27, f28, f29, f30, f31, f32, f33, f34, f35, f36, f37, f38, f39, f40, f41, f42, f43, f44, f45, f46, f47, f48, f49, f50, f51, f52, f53, f54, f55, f56, f57, f58, f59, f60, f61, f62, f63, f64, f65, f66, f67, f68, f69, f70, f71, f72, f73, f74, f75, f76, f77, f78, f79, f80, f81, f82, f83, f84, f85, f86, f87, f88, f89, f90, f91, f92, f93, f94, f95, f96]
        clear hvals hsame hdf hsz f0 f1 f2 f3 f4 f5 f6 f7 f8 f9 f10 f11 f12 f13 f14 f15 f16 f17 f18 f19 f20 f21 f22 f23 f24 f25 f26 f27 f28 f29 f30 f31 f32 f33 f34 f35 f36 f37 f38 f39 f40 f41 f42 f43 f44 f45 f46 f47 f48 f49 f50 f51 f52 f53 f54 f55 f56 f57 f58 f59 f60 f61 f62 f63 f64 f65 f66 f67 f68 f69 f70 f71 f72 f73 f74 f75 f76 f77 f78 f79 f80 f81 f82 f83 f84 f85 f86 f87 f88 f89 f90 f91 f92 f93 f94 f95 f96
        subst hlit
        simp only [List.drop_succ_cons, List.drop_zero]
        go_wp2_with fail
        have HXT := Lib.hid (HX7.out.trans' hx)
        clear hx HX7
        refine (decode_flat l al ml cl _ (HL.out.ext0 HXT.out) (by have := HML.out; have := hml; omega)).mono ?_
        rintro e w20 ⟨hE20, hcase⟩
        have HX20 := Lib.hid (HXT.out.trans' hE20)
        clear HXT
        rcases hcase with ⟨kind4, n4, who4, flag4, name4, host4, files4, last4, days4, day4, within4, tag4, bits4, af4, cf4, ab4, cb4, hd, rfl, hf4, hb4⟩ | ⟨hd, rfl⟩
        · obtain ⟨hlc, hok4, hft4⟩ := (decodeC_iff l _).1 hd
          have hf5 := hf4.files
          have hb5 := bools_own hb4
          obtain ⟨nf4, hnf4⟩ : ∃ m, m = files4.length := ⟨_, rfl⟩
          obtain ⟨nb4, hnb4⟩ : ∃ m, m = bits4.length := ⟨_, rfl⟩
          rw [← hnf4] at hf5 ⊢
          rw [← hnb4] at hb5 ⊢
          have HOK4 := Lib.hid (ok_le hok4); have HCK4 := Lib.hid ((checkN_ok _).2 hok4); have HLC := Lib.hid hlc; have HW4 := Lib.hid (show who4 ≤ 18446744073709551615 by have := hft4.who; dsimp only at this; omega)
          have hxA : Ext No w20 (w20.alloc (.cells #[.int .i64 kind4, .int .i64 n4, .int .u64 (who4 : Nat), .bool flag4, .string (strB name4), .string (strB host4), .slice af4 nf4 cf4, .int .i64 last4, .int .i64 days4, .int .i64 day4, .int .i64 within4, .string (strB tag4), .slice ab4 nb4 cb4] 28)) := (Ext.refl No w20).alloc _
          have hBB := Blk.new w20 #[.int .i64 kind4, .int .i64 n4, .int .u64 (who4 : Nat), .bool flag4, .string (strB name4), .string (strB host4), .slice af4 nf4 cf4, .int .i64 last4, .int .i64 days4, .int .i64 day4, .int .i64 within4, .string (strB tag4), .slice ab4 nb4 cb4] 28
          have HX21 := Lib.hid (HX20.out.trans' hxA); have HF4 := Lib.hid (hf5.ext0 hxA); have HZ4 := Lib.hid (hb5.ext0 hxA)
          have hg0 := hBB.cell 0; have hg1 := hBB.cell 1; have hg2 := hBB.cell 2; have hg3 := hBB.cell 3; have hg4 := hBB.cell 4; have hg5 := hBB.cell 5; have hg6 := hBB.cell 6; have hg7 := hBB.cell 7; have hg8 := hBB.cell 8; have hg9 := hBB.cell 9; have hg10 := hBB.cell 10; have hg11 := hBB.cell 11; have hg12 := hBB.cell 12
          simp only [List.getElem?_toArray, List.getElem?_cons_succ, List.getElem?_cons_zero] at hg0 hg1 hg2 hg3 hg4 hg5 hg6 hg7 hg8 hg9 hg10 hg11 hg12
          clear hBB hf4 hb4 hf5 hb5 hnf4 hnb4 hxA hlc hok4 hft4 hd HX20 hE20
          dsimp only
          go_wp2_with fail
          clear hg0 hg1 hg2 hg3 hg4 hg5 hg6 hg7 hg8 hg9 hg10 hg11 hg12
          refine (encode_flat kind4 n4 who4 flag4 name4 host4 files4 last4 days4 day4 within4 tag4 bits4 _ _ _ HF4.out HZ4.out HW4.out (Nat.le_trans HOK4.out (by decide))).mono ?_
          rintro e w22 ⟨hE22, hcase⟩
          rw [← HLC.out, HCK4.out] at hcase
          rcases hcase with ⟨-, x22, rfl, hx22⟩ | ⟨hk, -⟩
          case inr => exact absurd rfl hk
          have HX22 := Lib.hid (HX21.out.trans' hE22)
          have hb22 := hx22.bytes
          obtain ⟨a22, c22, rfl⟩ := own_form hx22
          have HB22 := Lib.hid hb22
          clear hx22 hb22 hE22 HX21
          dsimp only
          go_wp2_with fail
          refine (same1_any l l _ _ w22 HB22.out (HL.out.ext0 HX22.out)).mono ?_
          rintro e w23 ⟨rfl, rfl⟩
          rw [decide_eq_true rfl]
          dsimp only
          go_wp2_with fail
          go_ret
          exact ⟨rfl, HX22.out⟩
        · have hxA : Ext No w20 (w20.alloc (.cells #[.int .i64 0, .int .i64 0, .int .u64 0, .bool false, .string ⟨#[]⟩, .string ⟨#[]⟩, .slice none 0 0, .int .i64 0, .int .i64 0, .int .i64 0, .int .i64 0, .string ⟨#[]⟩, .slice none 0 0] 28)) := (Ext.refl No w20).alloc _
          have hBB := Blk.new w20 #[.int .i64 0, .int .i64 0, .int .u64 0, .bool false, .string ⟨#[]⟩, .string ⟨#[]⟩, .slice none 0 0, .int .i64 0, .int .i64 0, .int .i64 0, .int .i64 0, .string ⟨#[]⟩, .slice none 0 0] 28
          have HX21 := Lib.hid (HX20.out.trans' hxA)
          have hg0 := hBB.cell 0; have hg1 := hBB.cell 1; have hg2 := hBB.cell 2; have hg3 := hBB.cell 3; have hg4 := hBB.cell 4; have hg5 := hBB.cell 5; have hg6 := hBB.cell 6; have hg7 := hBB.cell 7; have hg8 := hBB.cell 8; have hg9 := hBB.cell 9; have hg10 := hBB.cell 10; have hg11 := hBB.cell 11; have hg12 := hBB.cell 12
          simp only [List.getElem?_toArray, List.getElem?_cons_succ, List.getElem?_cons_zero] at hg0 hg1 hg2 hg3 hg4 hg5 hg6 hg7 hg8 hg9 hg10 hg11 hg12
          clear hBB hxA hd HX20 hE20
          dsimp only
          go_wp2_with fail
          clear hg0 hg1 hg2 hg3 hg4 hg5 hg6 hg7 hg8 hg9 hg10 hg11 hg12
          refine (command_flat 0 0 0 false [] [] 0 0 0 0 [] (.slice none 0 0) (.slice none 0 0) _ (slice_ex _ _ _) (slice_ex _ _ _)).mono ?_
          rintro e w22 ⟨rfl, hE22⟩
          have HX22 := Lib.hid (HX21.out.trans' hE22)
          clear hE22 HX21
          dsimp only
          go_wp2_with fail
          refine (same_zero _).mono ?_
          rintro e w23 ⟨hE23, rfl⟩
          have HX23 := Lib.hid (HX22.out.trans' hE23)
          clear hE23 HX22
          dsimp only
          go_wp2_with fail
          go_ret
          exact ⟨rfl, HX23.out⟩
    · clear hok1
      have hkz : ¬ k2 = 0 := hk20
      dsimp only
      go_wp2_with fail
      refine (decode_flat lb1 ax mx cx w5 HBX5.out (by rw [← HMX.out]; have := HLE.out; omega)).mono ?_
      rintro e w6 ⟨hE6, ⟨kind3, n3, who3, flag3, name3, host3, files3, last3, days3, day3, within3, tag3, bits3, af3, cf3, ab3, cb3, hd, rfl, hf3, hb3⟩ | ⟨hd, -⟩⟩
      case inr => rw [HDEC.out] at hd; cases hd
      rw [HDEC.out] at hd
      simp only [Option.some.injEq, CmdI.mk.injEq] at hd
      obtain ⟨rfl, rfl, rfl, rfl, rfl, rfl, rfl, rfl, rfl, rfl, rfl, rfl, rfl⟩ := hd
      have hf3' := hf3.files
      have hb3' := bools_own hb3
      obtain ⟨nf3, hnf3⟩ : ∃ m, m = files1.length := ⟨_, rfl⟩
      obtain ⟨nb3, hnb3⟩ : ∃ m, m = bits1.length := ⟨_, rfl⟩
      rw [← hnf3] at hf3' ⊢
      rw [← hnb3] at hb3' ⊢
      have hxA : Ext No w6 (w6.alloc (.cells #[.int .i64 kind1, .int .i64 n1, .int .u64 (who1 : Nat), .bool flag1, .string (strB name1), .string (strB host1), .slice af3 nf3 cf3, .int .i64 last1, .int .i64 days1, .int .i64 day1, .int .i64 within1, .string (strB tag1), .slice ab3 nb3 cb3] 28)) := (Ext.refl No w6).alloc _
      have hE := hE6.trans' hxA
      have hEE := Lib.hid hE
      have HX7 := Lib.hid (HX5.out.trans' hE); have HB1 := Lib.hid (HA5.out.ext hE (fun x => x)); have HB2 := Lib.hid (HE5.out.ext hE (fun x => x)); have HBX := Lib.hid (HBX5.out.ext0 hE)
      have HB3 := Lib.hid (Blk.new w6 #[.int .i64 kind1, .int .i64 n1, .int .u64 (who1 : Nat), .bool flag1, .string (strB name1), .string (strB host1), .slice af3 nf3 cf3, .int .i64 last1, .int .i64 days1, .int .i64 day1, .int .i64 within1, .string (strB tag1), .slice ab3 nb3 cb3] 28)
      have HF3 := Lib.hid (hf3'.ext0 hxA); have HZ3 := Lib.hid (hb3'.ext0 hxA)
      have HF1' := HF1; have HF2' := HF2; have HZ1' := HZ1; have HZ2' := HZ2
      have HF1 := Lib.hid (HF1'.out.ext0 HX7.out); have HZ1 := Lib.hid (HZ1'.out.ext0 HX7.out); have HF2 := Lib.hid (HF2'.out.ext0 HX7.out); have HZ2 := Lib.hid (HZ2'.out.ext0 HX7.out)
      clear hE6 hxA hE hf3 hb3 hf3' hb3' hnf3 hnb3 HX5 HA5 HE5 HBX5 HF1' HF2' HZ1' HZ2'
      clear hEE
      dsimp only
      go_wp2_with fail
      generalize w6.heap.size = b3 at *
      refine wp_region_headG 24 (fun i => !([14, 15, 16, 17, 18, 19, 20, 21, 22] : List Nat).contains i) No (BackVB kind1 n1 who1 flag1 name1 host1 last1 days1 day1 within1 tag1 kind2 n2 who2 flag2 name2 host2 last2 days2 day2 within2 tag2 af1 nf1 cf1 ab1 nb1 cb1 af2 nf2 cf2 ab2 nb2 cb2 af3 nf3 cf3 ab3 nb3 cb3 k2 ax mx cx none 0 0 true) (by kernel_rfl) (by kernel_rfl) (by kernel_rfl) (BackVB_ext kind1 n1 who1 flag1 name1 host1 last1 days1 day1 within1 tag1 kind2 n2 who2 flag2 name2 host2 last2 days2 day2 within2 tag2 af1 nf1 cf1 ab1 nb1 cb1 af2 nf2 cf2 ab2 nb2 cb2 af3 nf3 cf3 ab3 nb3 cb3 k2 ax mx cx none 0 0 true) (HeadStepsG.cons (by rfl) (by exact trivial) ?_ (HeadStepsG.cons (by rfl) (by exact trivial) ?_ (HeadStepsG.cons (by rfl) (by exact trivial) ?_ (HeadStepsG.cons (by rfl) (by exact fun _ _ h => h) ?_ (HeadStepsG.cons (by rfl) (by exact fun _ _ h => h) ?_ (HeadStepsG.cons (by rfl) (by exact fun _ _ h => h) ?_ (HeadStepsG.cons (by rfl) (by exact fun _ _ h => h) ?_ (HeadStepsG.cons (by rfl) (by exact fun _ _ h => h) ?_ (HeadStepsG.cons (by rfl) (by exact fun _ _ h => h) ?_ (HeadStepsG.cons (by rfl) (by exact trivial) ?_ (HeadStepsG.cons (by rfl) (by exact trivial) ?_ (HeadStepsG.cons (by rfl) (by exact fun _ _ h => h) ?_ (HeadStepsG.cons (by rfl) (by exact fun _ _ h => h) ?_ (HeadStepsG.cons (by rfl) (by exact fun _ _ h => h) ?_ (HeadStepsG.skip (by rfl) (by exact fun _ _ h => h) (by exact fun _ => rfl) (HeadStepsG.skip (by rfl) (by exact fun _ _ h => h) (by exact fun _ => rfl) (HeadStepsG.skip (by rfl) (by exact fun _ _ h => h) (by exact fun _ => rfl) (HeadStepsG.skip (by rfl) (by exact fun _ _ h => h) (by exact fun _ => rfl) (HeadStepsG.skip (by rfl) (by exact fun _ _ h => h) (by exact fun _ => rfl) (HeadStepsG.skip (by rfl) (by exact fun _ _ h => h) (by exact fun _ => rfl) (HeadStepsG.skip (by rfl) (by exact fun _ _ h => h) (by exact fun _ => rfl) (HeadStepsG.skip (by rfl) (by exact fun _ _ h => h) (by exact fun _ => rfl) (HeadStepsG.skip (by rfl) (by exact fun _ _ h => h) (by exact fun _ => rfl) (HeadStepsG.cons (by rfl) (by exact fun _ _ h => h) ?_ HeadStepsG.nil)))))))))))))))))))))))) ?_
      · -- slot 49
        intro ac wk hx hsame hdep K hK
        have d12 : ac.tmps.getD 12 undef = .int .i64 0 := hsame 12 (by kernel_rfl)
        have e12 := d12
        rw [Array.getD_eq_getD_getElem?] at e12
        clear hsame hdep
        go_simp
        exact hK _ _ (Ext.refl _ wk) rfl
      · -- slot 50
        intro ac wk hx hsame hdep K hK
        have d49 : ac.tmps.getD 49 undef = .int .i64 0 := hdep 0 (by kernel_rfl)
        have e49 := d49
        rw [Array.getD_eq_getD_getElem?] at e49
        clear hsame hdep
        go_simp
        exact hK _ _ (Ext.refl _ wk) rfl
      · -- slot 51
        intro ac wk hx hsame hdep K hK
        have d50 : ac.tmps.getD 50 undef = .bool false := hdep 1 (by kernel_rfl)
        have e50 := d50
        rw [Array.getD_eq_getD_getElem?] at e50
        clear hsame hdep
        go_simp
        exact hK _ _ (Ext.refl _ wk) rfl
      · -- slot 52
        intro ac wk hx hsame hdep K hK
        have d11 : ac.tmps.getD 11 undef = .pointer (some ⟨b3, 0, none⟩) := hsame 11 (by kernel_rfl)
        have e11 := d11
        rw [Array.getD_eq_getD_getElem?] at e11
        clear hsame hdep
        have hz := HB3.out.drew.ext hx (fun s => s)
        have hc0 := hz.cell 0; have hc1 := hz.cell 1; have hc2 := hz.cell 2; have hc3 := hz.cell 3; have hc4 := hz.cell 4; have hc5 := hz.cell 5; have hc6 := hz.cell 6; have hc7 := hz.cell 7; have hc8 := hz.cell 8; have hc9 := hz.cell 9; have hc10 := hz.cell 10; have hc11 := hz.cell 11; have hc12 := hz.cell 12
        simp only [List.getElem?_toArray, List.getElem?_cons_succ, List.getElem?_cons_zero] at hc0 hc1 hc2 hc3 hc4 hc5 hc6 hc7 hc8 hc9 hc10 hc11 hc12
        clear hz
        go_simp
        exact hK _ _ (Ext.refl _ wk) rfl
      · -- slot 53
        intro ac wk hx hsame hdep K hK
        have d52 : ac.tmps.getD 52 undef = .agg #[.int .i64 kind1, .int .i64 n1, .int .u64 (who1 : Nat), .bool flag1, .string (strB name1), .string (strB host1), .slice af3 nf3 cf3, .int .i64 last1, .int .i64 days1, .int .i64 day1, .int .i64 within1, .string (strB tag1), .slice ab3 nb3 cb3] := hdep 3 (by kernel_rfl)
        have e52 := d52
        rw [Array.getD_eq_getD_getElem?] at e52
        clear hsame hdep
        go_simp
        refine (command_flat kind1 n1 who1 flag1 name1 host1 last1 days1 day1 within1 tag1 _ _ wk (slice_ex _ _ _) (slice_ex _ _ _)).mono ?_
        rintro e w' ⟨rfl, hx'⟩
        exact hK _ _ hx' rfl
      · -- slot 54
        intro ac wk hx hsame hdep K hK
        have d3 : ac.tmps.getD 3 undef = .pointer (some ⟨b1, 0, none⟩) := hsame 3 (by kernel_rfl)
        have e3 := d3
        rw [Array.getD_eq_getD_getElem?] at e3
        clear hsame hdep
        have hz := HB1.out.drew.ext hx (fun s => s)
        have hc0 := hz.cell 0; have hc1 := hz.cell 1; have hc2 := hz.cell 2; have hc3 := hz.cell 3; have hc4 := hz.cell 4; have hc5 := hz.cell 5; have hc6 := hz.cell 6; have hc7 := hz.cell 7; have hc8 := hz.cell 8; have hc9 := hz.cell 9; have hc10 := hz.cell 10; have hc11 := hz.cell 11; have hc12 := hz.cell 12
        simp only [List.getElem?_toArray, List.getElem?_cons_succ, List.getElem?_cons_zero] at hc0 hc1 hc2 hc3 hc4 hc5 hc6 hc7 hc8 hc9 hc10 hc11 hc12
        clear hz
        go_simp
        exact hK _ _ (Ext.refl _ wk) rfl
      · -- slot 55
        intro ac wk hx hsame hdep K hK
        have d54 : ac.tmps.getD 54 undef = .agg #[.int .i64 kind1, .int .i64 n1, .int .u64 (who1 : Nat), .bool flag1, .string (strB name1), .string (strB host1), .slice af1 nf1 cf1, .int .i64 last1, .int .i64 days1, .int .i64 day1, .int .i64 within1, .string (strB tag1), .slice ab1 nb1 cb1] := hdep 5 (by kernel_rfl)
        have e54 := d54
        rw [Array.getD_eq_getD_getElem?] at e54
        clear hsame hdep
        go_simp
        refine (command_flat kind1 n1 who1 flag1 name1 host1 last1 days1 day1 within1 tag1 _ _ wk (slice_ex _ _ _) (slice_ex _ _ _)).mono ?_
        rintro e w' ⟨rfl, hx'⟩
        exact hK _ _ hx' rfl
      · -- slot 56
        intro ac wk hx hsame hdep K hK
        have p53 : (ac.tmps.getD 53 undef) = .agg #[.int .i64 kind1, .int .i64 n1, .int .u64 (who1 : Nat), .bool flag1, .string (strB name1), .string (strB host1), .slice af3 nf3 cf3, .int .i64 last1, .int .i64 days1, .int .i64 day1, .int .i64 within1, .string (strB tag1), .slice ab3 nb3 cb3] := hdep 4 (by kernel_rfl)
        have d53 := p53
        have e53 := d53
        rw [Array.getD_eq_getD_getElem?] at e53
        have p55 : (ac.tmps.getD 55 undef) = .agg #[.int .i64 kind1, .int .i64 n1, .int .u64 (who1 : Nat), .bool flag1, .string (strB name1), .string (strB host1), .slice af1 nf1 cf1, .int .i64 last1, .int .i64 days1, .int .i64 day1, .int .i64 within1, .string (strB tag1), .slice ab1 nb1 cb1] := hdep 6 (by kernel_rfl)
        have d55 := p55
        have e55 := d55
        rw [Array.getD_eq_getD_getElem?] at e55
        clear hsame hdep
        go_simp
        refine (same_flat kind1 n1 who1 flag1 name1 host1 files1 last1 days1 day1 within1 tag1 bits1 kind1 n1 who1 flag1 name1 host1 files1 last1 days1 day1 within1 tag1 bits1 _ _ _ _ wk (HF3.out.ext0 (Dr.extN hx)) (HZ3.out.ext0 (Dr.extN hx)) (HF1.out.ext0 (Dr.extN hx)) (HZ1.out.ext0 (Dr.extN hx))).mono ?_
        rintro e w' ⟨hx', t, rfl, ht⟩
        exact hK _ _ hx' (congrArg Value.bool (ht.2 rfl))
      · -- slot 57
        intro ac wk hx hsame hdep K hK
        have p56 : (ac.tmps.getD 56 undef) = .bool true := hdep 7 (by kernel_rfl)
        have d56 := p56
        have e56 := d56
        rw [Array.getD_eq_getD_getElem?] at e56
        clear hsame hdep
        go_simp
        exact hK _ _ (Ext.refl _ wk) rfl
      · -- slot 58
        intro ac wk hx hsame hdep K hK
        have d51 : ac.tmps.getD 51 undef = .bool false := hdep 2 (by kernel_rfl)
        have e51 := d51
        rw [Array.getD_eq_getD_getElem?] at e51
        have d57 : ac.tmps.getD 57 undef = .bool false := hdep 8 (by kernel_rfl)
        have e57 := d57
        rw [Array.getD_eq_getD_getElem?] at e57
        clear hsame hdep
        go_simp
        exact hK _ _ (Ext.refl _ wk) rfl
      · -- slot 59
        intro ac wk hx hsame hdep K hK
        have d58 : ac.tmps.getD 58 undef = .bool false := hdep 9 (by kernel_rfl)
        have e58 := d58
        rw [Array.getD_eq_getD_getElem?] at e58
        clear hsame hdep
        go_simp
        exact hK _ _ (Ext.refl _ wk) rfl
      · -- slot 60
        intro ac wk hx hsame hdep K hK
        have d10 : ac.tmps.getD 10 undef = .int .i64 k2 := hsame 10 (by kernel_rfl)
        have e10 := d10
        rw [Array.getD_eq_getD_getElem?] at e10
        clear hsame hdep
        go_simp
        exact hK _ _ (Ext.refl _ wk) rfl
      · -- slot 61
        intro ac wk hx hsame hdep K hK
        have d60 : ac.tmps.getD 60 undef = .int .i64 k2 := hdep 11 (by kernel_rfl)
        have e60 := d60
        rw [Array.getD_eq_getD_getElem?] at e60
        clear hsame hdep
        go_simp
        exact hK _ _ (Ext.refl _ wk) (congrArg Value.bool (beq_false_of_ne hkz))
      · -- slot 62
        intro ac wk hx hsame hdep K hK
        have d61 : ac.tmps.getD 61 undef = .bool false := hdep 12 (by kernel_rfl)
        have e61 := d61
        rw [Array.getD_eq_getD_getElem?] at e61
        clear hsame hdep
        go_simp
        exact hK _ _ (Ext.refl _ wk) rfl
      · -- slot 72
        intro ac wk hx hsame hdep K hK
        have d62 : ac.tmps.getD 62 undef = .bool false := hdep 13 (by kernel_rfl)
        have e62 := d62
        rw [Array.getD_eq_getD_getElem?] at e62
        have d71 : ac.tmps.getD 71 undef = undef := hdep 22 (by kernel_rfl)
        have e71 := d71
        rw [Array.getD_eq_getD_getElem?] at e71
        clear hsame hdep
        go_simp
        exact hK _ _ (Ext.refl _ wk) rfl
      · intro ac wk hx hdf hsz hsame hvals
        obtain ⟨u0, f0⟩ : ∃ u, ac.tmps.getD 0 undef = u := ⟨_, rfl⟩
        obtain ⟨u1, f1⟩ : ∃ u, ac.tmps.getD 1 undef = u := ⟨_, rfl⟩
        have f2 : ac.tmps.getD 2 undef = .slice al ml cl := hsame 2 (by kernel_rfl)
        have f3 : ac.tmps.getD 3 undef = .pointer (some ⟨b1, 0, none⟩) := hsame 3 (by kernel_rfl)
        have f4 : ac.tmps.getD 4 undef = .pointer (some ⟨b2, 0, none⟩) := hsame 4 (by kernel_rfl)
        obtain ⟨u5, f5⟩ : ∃ u, ac.tmps.getD 5 undef = u := ⟨_, rfl⟩
        obtain ⟨u6, f6⟩ : ∃ u, ac.tmps.getD 6 undef = u := ⟨_, rfl⟩
        have f7 : ac.tmps.getD 7 undef = .slice ax mx cx := hsame 7 (by kernel_rfl)
        obtain ⟨u8, f8⟩ : ∃ u, ac.tmps.getD 8 undef = u := ⟨_, rfl⟩
        have f9 : ac.tmps.getD 9 undef = .slice none 0 0 := hsame 9 (by kernel_rfl)
        have f10 : ac.tmps.getD 10 undef = .int .i64 k2 := hsame 10 (by kernel_rfl)
        have f11 : ac.tmps.getD 11 undef = .pointer (some ⟨b3, 0, none⟩) := hsame 11 (by kernel_rfl)
        have f12 : ac.tmps.getD 12 undef = .int .i64 0 := hsame 12 (by kernel_rfl)
        obtain ⟨u13, f13⟩ : ∃ u, ac.tmps.getD 13 undef = u := ⟨_, rfl⟩
        obtain ⟨u14, f14⟩ : ∃ u, ac.tmps.getD 14 undef = u := ⟨_, rfl⟩
        obtain ⟨u15, f15⟩ : ∃ u, ac.tmps.getD 15 undef = u := ⟨_, rfl⟩
        obtain ⟨u16, f16⟩ : ∃ u, ac.tmps.getD 16 undef = u := ⟨_, rfl⟩
        obtain ⟨u17, f17⟩ : ∃ u, ac.tmps.getD 17 undef = u := ⟨_, rfl⟩
        obtain ⟨u18, f18⟩ : ∃ u, ac.tmps.getD 18 undef = u := ⟨_, rfl⟩
        obtain ⟨u19, f19⟩ : ∃ u, ac.tmps.getD 19 undef = u := ⟨_, rfl⟩
        obtain ⟨u20, f20⟩ : ∃ u, ac.tmps.getD 20 undef = u := ⟨_, rfl⟩
        obtain ⟨u21, f21⟩ : ∃ u, ac.tmps.getD 21 undef = u := ⟨_, rfl⟩
        obtain ⟨u22, f22⟩ : ∃ u, ac.tmps.getD 22 undef = u := ⟨_, rfl⟩
        obtain ⟨u23, f23⟩ : ∃ u, ac.tmps.getD 23 undef = u := ⟨_, rfl⟩
        obtain ⟨u24, f24⟩ : ∃ u, ac.tmps.getD 24 undef = u := ⟨_, rfl⟩
        obtain ⟨u25, f25⟩ : ∃ u, ac.tmps.getD 25 undef = u := ⟨_, rfl⟩
        obtain ⟨u26, f26⟩ : ∃ u, ac.tmps.getD 26 undef = u := ⟨_, rfl⟩
        obtain ⟨u27, f27⟩ : ∃ u, ac.tmps.getD 27 undef = u := ⟨_, rfl⟩
        obtain ⟨u28, f28⟩ : ∃ u, ac.tmps.getD 28 undef = u := ⟨_, rfl⟩
        obtain ⟨u29, f29⟩ : ∃ u, ac.tmps.getD 29 undef = u := ⟨_, rfl⟩
        obtain ⟨u30, f30⟩ : ∃ u, ac.tmps.getD 30 undef = u := ⟨_, rfl⟩
        obtain ⟨u31, f31⟩ : ∃ u, ac.tmps.getD 31 undef = u := ⟨_, rfl⟩
        obtain ⟨u32, f32⟩ : ∃ u, ac.tmps.getD 32 undef = u := ⟨_, rfl⟩
        obtain ⟨u33, f33⟩ : ∃ u, ac.tmps.getD 33 undef = u := ⟨_, rfl⟩
        obtain ⟨u34, f34⟩ : ∃ u, ac.tmps.getD 34 undef = u := ⟨_, rfl⟩
        obtain ⟨u35, f35⟩ : ∃ u, ac.tmps.getD 35 undef = u := ⟨_, rfl⟩
        obtain ⟨u36, f36⟩ : ∃ u, ac.tmps.getD 36 undef = u := ⟨_, rfl⟩
        obtain ⟨u37, f37⟩ : ∃ u, ac.tmps.getD 37 undef = u := ⟨_, rfl⟩
        obtain ⟨u38, f38⟩ : ∃ u, ac.tmps.getD 38 undef = u := ⟨_, rfl⟩
        obtain ⟨u39, f39⟩ : ∃ u, ac.tmps.getD 39 undef = u := ⟨_, rfl⟩
        obtain ⟨u40, f40⟩ : ∃ u, ac.tmps.getD 40 undef = u := ⟨_, rfl⟩
        obtain ⟨u41, f41⟩ : ∃ u, ac.tmps.getD 41 undef = u := ⟨_, rfl⟩
        obtain ⟨u42, f42⟩ : ∃ u, ac.tmps.getD 42 undef = u := ⟨_, rfl⟩
        obtain ⟨u43, f43⟩ : ∃ u, ac.tmps.getD 43 undef = u := ⟨_, rfl⟩
        obtain ⟨u44, f44⟩ : ∃ u, ac.tmps.getD 44 undef = u := ⟨_, rfl⟩
        obtain ⟨u45, f45⟩ : ∃ u, ac.tmps.getD 45 undef = u := ⟨_, rfl⟩
        obtain ⟨u46, f46⟩ : ∃ u, ac.tmps.getD 46 undef = u := ⟨_, rfl⟩
        obtain ⟨u47, f47⟩ : ∃ u, ac.tmps.getD 47 undef = u := ⟨_, rfl⟩
        obtain ⟨u48, f48⟩ : ∃ u, ac.tmps.getD 48 undef = u := ⟨_, rfl⟩
        have f49 : ac.tmps.getD 49 undef = .int .i64 0 := hvals 0 (by decide)
        have f50 : ac.tmps.getD 50 undef = .bool false := hvals 1 (by decide)
        have f51 : ac.tmps.getD 51 undef = .bool false := hvals 2 (by decide)
        have f52 : ac.tmps.getD 52 undef = .agg #[.int .i64 kind1, .int .i64 n1, .int .u64 (who1 : Nat), .bool flag1, .string (strB name1), .string (strB host1), .slice af3 nf3 cf3, .int .i64 last1, .int .i64 days1, .int .i64 day1, .int .i64 within1, .string (strB tag1), .slice ab3 nb3 cb3] := hvals 3 (by decide)
        obtain ⟨u53, f53⟩ : ∃ u, ac.tmps.getD 53 undef = u := ⟨_, rfl⟩
        have f54 : ac.tmps.getD 54 undef = .agg #[.int .i64 kind1, .int .i64 n1, .int .u64 (who1 : Nat), .bool flag1, .string (strB name1), .string (strB host1), .slice af1 nf1 cf1, .int .i64 last1, .int .i64 days1, .int .i64 day1, .int .i64 within1, .string (strB tag1), .slice ab1 nb1 cb1] := hvals 5 (by decide)
        obtain ⟨u55, f55⟩ : ∃ u, ac.tmps.getD 55 undef = u := ⟨_, rfl⟩
        obtain ⟨u56, f56⟩ : ∃ u, ac.tmps.getD 56 undef = u := ⟨_, rfl⟩
        have f57 : ac.tmps.getD 57 undef = .bool false := hvals 8 (by decide)
        have f58 : ac.tmps.getD 58 undef = .bool false := hvals 9 (by decide)
        have f59 : ac.tmps.getD 59 undef = .bool false := hvals 10 (by decide)
        have f60 : ac.tmps.getD 60 undef = .int .i64 k2 := hvals 11 (by decide)
        have f61 : ac.tmps.getD 61 undef = .bool false := hvals 12 (by decide)
        have f62 : ac.tmps.getD 62 undef = .bool false := hvals 13 (by decide)
        have f63 : ac.tmps.getD 63 undef = undef := hvals 14 (by decide)
        have f64 : ac.tmps.getD 64 undef = undef := hvals 15 (by decide)
        have f65 : ac.tmps.getD 65 undef = undef := hvals 16 (by decide)
        have f66 : ac.tmps.getD 66 undef = undef := hvals 17 (by decide)
        have f67 : ac.tmps.getD 67 undef = undef := hvals 18 (by decide)
        have f68 : ac.tmps.getD 68 undef = undef := hvals 19 (by decide)
        have f69 : ac.tmps.getD 69 undef = undef := hvals 20 (by decide)
        have f70 : ac.tmps.getD 70 undef = undef := hvals 21 (by decide)
        have f71 : ac.tmps.getD 71 undef = undef := hvals 22 (by decide)
        have f72 : ac.tmps.getD 72 undef = .bool false := hvals 23 (by decide)
        obtain ⟨u73, f73⟩ : ∃ u, ac.tmps.getD 73 undef = u := ⟨_, rfl⟩
        obtain ⟨u74, f74⟩ : ∃ u, ac.tmps.getD 74 undef = u := ⟨_, rfl⟩
        obtain ⟨u75, f75⟩ : ∃ u, ac.tmps.getD 75 undef = u := ⟨_, rfl⟩
        obtain ⟨u76, f76⟩ : ∃ u, ac.tmps.getD 76 undef = u := ⟨_, rfl⟩
        obtain ⟨u77, f77⟩ : ∃ u, ac.tmps.getD 77 undef = u := ⟨_, rfl⟩
        obtain ⟨u78, f78⟩ : ∃ u, ac.tmps.getD 78 undef = u := ⟨_, rfl⟩
        obtain ⟨u79, f79⟩ : ∃ u, ac.tmps.getD 79 undef = u := ⟨_, rfl⟩
        obtain ⟨u80, f80⟩ : ∃ u, ac.tmps.getD 80 undef = u := ⟨_, rfl⟩
        obtain ⟨u81, f81⟩ : ∃ u, ac.tmps.getD 81 undef = u := ⟨_, rfl⟩
        obtain ⟨u82, f82⟩ : ∃ u, ac.tmps.getD 82 undef = u := ⟨_, rfl⟩
        obtain ⟨u83, f83⟩ : ∃ u, ac.tmps.getD 83 undef = u := ⟨_, rfl⟩
        obtain ⟨u84, f84⟩ : ∃ u, ac.tmps.getD 84 undef = u := ⟨_, rfl⟩
        obtain ⟨u85, f85⟩ : ∃ u, ac.tmps.getD 85 undef = u := ⟨_, rfl⟩
        obtain ⟨u86, f86⟩ : ∃ u, ac.tmps.getD 86 undef = u := ⟨_, rfl⟩
        obtain ⟨u87, f87⟩ : ∃ u, ac.tmps.getD 87 undef = u := ⟨_, rfl⟩
        obtain ⟨u88, f88⟩ : ∃ u, ac.tmps.getD 88 undef = u := ⟨_, rfl⟩
        obtain ⟨u89, f89⟩ : ∃ u, ac.tmps.getD 89 undef = u := ⟨_, rfl⟩
        obtain ⟨u90, f90⟩ : ∃ u, ac.tmps.getD 90 undef = u := ⟨_, rfl⟩
        obtain ⟨u91, f91⟩ : ∃ u, ac.tmps.getD 91 undef = u := ⟨_, rfl⟩
        obtain ⟨u92, f92⟩ : ∃ u, ac.tmps.getD 92 undef = u := ⟨_, rfl⟩
        obtain ⟨u93, f93⟩ : ∃ u, ac.tmps.getD 93 undef = u := ⟨_, rfl⟩
        obtain ⟨u94, f94⟩ : ∃ u, ac.tmps.getD 94 undef = u := ⟨_, rfl⟩
        obtain ⟨u95, f95⟩ : ∃ u, ac.tmps.getD 95 undef = u := ⟨_, rfl⟩
        obtain ⟨u96, f96⟩ : ∃ u, ac.tmps.getD 96 undef = u := ⟨_, rfl⟩
        have hlit : ac = ⟨#[u0, u1, .slice al ml cl, .pointer (some ⟨b1, 0, none⟩), .pointer (some ⟨b2, 0, none⟩), u5, u6, .slice ax mx cx, u8, .slice none 0 0, .int .i64 k2, .pointer (some ⟨b3, 0, none⟩), .int .i64 0, u13, u14, u15, u16, u17, u18, u19, u20, u21, u22, u23, u24, u25, u26, u27, u28, u29, u30, u31, u32, u33, u34, u35, u36, u37, u38, u39, u40, u41, u42, u43, u44, u45, u46, u47, u48, .int .i64 0, .bool false, .bool false, .agg #[.int .i64 kind1, .int .i64 n1, .int .u64 (who1 : Nat), .bool flag1, .string (strB name1), .string (strB host1), .slice af3 nf3 cf3, .int .i64 last1, .int .i64 days1, .int .i64 day1, .int .i64 within1, .string (strB tag1), .slice ab3 nb3 cb3], u53, .agg #[.int .i64 kind1, .int .i64 n1, .int .u64 (who1 : Nat), .bool flag1, .string (strB name1), .string (strB host1), .slice af1 nf1 cf1, .int .i64 last1, .int .i64 days1, .int .i64 day1, .int .i64 within1, .string (strB tag1), .slice ab1 nb1 cb1], u55, u56, .bool false, .bool false, .bool false, .int .i64 k2, .bool false, .bool false, undef, undef, undef, undef, undef, undef, undef, undef, undef, .bool false, u73, u74, u75, u76, u77, u78, u79, u80, u81, u82, u83, u84, u85, u86, u87, u88, u89, u90, u91, u92, u93, u94, u95, u96], []⟩ := by
          refine (act_lit hsz hdf).trans ?_
          rw [show List.range _ = [0, 1, 2, 3, 4, 5, 6, 7, 8, 9, 10, 11, 12, 13, 14, 15, 16, 17, 18, 19, 20, 21, 22, 23, 24, 25, 26, 27, 28, 29, 30, 31, 32, 33, 34, 35, 36, 37, 38, 39, 40, 41, 42, 43, 44, 45, 46, 47, 48, 49, 50, 51, 52, 53, 54, 55, 56, 57, 58, 59, 60, 61, 62, 63, 64, 65, 66, 67, 68, 69, 70, 71, 72, 73, 74, 75, 76, 77, 78, 79, 80, 81, 82, 83, 84, 85, 86, 87, 88, 89, 90, 91, 92, 93, 94, 95, 96] from rfl]
          simp only [List.map_cons, List.map_nil, f0, f1, f2, f3, f4, f5, f6, f7, f8, f9, f10, f11, f12, f13, f14, f15, f16, f17, f18, f19, f20, f21, f22, f23, f24, f25, f26, f27, f28, f29, f30, f31, f32, f33, f34, f35, f36, f37, f38, f39, f40, f41, f42, f43, f44, f45, f46, f47, f48, f49, f50, f51, f52, f53, f54, f55, f56, f57, f58, f59, f60, f61, f62, f63, f64, f65, f66, f67, f68, f69, f70, f71, f72, f73, f74, f75, f76, f77, f78, f79, f80, f81, f82, f83, f84, f85, f86, f87, f88, f89, f90, f91, f92, f93, f94, f95, f96]
        clear hvals hsame hdf hsz f0 f1 f2 f3 f4 f5 f6 f7 f8 f9 f10 f11 f12 f13 f14 f15 f16 f17 f18 f19 f20 f21 f22 f23 f24 f25 f26 f27 f28 f29 f30 f31 f32 f33 f34 f35 f36 f37 f38 f39 f40 f41 f42 f43 f44 f45 f46 f47 f48 f49 f50 f51 f52 f53 f54 f55 f56 f57 f58 f59 f60 f61 f62 f63 f64 f65 f66 f67 f68 f69 f70 f71 f72 f73 f74 f75 f76 f77 f78 f79 f80 f81 f82 f83 f84 f85 f86 f87 f88 f89 f90 f91 f92 f93 f94 f95 f96
        subst hlit
        simp only [List.drop_succ_cons, List.drop_zero]
        go_wp2_with fail
        have HXT := Lib.hid (HX7.out.trans' hx)
        clear hx HX7
        refine (decode_flat l al ml cl _ (HL.out.ext0 HXT.out) (by have := HML.out; have := hml; omega)).mono ?_
        rintro e w20 ⟨hE20, hcase⟩
        have HX20 := Lib.hid (HXT.out.trans' hE20)
        clear HXT
        rcases hcase with ⟨kind4, n4, who4, flag4, name4, host4, files4, last4, days4, day4, within4, tag4, bits4, af4, cf4, ab4, cb4, hd, rfl, hf4, hb4⟩ | ⟨hd, rfl⟩
        · obtain ⟨hlc, hok4, hft4⟩ := (decodeC_iff l _).1 hd
          have hf5 := hf4.files
          have hb5 := bools_own hb4
          obtain ⟨nf4, hnf4⟩ : ∃ m, m = files4.length := ⟨_, rfl⟩
          obtain ⟨nb4, hnb4⟩ : ∃ m, m = bits4.length := ⟨_, rfl⟩
          rw [← hnf4] at hf5 ⊢
          rw [← hnb4] at hb5 ⊢
          have HOK4 := Lib.hid (ok_le hok4); have HCK4 := Lib.hid ((checkN_ok _).2 hok4); have HLC := Lib.hid hlc; have HW4 := Lib.hid (show who4 ≤ 18446744073709551615 by have := hft4.who; dsimp only at this; omega)
          have hxA : Ext No w20 (w20.alloc (.cells #[.int .i64 kind4, .int .i64 n4, .int .u64 (who4 : Nat), .bool flag4, .string (strB name4), .string (strB host4), .slice af4 nf4 cf4, .int .i64 last4, .int .i64 days4, .int .i64 day4, .int .i64 within4, .string (strB tag4), .slice ab4 nb4 cb4] 28)) := (Ext.refl No w20).alloc _
          have hBB := Blk.new w20 #[.int .i64 kind4, .int .i64 n4, .int .u64 (who4 : Nat), .bool flag4, .string (strB name4), .string (strB host4), .slice af4 nf4 cf4, .int .i64 last4, .int .i64 days4, .int .i64 day4, .int .i64 within4, .string (strB tag4), .slice ab4 nb4 cb4] 28
          have HX21 := Lib.hid (HX20.out.trans' hxA); have HF4 := Lib.hid (hf5.ext0 hxA); have HZ4 := Lib.hid (hb5.ext0 hxA)
          have hg0 := hBB.cell 0; have hg1 := hBB.cell 1; have hg2 := hBB.cell 2; have hg3 := hBB.cell 3; have hg4 := hBB.cell 4; have hg5 := hBB.cell 5; have hg6 := hBB.cell 6; have hg7 := hBB.cell 7; have hg8 := hBB.cell 8; have hg9 := hBB.cell 9; have hg10 := hBB.cell 10; have hg11 := hBB.cell 11; have hg12 := hBB.cell 12
          simp only [List.getElem?_toArray, List.getElem?_cons_succ, List.getElem?_cons_zero] at hg0 hg1 hg2 hg3 hg4 hg5 hg6 hg7 hg8 hg9 hg10 hg11 hg12
          clear hBB hf4 hb4 hf5 hb5 hnf4 hnb4 hxA hlc hok4 hft4 hd HX20 hE20
          dsimp only
          go_wp2_with fail
          clear hg0 hg1 hg2 hg3 hg4 hg5 hg6 hg7 hg8 hg9 hg10 hg11 hg12
          refine (encode_flat kind4 n4 who4 flag4 name4 host4 files4 last4 days4 day4 within4 tag4 bits4 _ _ _ HF4.out HZ4.out HW4.out (Nat.le_trans HOK4.out (by decide))).mono ?_
          rintro e w22 ⟨hE22, hcase⟩
          rw [← HLC.out, HCK4.out] at hcase
          rcases hcase with ⟨-, x22, rfl, hx22⟩ | ⟨hk, -⟩
          case inr => exact absurd rfl hk
          have HX22 := Lib.hid (HX21.out.trans' hE22)
          have hb22 := hx22.bytes
          obtain ⟨a22, c22, rfl⟩ := own_form hx22
          have HB22 := Lib.hid hb22
          clear hx22 hb22 hE22 HX21
          dsimp only
          go_wp2_with fail
          refine (same1_any l l _ _ w22 HB22.out (HL.out.ext0 HX22.out)).mono ?_
          rintro e w23 ⟨rfl, rfl⟩
          rw [decide_eq_true rfl]
          dsimp only
          go_wp2_with fail
          go_ret
          exact ⟨rfl, HX22.out⟩
        · have hxA : Ext No w20 (w20.alloc (.cells #[.int .i64 0, .int .i64 0, .int .u64 0, .bool false, .string ⟨#[]⟩, .string ⟨#[]⟩, .slice none 0 0, .int .i64 0, .int .i64 0, .int .i64 0, .int .i64 0, .string ⟨#[]⟩, .slice none 0 0] 28)) := (Ext.refl No w20).alloc _
          have hBB := Blk.new w20 #[.int .i64 0, .int .i64 0, .int .u64 0, .bool false, .string ⟨#[]⟩, .string ⟨#[]⟩, .slice none 0 0, .int .i64 0, .int .i64 0, .int .i64 0, .int .i64 0, .string ⟨#[]⟩, .slice none 0 0] 28
          have HX21 := Lib.hid (HX20.out.trans' hxA)
          have hg0 := hBB.cell 0; have hg1 := hBB.cell 1; have hg2 := hBB.cell 2; have hg3 := hBB.cell 3; have hg4 := hBB.cell 4; have hg5 := hBB.cell 5; have hg6 := hBB.cell 6; have hg7 := hBB.cell 7; have hg8 := hBB.cell 8; have hg9 := hBB.cell 9; have hg10 := hBB.cell 10; have hg11 := hBB.cell 11; have hg12 := hBB.cell 12
          simp only [List.getElem?_toArray, List.getElem?_cons_succ, List.getElem?_cons_zero] at hg0 hg1 hg2 hg3 hg4 hg5 hg6 hg7 hg8 hg9 hg10 hg11 hg12
          clear hBB hxA hd HX20 hE20
          dsimp only
          go_wp2_with fail
          clear hg0 hg1 hg2 hg3 hg4 hg5 hg6 hg7 hg8 hg9 hg10 hg11 hg12
          refine (command_flat 0 0 0 false [] [] 0 0 0 0 [] (.slice none 0 0) (.slice none 0 0) _ (slice_ex _ _ _) (slice_ex _ _ _)).mono ?_
          rintro e w22 ⟨rfl, hE22⟩
          have HX22 := Lib.hid (HX21.out.trans' hE22)
          clear hE22 HX21
          dsimp only
          go_wp2_with fail
          refine (same_zero _).mono ?_
          rintro e w23 ⟨hE23, rfl⟩
          have HX23 := Lib.hid (HX22.out.trans' hE23)
          clear hE23 HX22
          dsimp only
          go_wp2_with fail
          go_ret
          exact ⟨rfl, HX23.out⟩
  · dsimp only
    go_wp2_with fail
    clear hd0 hd1 hd2 hd3 hd4 hd5 hd6 hd7 hd8 hd9 hd10 hd11 hd12
    refine (HC2.out w4 HX4.out).mono ?_
    rintro e w5 ⟨hx5, hc2⟩
    have HX5 := Lib.hid (HX4.out.trans' hx5); have HA5 := Lib.hid (HA4.out.ext hx5 (fun x => x)); have HE5 := Lib.hid (HE4.out.ext hx5 (fun x => x))
    rw [← HK2.out] at hc2
    clear hx5 HX4 HA4 HE4
    rcases hc2 with ⟨hk20, x5, rfl, -⟩ | ⟨hk20, rfl⟩
    all_goals
      dsimp only
      go_wp2_with fail
      have HXT := HX5
      refine (decode_flat l al ml cl _ (HL.out.ext0 HXT.out) (by have := HML.out; have := hml; omega)).mono ?_
      rintro e w20 ⟨hE20, hcase⟩
      have HX20 := Lib.hid (HXT.out.trans' hE20)
      clear HXT
      rcases hcase with ⟨kind4, n4, who4, flag4, name4, host4, files4, last4, days4, day4, within4, tag4, bits4, af4, cf4, ab4, cb4, hd, rfl, hf4, hb4⟩ | ⟨hd, rfl⟩
      · obtain ⟨hlc, hok4, hft4⟩ := (decodeC_iff l _).1 hd
        have hf5 := hf4.files
        have hb5 := bools_own hb4
        obtain ⟨nf4, hnf4⟩ : ∃ m, m = files4.length := ⟨_, rfl⟩
        obtain ⟨nb4, hnb4⟩ : ∃ m, m = bits4.length := ⟨_, rfl⟩
        rw [← hnf4] at hf5 ⊢
        rw [← hnb4] at hb5 ⊢
        have HOK4 := Lib.hid (ok_le hok4); have HCK4 := Lib.hid ((checkN_ok _).2 hok4); have HLC := Lib.hid hlc; have HW4 := Lib.hid (show who4 ≤ 18446744073709551615 by have := hft4.who; dsimp only at this; omega)
        have hxA : Ext No w20 (w20.alloc (.cells #[.int .i64 kind4, .int .i64 n4, .int .u64 (who4 : Nat), .bool flag4, .string (strB name4), .string (strB host4), .slice af4 nf4 cf4, .int .i64 last4, .int .i64 days4, .int .i64 day4, .int .i64 within4, .string (strB tag4), .slice ab4 nb4 cb4] 28)) := (Ext.refl No w20).alloc _
        have hBB := Blk.new w20 #[.int .i64 kind4, .int .i64 n4, .int .u64 (who4 : Nat), .bool flag4, .string (strB name4), .string (strB host4), .slice af4 nf4 cf4, .int .i64 last4, .int .i64 days4, .int .i64 day4, .int .i64 within4, .string (strB tag4), .slice ab4 nb4 cb4] 28
        have HX21 := Lib.hid (HX20.out.trans' hxA); have HF4 := Lib.hid (hf5.ext0 hxA); have HZ4 := Lib.hid (hb5.ext0 hxA)
        have hg0 := hBB.cell 0; have hg1 := hBB.cell 1; have hg2 := hBB.cell 2; have hg3 := hBB.cell 3; have hg4 := hBB.cell 4; have hg5 := hBB.cell 5; have hg6 := hBB.cell 6; have hg7 := hBB.cell 7; have hg8 := hBB.cell 8; have hg9 := hBB.cell 9; have hg10 := hBB.cell 10; have hg11 := hBB.cell 11; have hg12 := hBB.cell 12
        simp only [List.getElem?_toArray, List.getElem?_cons_succ, List.getElem?_cons_zero] at hg0 hg1 hg2 hg3 hg4 hg5 hg6 hg7 hg8 hg9 hg10 hg11 hg12
        clear hBB hf4 hb4 hf5 hb5 hnf4 hnb4 hxA hlc hok4 hft4 hd HX20 hE20
        dsimp only
        go_wp2_with fail
        clear hg0 hg1 hg2 hg3 hg4 hg5 hg6 hg7 hg8 hg9 hg10 hg11 hg12
        refine (encode_flat kind4 n4 who4 flag4 name4 host4 files4 last4 days4 day4 within4 tag4 bits4 _ _ _ HF4.out HZ4.out HW4.out (Nat.le_trans HOK4.out (by decide))).mono ?_
        rintro e w22 ⟨hE22, hcase⟩
        rw [← HLC.out, HCK4.out] at hcase
        rcases hcase with ⟨-, x22, rfl, hx22⟩ | ⟨hk, -⟩
        case inr => exact absurd rfl hk
        have HX22 := Lib.hid (HX21.out.trans' hE22)
        have hb22 := hx22.bytes
        obtain ⟨a22, c22, rfl⟩ := own_form hx22
        have HB22 := Lib.hid hb22
        clear hx22 hb22 hE22 HX21
        dsimp only
        go_wp2_with fail
        refine (same1_any l l _ _ w22 HB22.out (HL.out.ext0 HX22.out)).mono ?_
        rintro e w23 ⟨rfl, rfl⟩
        rw [decide_eq_true rfl]
        dsimp only
        go_wp2_with fail
        go_ret
        exact ⟨rfl, HX22.out⟩
      · have hxA : Ext No w20 (w20.alloc (.cells #[.int .i64 0, .int .i64 0, .int .u64 0, .bool false, .string ⟨#[]⟩, .string ⟨#[]⟩, .slice none 0 0, .int .i64 0, .int .i64 0, .int .i64 0, .int .i64 0, .string ⟨#[]⟩, .slice none 0 0] 28)) := (Ext.refl No w20).alloc _
        have hBB := Blk.new w20 #[.int .i64 0, .int .i64 0, .int .u64 0, .bool false, .string ⟨#[]⟩, .string ⟨#[]⟩, .slice none 0 0, .int .i64 0, .int .i64 0, .int .i64 0, .int .i64 0, .string ⟨#[]⟩, .slice none 0 0] 28
        have HX21 := Lib.hid (HX20.out.trans' hxA)
        have hg0 := hBB.cell 0; have hg1 := hBB.cell 1; have hg2 := hBB.cell 2; have hg3 := hBB.cell 3; have hg4 := hBB.cell 4; have hg5 := hBB.cell 5; have hg6 := hBB.cell 6; have hg7 := hBB.cell 7; have hg8 := hBB.cell 8; have hg9 := hBB.cell 9; have hg10 := hBB.cell 10; have hg11 := hBB.cell 11; have hg12 := hBB.cell 12
        simp only [List.getElem?_toArray, List.getElem?_cons_succ, List.getElem?_cons_zero] at hg0 hg1 hg2 hg3 hg4 hg5 hg6 hg7 hg8 hg9 hg10 hg11 hg12
        clear hBB hxA hd HX20 hE20
        dsimp only
        go_wp2_with fail
        clear hg0 hg1 hg2 hg3 hg4 hg5 hg6 hg7 hg8 hg9 hg10 hg11 hg12
        refine (command_flat 0 0 0 false [] [] 0 0 0 0 [] (.slice none 0 0) (.slice none 0 0) _ (slice_ex _ _ _) (slice_ex _ _ _)).mono ?_
        rintro e w22 ⟨rfl, hE22⟩
        have HX22 := Lib.hid (HX21.out.trans' hE22)
        clear hE22 HX21
        dsimp only
        go_wp2_with fail
        refine (same_zero _).mono ?_
        rintro e w23 ⟨hE23, rfl⟩
        have HX23 := Lib.hid (HX22.out.trans' hE23)
        clear hE23 HX22
        dsimp only
        go_wp2_with fail
        go_ret
        exact ⟨rfl, HX23.out⟩

end Go.Proofs.Ytchejnnfbinclaa
end
