/-
  PROVED HERE: 'Rows.ScriptReadsSaid': of every input the law 'coldstorelaw29.ScriptReads' answers true, and each argument reads behind the call as it read before. No condition but the form's own.
-/
import Derived.Test.YtchejnnfbinclaaZK
import Derived.Test.YtchejnnfbinclaaRows
set_option linter.unusedVariables false
set_option linter.unusedSimpArgs false

section
/- The walk of ScriptReads. Printed by wip/mkreads.py. -/
namespace Go.Proofs.Ytchejnnfbinclaa
open Go.RowKit Go.My

def noN (b : Bool) : Int := if b then 0 else 39
/-- what Decode tells, both ways at once -/
def DecU (l : List UInt8) (w : World) (e : Ending) (w' : World) : Prop :=
  Ext No w w' ∧ ∃ kind n who flag name host files last days day within tag bits af nf cf ab nb cb is, e = .returned (.tuple #[.agg #[.int .i64 kind, .int .i64 n, .int .u64 (who : Nat), .bool flag, .string (strB name), .string (strB host), .slice af nf cf, .int .i64 last, .int .i64 days, .int .i64 day, .int .i64 within, .string (strB tag), .slice ab nb cb], .int .i64 (noN is)]) ∧ NewF w' w.heap.size files (.slice af nf cf) ∧ w'.ownsRow w.heap.size 4 1 (.slice ab nb cb) bits.length (bits.map .bool) ∧
    (is = true ∧ decodeC l = some ⟨kind, n, who, flag, name, host, files, last, days, day, within, tag, bits⟩ ∨ is = false ∧ decodeC l = none ∧ ⟨kind, n, who, flag, name, host, files, last, days, day, within, tag, bits⟩ = (⟨0, 0, 0, false, [], [], [], 0, 0, 0, 0, [], []⟩ : CmdI))
theorem decode_uni (l : List UInt8) (a : Option Addr) (m c : Nat) (w : World) (hv : IsBytes w l (.slice a m c)) (hl : l.length ≤ 1099511627776) :
    Calls Try.prog 17 #[.slice a m c] w (DecU l w) := by
  refine (decode_flat l a m c w hv hl).mono ?_
  rintro e w' ⟨hE, ⟨kind, n, who, flag, name, host, files, last, days, day, within, tag, bits, af, cf, ab, cb, hd, rfl, hf, hb⟩ | ⟨hd, rfl⟩⟩
  · exact ⟨hE, kind, n, who, flag, name, host, files, last, days, day, within, tag, bits, af, _, cf, ab, _, cb, true, rfl, hf, hb, .inl ⟨rfl, hd⟩⟩
  · exact ⟨hE, 0, 0, 0, false, [], [], [], 0, 0, 0, 0, [], [], none, 0, 0, none, 0, 0, false, rfl, OwnSeq.nil _ _ _ _ _, World.ownsRow_nil _ _ _ _, .inr ⟨rfl, hd, rfl⟩⟩
def DecRU (l : List UInt8) (w : World) (e : Ending) (w' : World) : Prop :=
  Ext No w w' ∧ ∃ kind n who flag name host files last days day within tag bits af nf cf ab nb cb is, e = .returned (.tuple #[.agg #[.int .i64 kind, .int .i64 n, .int .u64 (who : Nat), .bool flag, .string (strB name), .string (strB host), .slice af nf cf, .int .i64 last, .int .i64 days, .int .i64 day, .int .i64 within, .string (strB tag), .slice ab nb cb], .bool is]) ∧ IsFiles w' files (.slice af nf cf) ∧ IsBools w' bits (.slice ab nb cb) ∧
    (is = true ∧ decodeC l = some ⟨kind, n, who, flag, name, host, files, last, days, day, within, tag, bits⟩ ∨ is = false ∧ decodeC l = none ∧ ⟨kind, n, who, flag, name, host, files, last, days, day, within, tag, bits⟩ = (⟨0, 0, 0, false, [], [], [], 0, 0, 0, 0, [], []⟩ : CmdI))
theorem decodeR_uni (l : List UInt8) (a : Option Addr) (m c : Nat) (w : World) (hv : IsBytes w l (.slice a m c)) (hnl : NilOk (.slice a m c)) (hl : l.length ≤ 1099511620000) :
    Calls Try.prog 19 #[.slice a m c] w (DecRU l w) := by
  refine (decodeR_any l a m c w hv hnl hl).mono ?_
  rintro e w' ⟨hE, ⟨cm, vf, vb, hd, rfl, hf, hb⟩ | ⟨hd, rfl⟩⟩
  · obtain ⟨kind, n, who, flag, name, host, files, last, days, day, within, tag, bits⟩ := cm
    obtain ⟨af, nf, cf, rfl⟩ := files_form hf
    obtain ⟨ab, nb, cb, rfl⟩ := bools_form hb
    rw [rdecC_eq] at hd
    exact ⟨hE, kind, n, who, flag, name, host, files, last, days, day, within, tag, bits, af, _, cf, ab, _, cb, true, rfl, hf, hb, .inl ⟨rfl, hd⟩⟩
  · rw [rdecC_eq] at hd
    exact ⟨hE, 0, 0, 0, false, [], [], [], 0, 0, 0, 0, [], [], none, 0, 0, none, 0, 0, false, rfl, ⟨none, 0, rfl, Nat.le_refl 0, by decide, fun i hi => by simp at hi⟩, IsRow.nil _ _, .inr ⟨rfl, hd, rfl⟩⟩
def ParU (l : List UInt8) (w : World) (e : Ending) (w' : World) : Prop :=
  Ext No w w' ∧ ∃ acode anames afiles adone an ab nb cb ag ng cg ok, e = .returned (.tuple #[.agg #[.int .i64 acode, .slice ab nb cb, .slice ag ng cg, .bool adone, .int .i64 an], .int .i64 (noN ok)]) ∧ NewF w' w.heap.size afiles (.slice ag ng cg) ∧ w'.ownsRow w.heap.size 9 1 (.slice ab nb cb) anames.length (strVs anames) ∧
    (ok = true ∧ parseA l = some ⟨acode, anames, afiles, adone, an⟩ ∨ ok = false ∧ parseA l = none ∧ ⟨acode, anames, afiles, adone, an⟩ = (⟨0, [], [], false, 0⟩ : AnsI))
theorem parse_uni (l : List UInt8) (a : Option Addr) (m c : Nat) (w : World) (hv : IsBytes w l (.slice a m c)) (hl : l.length ≤ 1099511627776) :
    Calls Try.prog 18 #[.slice a m c] w (ParU l w) := by
  refine (parse_flat l a m c w hv hl).mono ?_
  rintro e w' ⟨hE, ⟨code, names, files, done, n, ab, cb, ag, cg, hd, rfl, hf, hb⟩ | ⟨hd, rfl⟩⟩
  · exact ⟨hE, code, names, files, done, n, ab, _, cb, ag, _, cg, true, rfl, hf, hb, .inl ⟨rfl, hd⟩⟩
  · exact ⟨hE, 0, [], [], false, 0, none, 0, 0, none, 0, 0, false, rfl, OwnSeq.nil _ _ _ _ _, World.ownsRow_nil _ _ _ _, .inr ⟨rfl, hd, rfl⟩⟩
def ParRU (l : List UInt8) (w : World) (e : Ending) (w' : World) : Prop :=
  Ext No w w' ∧ ∃ acode anames afiles adone an ab nb cb ag ng cg ok, e = .returned (.tuple #[.agg #[.int .i64 acode, .slice ab nb cb, .slice ag ng cg, .bool adone, .int .i64 an], .bool ok]) ∧ IsFiles w' afiles (.slice ag ng cg) ∧ IsStrs w' anames (.slice ab nb cb) ∧
    (ok = true ∧ parseA l = some ⟨acode, anames, afiles, adone, an⟩ ∨ ok = false ∧ parseA l = none ∧ ⟨acode, anames, afiles, adone, an⟩ = (⟨0, [], [], false, 0⟩ : AnsI))
theorem parseR_uni (l : List UInt8) (a : Option Addr) (m c : Nat) (w : World) (hv : IsBytes w l (.slice a m c)) (hnl : NilOk (.slice a m c)) (hl : l.length ≤ 1099511620000) :
    Calls Try.prog 20 #[.slice a m c] w (ParRU l w) := by
  refine (parseR_any l a m c w hv hnl hl).mono ?_
  rintro e w' ⟨hE, ⟨an, vn, vf, hd, rfl, hn, hf⟩ | ⟨hd, rfl⟩⟩
  · obtain ⟨code, names, files, done, n⟩ := an
    obtain ⟨af, nf, cf, rfl⟩ := files_form hf
    obtain ⟨ab, nb, cb, rfl⟩ := strs_form hn
    rw [rparA_eq] at hd
    exact ⟨hE, code, names, files, done, n, ab, _, cb, af, _, cf, true, rfl, hf, hn, .inl ⟨rfl, hd⟩⟩
  · rw [rparA_eq] at hd
    exact ⟨hE, 0, [], [], false, 0, none, 0, 0, none, 0, 0, false, rfl, ⟨none, 0, rfl, Nat.le_refl 0, by decide, fun i hi => by simp at hi⟩, IsRow.nil _ _, .inr ⟨rfl, hd, rfl⟩⟩
theorem own_blkcells {w : World} {B g c3 : Nat} {T : TypeId} {a3 : Option Addr} {n n' : Nat} {xs : List Value} (h : w.ownsRow B T 1 (.slice a3 n c3) n' xs) (ha : a3 = some ⟨g, 0, none⟩) : ∃ cs, Blk w g cs T ∧ ∀ j, j < n' → cs[j]? = xs[j]? := by
  rcases h.2 with ⟨he, -⟩ | ⟨g', cap, cur, he, -, hg, -, -, hsz, htk⟩
  · simp only [Value.slice.injEq] at he; rw [ha] at he; cases he.1
  · simp only [Value.slice.injEq] at he
    rw [ha] at he
    have hgg : g = g' := by simpa using he.1
    subst hgg
    refine ⟨cur, hg, fun j hj => ?_⟩
    rw [← htk, List.getElem?_take, if_pos (by omega)]
    simp
theorem byts_getElem (l : List UInt8) (j : Nat) (h : j < l.length) : (byts l)[j]? = some (byt l j) := by
  simp [byts, byt, List.getD_eq_getElem?_getD, h]
theorem uni_eq {α : Type} {o : Option α} {z x y : α} {p q : Bool} (h : p = true ∧ o = some x ∨ p = false ∧ o = none ∧ x = z) (k : q = true ∧ o = some y ∨ q = false ∧ o = none ∧ y = z) : p = q ∧ x = y := by
  rcases h with ⟨rfl, h⟩ | ⟨rfl, h, rfl⟩
  · rcases k with ⟨rfl, k⟩ | ⟨rfl, k, rfl⟩
    · rw [h] at k; exact ⟨rfl, Option.some.inj k⟩
    · rw [h] at k; cases k
  · rcases k with ⟨rfl, k⟩ | ⟨rfl, k, rfl⟩
    · rw [h] at k; cases k
    · exact ⟨rfl, rfl⟩

def ReadsV11 (kind1 n1 : Int) (who1 : Nat) (flag1 : Bool) (name1 host1 : List UInt8) (last1 days1 day1 within1 : Int) (tag1 : List UInt8) (acode1 : Int) (adone1 : Bool) (an1 : Int) (af4 : Option Addr) (nf4 cf4 : Nat) (ab4 : Option Addr) (nb4 cb4 : Nat) (af9 : Option Addr) (nf9 cf9 : Nat) (ab9 : Option Addr) (nb9 cb9 : Nat) (an6 : Option Addr) (nn6 cn6 : Nat) (ag6 : Option Addr) (ng6 cg6 : Nat) (an8 : Option Addr) (nn8 cn8 : Nat) (ag8 : Option Addr) (ng8 cg8 : Nat) : Nat → Value → World → Prop
  | 0, v, w => v = .int .i64 0
  | 1, v, w => v = .bool true
  | 2, v, w => v = .bool true
  | 3, v, w => v = .bool true
  | 4, v, w => v = .bool true
  | 5, v, w => v = .bool true
  | 6, v, w => v = .bool true
  | 7, v, w => v = undef
  | 8, v, w => v = undef
  | 9, v, w => v = .bool true
  | 10, v, w => v = .bool true
  | 11, v, w => v = .bool true
  | 12, v, w => v = .agg #[.int .i64 kind1, .int .i64 n1, .int .u64 (who1 : Nat), .bool flag1, .string (strB name1), .string (strB host1), .slice af4 nf4 cf4, .int .i64 last1, .int .i64 days1, .int .i64 day1, .int .i64 within1, .string (strB tag1), .slice ab4 nb4 cb4]
  | 13, v, w => v = .agg #[.int .i64 kind1, .int .i64 n1, .int .u64 (who1 : Nat), .bool flag1, .string (strB name1), .string (strB host1), .slice af4 nf4 cf4, .int .i64 last1, .int .i64 days1, .int .i64 day1, .int .i64 within1, .string (strB tag1), .slice ab4 nb4 cb4]
  | 14, v, w => v = .agg #[.int .i64 kind1, .int .i64 n1, .int .u64 (who1 : Nat), .bool flag1, .string (strB name1), .string (strB host1), .slice af9 nf9 cf9, .int .i64 last1, .int .i64 days1, .int .i64 day1, .int .i64 within1, .string (strB tag1), .slice ab9 nb9 cb9]
  | 15, v, w => v = .bool true
  | 16, v, w => v = .bool true
  | 17, v, w => v = .bool true
  | 18, v, w => v = .int .i64 0
  | 19, v, w => v = .bool true
  | 20, v, w => v = .bool true
  | 21, v, w => v = .bool true
  | 22, v, w => v = .bool true
  | 23, v, w => v = .bool true
  | 24, v, w => v = .bool true
  | 25, v, w => v = .bool true
  | 26, v, w => v = undef
  | 27, v, w => v = undef
  | 28, v, w => v = .bool true
  | 29, v, w => v = .bool true
  | 30, v, w => v = .bool true
  | 31, v, w => v = .agg #[.int .i64 acode1, .slice an6 nn6 cn6, .slice ag6 ng6 cg6, .bool adone1, .int .i64 an1]
  | 32, v, w => v = .agg #[.int .i64 acode1, .slice an6 nn6 cn6, .slice ag6 ng6 cg6, .bool adone1, .int .i64 an1]
  | 33, v, w => v = .agg #[.int .i64 acode1, .slice an8 nn8 cn8, .slice ag8 ng8 cg8, .bool adone1, .int .i64 an1]
  | 34, v, w => v = .bool true
  | 35, v, w => v = .bool true
  | _, _, _ => True
theorem ReadsV11_ext (kind1 n1 : Int) (who1 : Nat) (flag1 : Bool) (name1 host1 : List UInt8) (last1 days1 day1 within1 : Int) (tag1 : List UInt8) (acode1 : Int) (adone1 : Bool) (an1 : Int) (af4 : Option Addr) (nf4 cf4 : Nat) (ab4 : Option Addr) (nb4 cb4 : Nat) (af9 : Option Addr) (nf9 cf9 : Nat) (ab9 : Option Addr) (nb9 cb9 : Nat) (an6 : Option Addr) (nn6 cn6 : Nat) (ag6 : Option Addr) (ng6 cg6 : Nat) (an8 : Option Addr) (nn8 cn8 : Nat) (ag8 : Option Addr) (ng8 cg8 : Nat) : ∀ i v w w', ReadsV11 kind1 n1 who1 flag1 name1 host1 last1 days1 day1 within1 tag1 acode1 adone1 an1 af4 nf4 cf4 ab4 nb4 cb4 af9 nf9 cf9 ab9 nb9 cb9 an6 nn6 cn6 ag6 ng6 cg6 an8 nn8 cn8 ag8 ng8 cg8 i v w → Ext No w w' → ReadsV11 kind1 n1 who1 flag1 name1 host1 last1 days1 day1 within1 tag1 acode1 adone1 an1 af4 nf4 cf4 ab4 nb4 cb4 af9 nf9 cf9 ab9 nb9 cb9 an6 nn6 cn6 ag6 ng6 cg6 an8 nn8 cn8 ag8 ng8 cg8 i v w'
  | 0, _, _, _, h, _ => h
  | 1, _, _, _, h, _ => h
  | 2, _, _, _, h, _ => h
  | 3, _, _, _, h, _ => h
  | 4, _, _, _, h, _ => h
  | 5, _, _, _, h, _ => h
  | 6, _, _, _, h, _ => h
  | 7, _, _, _, h, _ => h
  | 8, _, _, _, h, _ => h
  | 9, _, _, _, h, _ => h
  | 10, _, _, _, h, _ => h
  | 11, _, _, _, h, _ => h
  | 12, _, _, _, h, _ => h
  | 13, _, _, _, h, x => h
  | 14, _, _, _, h, _ => h
  | 15, _, _, _, h, x => h
  | 16, _, _, _, h, _ => h
  | 17, _, _, _, h, _ => h
  | 18, _, _, _, h, _ => h
  | 19, _, _, _, h, _ => h
  | 20, _, _, _, h, _ => h
  | 21, _, _, _, h, _ => h
  | 22, _, _, _, h, _ => h
  | 23, _, _, _, h, _ => h
  | 24, _, _, _, h, _ => h
  | 25, _, _, _, h, _ => h
  | 26, _, _, _, h, _ => h
  | 27, _, _, _, h, _ => h
  | 28, _, _, _, h, _ => h
  | 29, _, _, _, h, _ => h
  | 30, _, _, _, h, _ => h
  | 31, _, _, _, h, _ => h
  | 32, _, _, _, h, x => h
  | 33, _, _, _, h, _ => h
  | 34, _, _, _, h, x => h
  | 35, _, _, _, h, _ => h
  | _ + 36, _, _, _, _, _ => trivial
def ReadsV10 (kind1 n1 : Int) (who1 : Nat) (flag1 : Bool) (name1 host1 : List UInt8) (last1 days1 day1 within1 : Int) (tag1 : List UInt8) (acode1 : Int) (adone1 : Bool) (an1 : Int) (af4 : Option Addr) (nf4 cf4 : Nat) (ab4 : Option Addr) (nb4 cb4 : Nat) (af9 : Option Addr) (nf9 cf9 : Nat) (ab9 : Option Addr) (nb9 cb9 : Nat) (an6 : Option Addr) (nn6 cn6 : Nat) (ag6 : Option Addr) (ng6 cg6 : Nat) (an8 : Option Addr) (nn8 cn8 : Nat) (ag8 : Option Addr) (ng8 cg8 : Nat) : Nat → Value → World → Prop
  | 0, v, w => v = .int .i64 0
  | 1, v, w => v = .bool true
  | 2, v, w => v = .bool true
  | 3, v, w => v = .bool true
  | 4, v, w => v = .bool true
  | 5, v, w => v = .bool true
  | 6, v, w => v = .bool true
  | 7, v, w => v = undef
  | 8, v, w => v = undef
  | 9, v, w => v = .bool true
  | 10, v, w => v = .bool true
  | 11, v, w => v = .bool true
  | 12, v, w => v = .agg #[.int .i64 kind1, .int .i64 n1, .int .u64 (who1 : Nat), .bool flag1, .string (strB name1), .string (strB host1), .slice af4 nf4 cf4, .int .i64 last1, .int .i64 days1, .int .i64 day1, .int .i64 within1, .string (strB tag1), .slice ab4 nb4 cb4]
  | 13, v, w => v = .agg #[.int .i64 kind1, .int .i64 n1, .int .u64 (who1 : Nat), .bool flag1, .string (strB name1), .string (strB host1), .slice af4 nf4 cf4, .int .i64 last1, .int .i64 days1, .int .i64 day1, .int .i64 within1, .string (strB tag1), .slice ab4 nb4 cb4]
  | 14, v, w => v = .agg #[.int .i64 kind1, .int .i64 n1, .int .u64 (who1 : Nat), .bool flag1, .string (strB name1), .string (strB host1), .slice af9 nf9 cf9, .int .i64 last1, .int .i64 days1, .int .i64 day1, .int .i64 within1, .string (strB tag1), .slice ab9 nb9 cb9]
  | 15, v, w => v = .bool true
  | 16, v, w => v = .bool true
  | 17, v, w => v = .bool true
  | 18, v, w => v = .int .i64 39
  | 19, v, w => v = .bool false
  | 20, v, w => v = .bool false
  | 21, v, w => v = .bool true
  | 22, v, w => v = .bool true
  | 23, v, w => v = .bool true
  | 24, v, w => v = .bool false
  | 25, v, w => v = .bool false
  | 26, v, w => v = .int .i64 39
  | 27, v, w => v = .bool true
  | 28, v, w => v = .bool true
  | 29, v, w => v = .bool true
  | 30, v, w => v = .bool true
  | 31, v, w => v = .agg #[.int .i64 acode1, .slice an6 nn6 cn6, .slice ag6 ng6 cg6, .bool adone1, .int .i64 an1]
  | 32, v, w => v = .agg #[.int .i64 acode1, .slice an6 nn6 cn6, .slice ag6 ng6 cg6, .bool adone1, .int .i64 an1]
  | 33, v, w => v = .agg #[.int .i64 acode1, .slice an8 nn8 cn8, .slice ag8 ng8 cg8, .bool adone1, .int .i64 an1]
  | 34, v, w => v = .bool true
  | 35, v, w => v = .bool true
  | _, _, _ => True
theorem ReadsV10_ext (kind1 n1 : Int) (who1 : Nat) (flag1 : Bool) (name1 host1 : List UInt8) (last1 days1 day1 within1 : Int) (tag1 : List UInt8) (acode1 : Int) (adone1 : Bool) (an1 : Int) (af4 : Option Addr) (nf4 cf4 : Nat) (ab4 : Option Addr) (nb4 cb4 : Nat) (af9 : Option Addr) (nf9 cf9 : Nat) (ab9 : Option Addr) (nb9 cb9 : Nat) (an6 : Option Addr) (nn6 cn6 : Nat) (ag6 : Option Addr) (ng6 cg6 : Nat) (an8 : Option Addr) (nn8 cn8 : Nat) (ag8 : Option Addr) (ng8 cg8 : Nat) : ∀ i v w w', ReadsV10 kind1 n1 who1 flag1 name1 host1 last1 days1 day1 within1 tag1 acode1 adone1 an1 af4 nf4 cf4 ab4 nb4 cb4 af9 nf9 cf9 ab9 nb9 cb9 an6 nn6 cn6 ag6 ng6 cg6 an8 nn8 cn8 ag8 ng8 cg8 i v w → Ext No w w' → ReadsV10 kind1 n1 who1 flag1 name1 host1 last1 days1 day1 within1 tag1 acode1 adone1 an1 af4 nf4 cf4 ab4 nb4 cb4 af9 nf9 cf9 ab9 nb9 cb9 an6 nn6 cn6 ag6 ng6 cg6 an8 nn8 cn8 ag8 ng8 cg8 i v w'
  | 0, _, _, _, h, _ => h
  | 1, _, _, _, h, _ => h
  | 2, _, _, _, h, _ => h
  | 3, _, _, _, h, _ => h
  | 4, _, _, _, h, _ => h
  | 5, _, _, _, h, _ => h
  | 6, _, _, _, h, _ => h
  | 7, _, _, _, h, _ => h
  | 8, _, _, _, h, _ => h
  | 9, _, _, _, h, _ => h
  | 10, _, _, _, h, _ => h
  | 11, _, _, _, h, _ => h
  | 12, _, _, _, h, _ => h
  | 13, _, _, _, h, x => h
  | 14, _, _, _, h, _ => h
  | 15, _, _, _, h, x => h
  | 16, _, _, _, h, _ => h
  | 17, _, _, _, h, _ => h
  | 18, _, _, _, h, _ => h
  | 19, _, _, _, h, _ => h
  | 20, _, _, _, h, _ => h
  | 21, _, _, _, h, _ => h
  | 22, _, _, _, h, _ => h
  | 23, _, _, _, h, _ => h
  | 24, _, _, _, h, _ => h
  | 25, _, _, _, h, _ => h
  | 26, _, _, _, h, _ => h
  | 27, _, _, _, h, _ => h
  | 28, _, _, _, h, _ => h
  | 29, _, _, _, h, _ => h
  | 30, _, _, _, h, _ => h
  | 31, _, _, _, h, _ => h
  | 32, _, _, _, h, x => h
  | 33, _, _, _, h, _ => h
  | 34, _, _, _, h, x => h
  | 35, _, _, _, h, _ => h
  | _ + 36, _, _, _, _, _ => trivial
def ReadsV01 (kind1 n1 : Int) (who1 : Nat) (flag1 : Bool) (name1 host1 : List UInt8) (last1 days1 day1 within1 : Int) (tag1 : List UInt8) (acode1 : Int) (adone1 : Bool) (an1 : Int) (af4 : Option Addr) (nf4 cf4 : Nat) (ab4 : Option Addr) (nb4 cb4 : Nat) (af9 : Option Addr) (nf9 cf9 : Nat) (ab9 : Option Addr) (nb9 cb9 : Nat) (an6 : Option Addr) (nn6 cn6 : Nat) (ag6 : Option Addr) (ng6 cg6 : Nat) (an8 : Option Addr) (nn8 cn8 : Nat) (ag8 : Option Addr) (ng8 cg8 : Nat) : Nat → Value → World → Prop
  | 0, v, w => v = .int .i64 39
  | 1, v, w => v = .bool false
  | 2, v, w => v = .bool false
  | 3, v, w => v = .bool true
  | 4, v, w => v = .bool true
  | 5, v, w => v = .bool false
  | 6, v, w => v = .bool false
  | 7, v, w => v = .int .i64 39
  | 8, v, w => v = .bool true
  | 9, v, w => v = .bool true
  | 10, v, w => v = .bool true
  | 11, v, w => v = .bool true
  | 12, v, w => v = .agg #[.int .i64 kind1, .int .i64 n1, .int .u64 (who1 : Nat), .bool flag1, .string (strB name1), .string (strB host1), .slice af4 nf4 cf4, .int .i64 last1, .int .i64 days1, .int .i64 day1, .int .i64 within1, .string (strB tag1), .slice ab4 nb4 cb4]
  | 13, v, w => v = .agg #[.int .i64 kind1, .int .i64 n1, .int .u64 (who1 : Nat), .bool flag1, .string (strB name1), .string (strB host1), .slice af4 nf4 cf4, .int .i64 last1, .int .i64 days1, .int .i64 day1, .int .i64 within1, .string (strB tag1), .slice ab4 nb4 cb4]
  | 14, v, w => v = .agg #[.int .i64 kind1, .int .i64 n1, .int .u64 (who1 : Nat), .bool flag1, .string (strB name1), .string (strB host1), .slice af9 nf9 cf9, .int .i64 last1, .int .i64 days1, .int .i64 day1, .int .i64 within1, .string (strB tag1), .slice ab9 nb9 cb9]
  | 15, v, w => v = .bool true
  | 16, v, w => v = .bool true
  | 17, v, w => v = .bool true
  | 18, v, w => v = .int .i64 0
  | 19, v, w => v = .bool true
  | 20, v, w => v = .bool true
  | 21, v, w => v = .bool true
  | 22, v, w => v = .bool true
  | 23, v, w => v = .bool true
  | 24, v, w => v = .bool true
  | 25, v, w => v = .bool true
  | 26, v, w => v = undef
  | 27, v, w => v = undef
  | 28, v, w => v = .bool true
  | 29, v, w => v = .bool true
  | 30, v, w => v = .bool true
  | 31, v, w => v = .agg #[.int .i64 acode1, .slice an6 nn6 cn6, .slice ag6 ng6 cg6, .bool adone1, .int .i64 an1]
  | 32, v, w => v = .agg #[.int .i64 acode1, .slice an6 nn6 cn6, .slice ag6 ng6 cg6, .bool adone1, .int .i64 an1]
  | 33, v, w => v = .agg #[.int .i64 acode1, .slice an8 nn8 cn8, .slice ag8 ng8 cg8, .bool adone1, .int .i64 an1]
  | 34, v, w => v = .bool true
  | 35, v, w => v = .bool true
  | _, _, _ => True
theorem ReadsV01_ext (kind1 n1 : Int) (who1 : Nat) (flag1 : Bool) (name1 host1 : List UInt8) (last1 days1 day1 within1 : Int) (tag1 : List UInt8) (acode1 : Int) (adone1 : Bool) (an1 : Int) (af4 : Option Addr) (nf4 cf4 : Nat) (ab4 : Option Addr) (nb4 cb4 : Nat) (af9 : Option Addr) (nf9 cf9 : Nat) (ab9 : Option Addr) (nb9 cb9 : Nat) (an6 : Option Addr) (nn6 cn6 : Nat) (ag6 : Option Addr) (ng6 cg6 : Nat) (an8 : Option Addr) (nn8 cn8 : Nat) (ag8 : Option Addr) (ng8 cg8 : Nat) : ∀ i v w w', ReadsV01 kind1 n1 who1 flag1 name1 host1 last1 days1 day1 within1 tag1 acode1 adone1 an1 af4 nf4 cf4 ab4 nb4 cb4 af9 nf9 cf9 ab9 nb9 cb9 an6 nn6 cn6 ag6 ng6 cg6 an8 nn8 cn8 ag8 ng8 cg8 i v w → Ext No w w' → ReadsV01 kind1 n1 who1 flag1 name1 host1 last1 days1 day1 within1 tag1 acode1 adone1 an1 af4 nf4 cf4 ab4 nb4 cb4 af9 nf9 cf9 ab9 nb9 cb9 an6 nn6 cn6 ag6 ng6 cg6 an8 nn8 cn8 ag8 ng8 cg8 i v w'
  | 0, _, _, _, h, _ => h
  | 1, _, _, _, h, _ => h
  | 2, _, _, _, h, _ => h
  | 3, _, _, _, h, _ => h
  | 4, _, _, _, h, _ => h
  | 5, _, _, _, h, _ => h
  | 6, _, _, _, h, _ => h
  | 7, _, _, _, h, _ => h
  | 8, _, _, _, h, _ => h
  | 9, _, _, _, h, _ => h
  | 10, _, _, _, h, _ => h
  | 11, _, _, _, h, _ => h
  | 12, _, _, _, h, _ => h
  | 13, _, _, _, h, x => h
  | 14, _, _, _, h, _ => h
  | 15, _, _, _, h, x => h
  | 16, _, _, _, h, _ => h
  | 17, _, _, _, h, _ => h
  | 18, _, _, _, h, _ => h
  | 19, _, _, _, h, _ => h
  | 20, _, _, _, h, _ => h
  | 21, _, _, _, h, _ => h
  | 22, _, _, _, h, _ => h
  | 23, _, _, _, h, _ => h
  | 24, _, _, _, h, _ => h
  | 25, _, _, _, h, _ => h
  | 26, _, _, _, h, _ => h
  | 27, _, _, _, h, _ => h
  | 28, _, _, _, h, _ => h
  | 29, _, _, _, h, _ => h
  | 30, _, _, _, h, _ => h
  | 31, _, _, _, h, _ => h
  | 32, _, _, _, h, x => h
  | 33, _, _, _, h, _ => h
  | 34, _, _, _, h, x => h
  | 35, _, _, _, h, _ => h
  | _ + 36, _, _, _, _, _ => trivial
def ReadsV00 (kind1 n1 : Int) (who1 : Nat) (flag1 : Bool) (name1 host1 : List UInt8) (last1 days1 day1 within1 : Int) (tag1 : List UInt8) (acode1 : Int) (adone1 : Bool) (an1 : Int) (af4 : Option Addr) (nf4 cf4 : Nat) (ab4 : Option Addr) (nb4 cb4 : Nat) (af9 : Option Addr) (nf9 cf9 : Nat) (ab9 : Option Addr) (nb9 cb9 : Nat) (an6 : Option Addr) (nn6 cn6 : Nat) (ag6 : Option Addr) (ng6 cg6 : Nat) (an8 : Option Addr) (nn8 cn8 : Nat) (ag8 : Option Addr) (ng8 cg8 : Nat) : Nat → Value → World → Prop
  | 0, v, w => v = .int .i64 39
  | 1, v, w => v = .bool false
  | 2, v, w => v = .bool false
  | 3, v, w => v = .bool true
  | 4, v, w => v = .bool true
  | 5, v, w => v = .bool false
  | 6, v, w => v = .bool false
  | 7, v, w => v = .int .i64 39
  | 8, v, w => v = .bool true
  | 9, v, w => v = .bool true
  | 10, v, w => v = .bool true
  | 11, v, w => v = .bool true
  | 12, v, w => v = .agg #[.int .i64 kind1, .int .i64 n1, .int .u64 (who1 : Nat), .bool flag1, .string (strB name1), .string (strB host1), .slice af4 nf4 cf4, .int .i64 last1, .int .i64 days1, .int .i64 day1, .int .i64 within1, .string (strB tag1), .slice ab4 nb4 cb4]
  | 13, v, w => v = .agg #[.int .i64 kind1, .int .i64 n1, .int .u64 (who1 : Nat), .bool flag1, .string (strB name1), .string (strB host1), .slice af4 nf4 cf4, .int .i64 last1, .int .i64 days1, .int .i64 day1, .int .i64 within1, .string (strB tag1), .slice ab4 nb4 cb4]
  | 14, v, w => v = .agg #[.int .i64 kind1, .int .i64 n1, .int .u64 (who1 : Nat), .bool flag1, .string (strB name1), .string (strB host1), .slice af9 nf9 cf9, .int .i64 last1, .int .i64 days1, .int .i64 day1, .int .i64 within1, .string (strB tag1), .slice ab9 nb9 cb9]
  | 15, v, w => v = .bool true
  | 16, v, w => v = .bool true
  | 17, v, w => v = .bool true
  | 18, v, w => v = .int .i64 39
  | 19, v, w => v = .bool false
  | 20, v, w => v = .bool false
  | 21, v, w => v = .bool true
  | 22, v, w => v = .bool true
  | 23, v, w => v = .bool true
  | 24, v, w => v = .bool false
  | 25, v, w => v = .bool false
  | 26, v, w => v = .int .i64 39
  | 27, v, w => v = .bool true
  | 28, v, w => v = .bool true
  | 29, v, w => v = .bool true
  | 30, v, w => v = .bool true
  | 31, v, w => v = .agg #[.int .i64 acode1, .slice an6 nn6 cn6, .slice ag6 ng6 cg6, .bool adone1, .int .i64 an1]
  | 32, v, w => v = .agg #[.int .i64 acode1, .slice an6 nn6 cn6, .slice ag6 ng6 cg6, .bool adone1, .int .i64 an1]
  | 33, v, w => v = .agg #[.int .i64 acode1, .slice an8 nn8 cn8, .slice ag8 ng8 cg8, .bool adone1, .int .i64 an1]
  | 34, v, w => v = .bool true
  | 35, v, w => v = .bool true
  | _, _, _ => True
theorem ReadsV00_ext (kind1 n1 : Int) (who1 : Nat) (flag1 : Bool) (name1 host1 : List UInt8) (last1 days1 day1 within1 : Int) (tag1 : List UInt8) (acode1 : Int) (adone1 : Bool) (an1 : Int) (af4 : Option Addr) (nf4 cf4 : Nat) (ab4 : Option Addr) (nb4 cb4 : Nat) (af9 : Option Addr) (nf9 cf9 : Nat) (ab9 : Option Addr) (nb9 cb9 : Nat) (an6 : Option Addr) (nn6 cn6 : Nat) (ag6 : Option Addr) (ng6 cg6 : Nat) (an8 : Option Addr) (nn8 cn8 : Nat) (ag8 : Option Addr) (ng8 cg8 : Nat) : ∀ i v w w', ReadsV00 kind1 n1 who1 flag1 name1 host1 last1 days1 day1 within1 tag1 acode1 adone1 an1 af4 nf4 cf4 ab4 nb4 cb4 af9 nf9 cf9 ab9 nb9 cb9 an6 nn6 cn6 ag6 ng6 cg6 an8 nn8 cn8 ag8 ng8 cg8 i v w → Ext No w w' → ReadsV00 kind1 n1 who1 flag1 name1 host1 last1 days1 day1 within1 tag1 acode1 adone1 an1 af4 nf4 cf4 ab4 nb4 cb4 af9 nf9 cf9 ab9 nb9 cb9 an6 nn6 cn6 ag6 ng6 cg6 an8 nn8 cn8 ag8 ng8 cg8 i v w'
  | 0, _, _, _, h, _ => h
  | 1, _, _, _, h, _ => h
  | 2, _, _, _, h, _ => h
  | 3, _, _, _, h, _ => h
  | 4, _, _, _, h, _ => h
  | 5, _, _, _, h, _ => h
  | 6, _, _, _, h, _ => h
  | 7, _, _, _, h, _ => h
  | 8, _, _, _, h, _ => h
  | 9, _, _, _, h, _ => h
  | 10, _, _, _, h, _ => h
  | 11, _, _, _, h, _ => h
  | 12, _, _, _, h, _ => h
  | 13, _, _, _, h, x => h
  | 14, _, _, _, h, _ => h
  | 15, _, _, _, h, x => h
  | 16, _, _, _, h, _ => h
  | 17, _, _, _, h, _ => h
  | 18, _, _, _, h, _ => h
  | 19, _, _, _, h, _ => h
  | 20, _, _, _, h, _ => h
  | 21, _, _, _, h, _ => h
  | 22, _, _, _, h, _ => h
  | 23, _, _, _, h, _ => h
  | 24, _, _, _, h, _ => h
  | 25, _, _, _, h, _ => h
  | 26, _, _, _, h, _ => h
  | 27, _, _, _, h, _ => h
  | 28, _, _, _, h, _ => h
  | 29, _, _, _, h, _ => h
  | 30, _, _, _, h, _ => h
  | 31, _, _, _, h, _ => h
  | 32, _, _, _, h, x => h
  | 33, _, _, _, h, _ => h
  | 34, _, _, _, h, x => h
  | 35, _, _, _, h, _ => h
  | _ + 36, _, _, _, _, _ => trivial

set_option maxRecDepth 100000 in
set_option maxHeartbeats 80000000 in
theorem scriptReads_fr (l : List UInt8) (v0 : Value) (w : World) (hb : IsBytes w l v0) (hn : NilOk v0) :
    Calls Try.prog 4 #[v0] w fun e w' => e = .returned (.bool true) ∧ Ext No w w' := by
  obtain ⟨a, c, rfl, -⟩ := id hb
  obtain ⟨m, hm⟩ : ∃ m, m = l.length := ⟨_, rfl⟩
  rw [← hm] at hb hn ⊢
  have HM := Lib.hid hm; have HV := Lib.hid (And.intro hb hn)
  clear hm hb hn
  go_enter Try.func4, Try.ntmps4
  go_wp2_with fail
  refine (alive_any _).mono ?_
  rintro e w1 ⟨rfl, hx1⟩
  have HX1 := Lib.hid hx1
  clear hx1
  by_cases h600 : 600 < m
  · have h600i : (600 : Int) < m := by omega
    go_wp2_with fail
    go_ret
    exact ⟨rfl, HX1.out⟩
  have h600i : decide ((600 : Int) < m) = false := by simp; omega
  have hm600 : m ≤ 600 := by omega
  have hrow : IsRow (w1.alloc (.cells #[] 5)) (byt l) m (.slice a m c) := by have h := HV.out.1.ext0 (HX1.out.alloc (.cells #[] 5)); unfold IsBytes at h; rw [← HM.out] at h; exact h
  have HR1 := Lib.hid hrow; have HNA := Lib.hid HV.out.2.none
  have HO0 := Lib.hid (World.ownsRow_made (e := 5) (size := 1) w1 #[] 0 (Nat.le_refl _) (by decide) rfl)
  have HN1 := Lib.hid (show 0 + m ≤ 9223372036854775807 ∧ (0 + m) * 1 ≤ 140737488355328 by omega)
  have HS3 := Lib.hid (show w1.heap.size ≤ (w1.alloc (.cells #[] 5)).heap.size by simp)
  have H1a := Lib.hid (show ∀ i, i < m → (byt l i).oneCell' = true from fun _ _ => rfl)
  clear hrow h600
  go_wp2_with (at_builtin; refine wpList_appN _ rfl _ _ 31 rfl w1.heap.size 5 _ _ u8_infoJ Try.underlying31 rfl _ _ _ rfl HO0.out _ _ _ (byt l) rfl HR1.out HNA.out H1a.out HN1.out.1 HN1.out.2 HS3.out ?_; intro v3 w2 hown hg; rw [Nat.zero_add, List.nil_append] at hown; obtain ⟨a3, c3, rfl⟩ := own_form hown)
  have hx12 : Ext No w1 w2 := ((Ext.refl No w1).alloc _).grown hg (fun j hj h => by have : w1.heap.size = j := Option.some.inj hj; omega)
  have hob : OwnB w2 5 w1.heap.size l (.slice a3 m c3) := by
    have h := hown
    rw [HM.out, byts_range] at h
    rw [HM.out]
    exact h
  have HOB := Lib.hid hob; have HX2 := Lib.hid (HX1.out.trans' hx12)
  have HLT := Lib.hid (show ∀ j, (Value.slice a3 m c3).ownBlock = some j → w.heap.size ≤ j ∧ j < w2.heap.size from fun j hj => ⟨Nat.le_trans HX1.out.size (World.ownsRow.lt hob j hj).1, (World.ownsRow.lt hob j hj).2⟩)
  clear hown hg hx12 hob HR1 HNA HO0 HN1 HS3 H1a HX1
  refine (decode_uni l a3 m c3 w2 HOB.out.bytes (by rw [← HM.out]; omega)).mono ?_
  rintro e w3 ⟨hE3, kind1, n1, who1, flag1, name1, host1, files1, last1, days1, day1, within1, tag1, bits1, af4, nf4, cf4, ab4, nb4, cb4, is, rfl, hf4, hb4, hu1⟩
  have HF3 := Lib.hid hf4; have HZ3 := Lib.hid hb4; have HU1 := Lib.hid hu1
  have HX3 := Lib.hid (HX2.out.trans' hE3); have HOB3 := Lib.hid (HOB.out.ext hE3 (fun _ _ s => s)); have HSZ := Lib.hid hE3.size
  clear hf4 hb4 hu1 hE3 HOB HX2
  generalize hez : noN is = ez at *
  have HEZ := Lib.hid hez; clear hez
  dsimp only
  go_wp2_with fail
  have hxA : Ext No w3 (w3.alloc (.cells #[.int .i64 kind1, .int .i64 n1, .int .u64 (who1 : Nat), .bool flag1, .string (strB name1), .string (strB host1), .slice af4 nf4 cf4, .int .i64 last1, .int .i64 days1, .int .i64 day1, .int .i64 within1, .string (strB tag1), .slice ab4 nb4 cb4] 28)) := (Ext.refl No w3).alloc _
  refine (parse_uni l a3 m c3 _ (HOB3.out.bytes.ext0 hxA) (by rw [← HM.out]; omega)).mono ?_
  rintro e w5 ⟨hE5, acode1, anames1, afiles1, adone1, an1, an6, nn6, cn6, ag6, ng6, cg6, ok, rfl, hg6, hn6, hu2⟩
  have HG6 := Lib.hid hg6; have HN6 := Lib.hid hn6; have HU2 := Lib.hid hu2; have HE5 := Lib.hid hE5
  clear hg6 hn6 hu2 hE5 hxA
  generalize hoz : noN ok = oz at *
  have HOZ := Lib.hid hoz; clear hoz
  dsimp only
  go_wp2_with fail
  -- the bytes that were read are turned
  obtain ⟨W0, hW0⟩ : ∃ W0, (w5.alloc (.cells #[.int .i64 acode1, .slice an6 nn6 cn6, .slice ag6 ng6 cg6, .bool adone1, .int .i64 an1] 46)) = W0 := ⟨_, rfl⟩
  have hx35 : Ext No w3 W0 := by rw [← hW0]; exact (((Ext.refl No w3).alloc _).trans' HE5.out).alloc _
  have hb4 : Blk W0 w3.heap.size #[.int .i64 kind1, .int .i64 n1, .int .u64 (who1 : Nat), .bool flag1, .string (strB name1), .string (strB host1), .slice af4 nf4 cf4, .int .i64 last1, .int .i64 days1, .int .i64 day1, .int .i64 within1, .string (strB tag1), .slice ab4 nb4 cb4] 28 := by rw [← hW0]; exact ((Blk.new w3 #[.int .i64 kind1, .int .i64 n1, .int .u64 (who1 : Nat), .bool flag1, .string (strB name1), .string (strB host1), .slice af4 nf4 cf4, .int .i64 last1, .int .i64 days1, .int .i64 day1, .int .i64 within1, .string (strB tag1), .slice ab4 nb4 cb4] 28).ext HE5.out (fun s => s)).alloc _
  have hb6 : Blk W0 w5.heap.size #[.int .i64 acode1, .slice an6 nn6 cn6, .slice ag6 ng6 cg6, .bool adone1, .int .i64 an1] 46 := by rw [← hW0]; exact Blk.new w5 #[.int .i64 acode1, .slice an6 nn6 cn6, .slice ag6 ng6 cg6, .bool adone1, .int .i64 an1] 46
  have hx56 : Ext No w5 W0 := by rw [← hW0]; exact (Ext.refl No w5).alloc _
  have hsz3 : w2.heap.size ≤ (w3.alloc (.cells #[.int .i64 kind1, .int .i64 n1, .int .u64 (who1 : Nat), .bool flag1, .string (strB name1), .string (strB host1), .slice af4 nf4 cf4, .int .i64 last1, .int .i64 days1, .int .i64 day1, .int .i64 within1, .string (strB tag1), .slice ab4 nb4 cb4] 28)).heap.size := by rw [World.size_alloc]; have := HSZ.out; omega
  have HBa := Lib.hid hb4; have HBb := Lib.hid hb6
  have HFa := Lib.hid (HF3.out.ext hx35 (fun _ _ _ _ _ _ s => s)); have HZa := Lib.hid (own_ext HZ3.out hx35 (fun _ _ s => s))
  have HGa := Lib.hid (HG6.out.ext hx56 (fun _ _ _ _ _ _ s => s)); have HNa := Lib.hid (own_ext HN6.out hx56 (fun _ _ s => s))
  have HOW := Lib.hid (HOB3.out.ext hx35 (fun _ _ s => s)); have HXW := Lib.hid (HX3.out.trans' hx35); have HS3 := Lib.hid hsz3
  have HSW := Lib.hid (show w2.heap.size ≤ w3.heap.size ∧ w3.heap.size ≤ w5.heap.size from ⟨HSZ.out, by have := HE5.out.size; rw [World.size_alloc] at this; omega⟩)
  rw [hW0]
  clear hx35 hb4 hb6 hx56 hsz3 hW0 HF3 HZ3 HG6 HN6 HOB3 HX3 HE5
  generalize hb4e : w3.heap.size = b4 at *
  generalize hb6e : w5.heap.size = b6 at *
  have HB4E := Lib.hid hb4e; clear hb4e hb6e
  go_loopw [33] (fun i wr => ∃ k : Nat, i = .int .i64 k ∧ k ≤ m ∧ Ext (fun j => (Value.slice a3 m c3).ownBlock = some j) W0 wr ∧ ∀ g, a3 = some ⟨g, 0, none⟩ → ∃ cs, Blk wr g cs 5 ∧ ∀ j, k ≤ j → j < m → cs[j]? = some (byt l j)) (fun i _ => m - (intOf i).toNat)
  case atStart => exact ⟨0, rfl, Nat.zero_le _, Ext.refl _ _, fun g hg => by
    obtain ⟨cs, h1, h2⟩ := own_blkcells HOW.out hg
    exact ⟨cs, h1, fun j _ hj => by rw [h2 j (by rw [← HM.out]; exact hj)]; exact byts_getElem l j (by rw [← HM.out]; exact hj)⟩⟩
  case round =>
    obtain ⟨k, rfl, hk, hxs, hcs⟩ := hrel
    have HXS := Lib.hid hxs; have HCS := Lib.hid hcs
    clear hxs hcs
    by_cases hlt : k < m
    · have hltI : (k : Int) < m := by omega
      obtain ⟨g, hg⟩ : ∃ g, a3 = some ⟨g, 0, none⟩ := by
        have h := HOW.out
        unfold OwnB at h
        rw [← HM.out] at h
        obtain ⟨g, cap, he⟩ := Go.Joins.ownsRow_form h (by omega)
        simp only [Value.slice.injEq, true_and] at he
        exact ⟨g, he.1⟩
      subst hg
      obtain ⟨cs, hbk, hcs⟩ := HCS.out g rfl
      have hck := hbk.cell k
      rw [hcs k (Nat.le_refl k) hlt, byt_getD] at hck
      have hfk := hbk.free k
      generalize ((l.getD k 0).toNat : Int) = z at *
      have HBK := Lib.hid hbk; have HC2 := Lib.hid hcs
      clear hbk hcs HCS
      go_wp2_with fail
      go_roundw
      case rel => exact ⟨k + 1, by go_num, by omega, HXS.out.setCell _ _ (fun _ => rfl), fun g' hg' => by
        simp only [Option.some.injEq, Addr.mk.injEq, and_true, true_and] at hg'
        subst hg'
        exact ⟨_, HBK.out.set k _, fun j hj hjm => by rw [Array.getElem?_setIfInBounds_ne (by omega)]; exact HC2.out j (by omega) hjm⟩⟩
      case measure => simp [intOf]; omega
    · have hkm : m = k := by omega
      subst hkm
      have hxs := HXS.out
      have hnot : ∀ j, w2.heap.size ≤ j → ¬ ((Value.slice a3 m c3).ownBlock = some j) := fun j hj hs => by have := (HLT.out j hs).2; omega
      have HB4w := Lib.hid (HBa.out.ext hxs (hnot _ (by have := HSW.out.1; omega))); have HB6w := Lib.hid (HBb.out.ext hxs (hnot _ (by have := HSW.out; omega)))
      have HFw := Lib.hid (HFa.out.ext hxs (fun j _ _ hj _ _ => hnot j hj)); have HZw := Lib.hid (own_ext HZa.out hxs (fun k hk => hnot k (World.ownsRow.lt HZa.out k hk).1))
      have HGw := Lib.hid (HGa.out.ext hxs (fun j _ _ hj _ _ => hnot j (Nat.le_trans HS3.out hj))); have HNw := Lib.hid (own_ext HNa.out hxs (fun k hk => hnot k (Nat.le_trans HS3.out (World.ownsRow.lt HNa.out k hk).1)))
      have HXr := Lib.hid (show Ext No w wr from HXW.out.trans hxs (fun _ _ s => s) (fun j hj s => by have := (HLT.out j s).1; omega))
      clear hxs hnot hk HXS HCS HBa HBb HFa HZa HGa HNa HOW HXW
      go_wp2_with fail
      refine (decodeR_uni l a m c wr (HV.out.1.ext0 HXr.out) HV.out.2 (by rw [← HM.out]; omega)).mono ?_
      rintro e w7 ⟨hE7, kind2, n2, who2, flag2, name2, host2, files2, last2, days2, day2, within2, tag2, bits2, af9, nf9, cf9, ab9, nb9, cb9, is2, rfl, hf9, hz9, hu3⟩
      obtain ⟨rfl, hst⟩ := uni_eq HU1.out hu3
      simp only [CmdI.mk.injEq] at hst
      obtain ⟨rfl, rfl, rfl, rfl, rfl, rfl, rfl, rfl, rfl, rfl, rfl, rfl, rfl⟩ := hst
      have hxA : Ext No w7 (w7.alloc (.cells #[.int .i64 kind1, .int .i64 n1, .int .u64 (who1 : Nat), .bool flag1, .string (strB name1), .string (strB host1), .slice af9 nf9 cf9, .int .i64 last1, .int .i64 days1, .int .i64 day1, .int .i64 within1, .string (strB tag1), .slice ab9 nb9 cb9] 38)) := (Ext.refl No w7).alloc _
      have hE := hE7.trans' hxA
      have HX7 := Lib.hid (HXr.out.trans' hE); have HB47 := Lib.hid (HB4w.out.ext hE (fun s => s)); have HB67 := Lib.hid (HB6w.out.ext hE (fun s => s))
      have HF7 := Lib.hid (HFw.out.ext hE (fun _ _ _ _ _ _ s => s)); have HZ7 := Lib.hid (own_ext HZw.out hE (fun _ _ s => s)); have HG7 := Lib.hid (HGw.out.ext hE (fun _ _ _ _ _ _ s => s)); have HN7 := Lib.hid (own_ext HNw.out hE (fun _ _ s => s))
      have HB97 := Lib.hid (Blk.new w7 #[.int .i64 kind1, .int .i64 n1, .int .u64 (who1 : Nat), .bool flag1, .string (strB name1), .string (strB host1), .slice af9 nf9 cf9, .int .i64 last1, .int .i64 days1, .int .i64 day1, .int .i64 within1, .string (strB tag1), .slice ab9 nb9 cb9] 38); have HF97 := Lib.hid (hf9.ext0 hxA); have HZ97 := Lib.hid (hz9.ext0 hxA)
      clear hxA hE hE7 hf9 hz9 hu3 HXr HB4w HB6w HFw HZw HGw HNw HU1
      dsimp only
      go_wp2_with fail
      generalize w7.heap.size = b9 at *
      refine (parseR_uni l a m c _ (HV.out.1.ext0 HX7.out) HV.out.2 (by rw [← HM.out]; omega)).mono ?_
      rintro e w8 ⟨hE8, acode2, anames2, afiles2, adone2, an2, an8, nn8, cn8, ag8, ng8, cg8, ok2, rfl, hg8, hn8, hu4⟩
      obtain ⟨rfl, hst⟩ := uni_eq HU2.out hu4
      simp only [AnsI.mk.injEq] at hst
      obtain ⟨rfl, rfl, rfl, rfl, rfl⟩ := hst
      have hxA : Ext No w8 (w8.alloc (.cells #[.int .i64 acode1, .slice an8 nn8 cn8, .slice ag8 ng8 cg8, .bool adone1, .int .i64 an1] 52)) := (Ext.refl No w8).alloc _
      have hE := hE8.trans' hxA
      have HX8 := Lib.hid (HX7.out.trans' hE); have HB4 := Lib.hid (HB47.out.ext hE (fun s => s)); have HB6 := Lib.hid (HB67.out.ext hE (fun s => s)); have HB9 := Lib.hid (HB97.out.ext hE (fun s => s)); have HB11 := Lib.hid (Blk.new w8 #[.int .i64 acode1, .slice an8 nn8 cn8, .slice ag8 ng8 cg8, .bool adone1, .int .i64 an1] 52)
      have HF4 := Lib.hid (NewF.files (HF7.out.ext hE (fun _ _ _ _ _ _ s => s))); have HZ4 := Lib.hid (bools_own (own_ext HZ7.out hE (fun _ _ s => s))); have HG6 := Lib.hid (NewF.files (HG7.out.ext hE (fun _ _ _ _ _ _ s => s))); have HN6 := Lib.hid (strs_own (own_ext HN7.out hE (fun _ _ s => s)))
      have HF9 := Lib.hid (HF97.out.ext0 hE); have HZ9 := Lib.hid (HZ97.out.ext0 hE); have HG8 := Lib.hid (hg8.ext0 hxA); have HN8 := Lib.hid (hn8.ext0 hxA)
      clear hxA hE hE8 hg8 hn8 hu4 HX7 HB47 HB67 HF7 HZ7 HG7 HN7 HB97 HF97 HZ97 HU2
      dsimp only
      go_wp2_with fail
      generalize w8.heap.size = b11 at *
      cases is
      · have hez : ez = 39 := HEZ.out.symm
        subst hez
        clear HEZ
        cases ok
        · have hoz : oz = 39 := HOZ.out.symm
          subst hoz
          clear HOZ
          refine wp_region_headG 36 (fun i => !([] : List Nat).contains i) No (ReadsV00 kind1 n1 who1 flag1 name1 host1 last1 days1 day1 within1 tag1 acode1 adone1 an1 af4 nf4 cf4 ab4 nb4 cb4 af9 nf9 cf9 ab9 nb9 cb9 an6 nn6 cn6 ag6 ng6 cg6 an8 nn8 cn8 ag8 ng8 cg8) (by kernel_rfl) (by kernel_rfl) (by kernel_rfl) (ReadsV00_ext kind1 n1 who1 flag1 name1 host1 last1 days1 day1 within1 tag1 acode1 adone1 an1 af4 nf4 cf4 ab4 nb4 cb4 af9 nf9 cf9 ab9 nb9 cb9 an6 nn6 cn6 ag6 ng6 cg6 an8 nn8 cn8 ag8 ng8 cg8) (HeadStepsG.cons (by rfl) (by exact trivial) ?_ (HeadStepsG.cons (by rfl) (by exact trivial) ?_ (HeadStepsG.cons (by rfl) (by exact trivial) ?_ (HeadStepsG.cons (by rfl) (by exact trivial) ?_ (HeadStepsG.cons (by rfl) (by exact trivial) ?_ (HeadStepsG.cons (by rfl) (by exact fun _ _ h => h) ?_ (HeadStepsG.cons (by rfl) (by exact fun _ _ h => h) ?_ (HeadStepsG.cons (by rfl) (by exact fun _ _ h => h) ?_ (HeadStepsG.cons (by rfl) (by exact fun _ _ h => h) ?_ (HeadStepsG.cons (by rfl) (by exact fun _ _ h => h) ?_ (HeadStepsG.cons (by rfl) (by exact trivial) ?_ (HeadStepsG.cons (by rfl) (by exact trivial) ?_ (HeadStepsG.cons (by rfl) (by exact fun _ _ h => h) ?_ (HeadStepsG.cons (by rfl) (by exact fun _ _ h => h) ?_ (HeadStepsG.cons (by rfl) (by exact fun _ _ h => h) ?_ (HeadStepsG.cons (by rfl) (by exact fun _ _ h => h) ?_ (HeadStepsG.cons (by rfl) (by exact trivial) ?_ (HeadStepsG.cons (by rfl) (by exact trivial) ?_ (HeadStepsG.cons (by rfl) (by exact fun _ _ h => h) ?_ (HeadStepsG.cons (by rfl) (by exact fun _ _ h => h) ?_ (HeadStepsG.cons (by rfl) (by exact fun _ _ h => h) ?_ (HeadStepsG.cons (by rfl) (by exact fun _ _ h => h) ?_ (HeadStepsG.cons (by rfl) (by exact trivial) ?_ (HeadStepsG.cons (by rfl) (by exact trivial) ?_ (HeadStepsG.cons (by rfl) (by exact fun _ _ h => h) ?_ (HeadStepsG.cons (by rfl) (by exact fun _ _ h => h) ?_ (HeadStepsG.cons (by rfl) (by exact fun _ _ h => h) ?_ (HeadStepsG.cons (by rfl) (by exact fun _ _ h => h) ?_ (HeadStepsG.cons (by rfl) (by exact fun _ _ h => h) ?_ (HeadStepsG.cons (by rfl) (by exact trivial) ?_ (HeadStepsG.cons (by rfl) (by exact trivial) ?_ (HeadStepsG.cons (by rfl) (by exact fun _ _ h => h) ?_ (HeadStepsG.cons (by rfl) (by exact fun _ _ h => h) ?_ (HeadStepsG.cons (by rfl) (by exact fun _ _ h => h) ?_ (HeadStepsG.cons (by rfl) (by exact fun _ _ h => h) ?_ (HeadStepsG.cons (by rfl) (by exact trivial) ?_ HeadStepsG.nil)))))))))))))))))))))))))))))))))))) ?_
          · -- slot 53
            intro ac wk hx hsame hdep K hK
            have d5 : ac.tmps.getD 5 undef = .int .i64 39 := hsame 5 (by kernel_rfl)
            have e5 := d5
            rw [Array.getD_eq_getD_getElem?] at e5
            clear hsame hdep
            go_simp
            exact hK _ _ (Ext.refl _ wk) rfl
          · -- slot 54
            intro ac wk hx hsame hdep K hK
            have d53 : ac.tmps.getD 53 undef = .int .i64 39 := hdep 0 (by kernel_rfl)
            have e53 := d53
            rw [Array.getD_eq_getD_getElem?] at e53
            clear hsame hdep
            go_simp
            exact hK _ _ (Ext.refl _ wk) rfl
          · -- slot 55
            intro ac wk hx hsame hdep K hK
            have d10 : ac.tmps.getD 10 undef = .bool false := hsame 10 (by kernel_rfl)
            have e10 := d10
            rw [Array.getD_eq_getD_getElem?] at e10
            clear hsame hdep
            go_simp
            exact hK _ _ (Ext.refl _ wk) rfl
          · -- slot 56
            intro ac wk hx hsame hdep K hK
            have d54 : ac.tmps.getD 54 undef = .bool false := hdep 1 (by kernel_rfl)
            have e54 := d54
            rw [Array.getD_eq_getD_getElem?] at e54
            have d55 : ac.tmps.getD 55 undef = .bool false := hdep 2 (by kernel_rfl)
            have e55 := d55
            rw [Array.getD_eq_getD_getElem?] at e55
            clear hsame hdep
            go_simp
            exact hK _ _ (Ext.refl _ wk) rfl
          · -- slot 57
            intro ac wk hx hsame hdep K hK
            have d56 : ac.tmps.getD 56 undef = .bool true := hdep 3 (by kernel_rfl)
            have e56 := d56
            rw [Array.getD_eq_getD_getElem?] at e56
            clear hsame hdep
            go_simp
            exact hK _ _ (Ext.refl _ wk) rfl
          · -- slot 58
            intro ac wk hx hsame hdep K hK
            have d10 : ac.tmps.getD 10 undef = .bool false := hsame 10 (by kernel_rfl)
            have e10 := d10
            rw [Array.getD_eq_getD_getElem?] at e10
            clear hsame hdep
            go_simp
            exact hK _ _ (Ext.refl _ wk) rfl
          · -- slot 59
            intro ac wk hx hsame hdep K hK
            have d58 : ac.tmps.getD 58 undef = .bool false := hdep 5 (by kernel_rfl)
            have e58 := d58
            rw [Array.getD_eq_getD_getElem?] at e58
            clear hsame hdep
            go_simp
            exact hK _ _ (Ext.refl _ wk) rfl
          · -- slot 60
            intro ac wk hx hsame hdep K hK
            have d5 : ac.tmps.getD 5 undef = .int .i64 39 := hsame 5 (by kernel_rfl)
            have e5 := d5
            rw [Array.getD_eq_getD_getElem?] at e5
            clear hsame hdep
            go_simp
            exact hK _ _ (Ext.refl _ wk) rfl
          · -- slot 61
            intro ac wk hx hsame hdep K hK
            have d60 : ac.tmps.getD 60 undef = .int .i64 39 := hdep 7 (by kernel_rfl)
            have e60 := d60
            rw [Array.getD_eq_getD_getElem?] at e60
            clear hsame hdep
            go_simp
            exact hK _ _ (Ext.refl _ wk) rfl
          · -- slot 62
            intro ac wk hx hsame hdep K hK
            have d59 : ac.tmps.getD 59 undef = .bool false := hdep 6 (by kernel_rfl)
            have e59 := d59
            rw [Array.getD_eq_getD_getElem?] at e59
            have d61 : ac.tmps.getD 61 undef = .bool true := hdep 8 (by kernel_rfl)
            have e61 := d61
            rw [Array.getD_eq_getD_getElem?] at e61
            clear hsame hdep
            go_simp
            exact hK _ _ (Ext.refl _ wk) rfl
          · -- slot 63
            intro ac wk hx hsame hdep K hK
            have d57 : ac.tmps.getD 57 undef = .bool true := hdep 4 (by kernel_rfl)
            have e57 := d57
            rw [Array.getD_eq_getD_getElem?] at e57
            have d62 : ac.tmps.getD 62 undef = .bool true := hdep 9 (by kernel_rfl)
            have e62 := d62
            rw [Array.getD_eq_getD_getElem?] at e62
            clear hsame hdep
            go_simp
            exact hK _ _ (Ext.refl _ wk) rfl
          · -- slot 64
            intro ac wk hx hsame hdep K hK
            have d63 : ac.tmps.getD 63 undef = .bool true := hdep 10 (by kernel_rfl)
            have e63 := d63
            rw [Array.getD_eq_getD_getElem?] at e63
            clear hsame hdep
            go_simp
            exact hK _ _ (Ext.refl _ wk) rfl
          · -- slot 65
            intro ac wk hx hsame hdep K hK
            have d4 : ac.tmps.getD 4 undef = .pointer (some ⟨b4, 0, none⟩) := hsame 4 (by kernel_rfl)
            have e4 := d4
            rw [Array.getD_eq_getD_getElem?] at e4
            clear hsame hdep
            have hz := HB4.out.drew.ext hx (fun s => s)
            have hc0 := hz.cell 0; have hc1 := hz.cell 1; have hc2 := hz.cell 2; have hc3 := hz.cell 3; have hc4 := hz.cell 4; have hc5 := hz.cell 5; have hc6 := hz.cell 6; have hc7 := hz.cell 7; have hc8 := hz.cell 8; have hc9 := hz.cell 9; have hc10 := hz.cell 10; have hc11 := hz.cell 11; have hc12 := hz.cell 12
            simp only [List.getElem?_toArray, List.getElem?_cons_succ, List.getElem?_cons_zero] at hc0 hc1 hc2 hc3 hc4 hc5 hc6 hc7 hc8 hc9 hc10 hc11 hc12
            clear hz
            go_simp
            exact hK _ _ (Ext.refl _ wk) rfl
          · -- slot 66
            intro ac wk hx hsame hdep K hK
            have d65 : ac.tmps.getD 65 undef = .agg #[.int .i64 kind1, .int .i64 n1, .int .u64 (who1 : Nat), .bool flag1, .string (strB name1), .string (strB host1), .slice af4 nf4 cf4, .int .i64 last1, .int .i64 days1, .int .i64 day1, .int .i64 within1, .string (strB tag1), .slice ab4 nb4 cb4] := hdep 12 (by kernel_rfl)
            have e65 := d65
            rw [Array.getD_eq_getD_getElem?] at e65
            clear hsame hdep
            go_simp
            refine (command_flat kind1 n1 who1 flag1 name1 host1 last1 days1 day1 within1 tag1 _ _ wk (slice_ex _ _ _) (slice_ex _ _ _)).mono ?_
            rintro e w' ⟨rfl, hx'⟩
            exact hK _ _ hx' rfl
          · -- slot 67
            intro ac wk hx hsame hdep K hK
            have d9 : ac.tmps.getD 9 undef = .pointer (some ⟨b9, 0, none⟩) := hsame 9 (by kernel_rfl)
            have e9 := d9
            rw [Array.getD_eq_getD_getElem?] at e9
            clear hsame hdep
            have hz := HB9.out.drew.ext hx (fun s => s)
            have hc0 := hz.cell 0; have hc1 := hz.cell 1; have hc2 := hz.cell 2; have hc3 := hz.cell 3; have hc4 := hz.cell 4; have hc5 := hz.cell 5; have hc6 := hz.cell 6; have hc7 := hz.cell 7; have hc8 := hz.cell 8; have hc9 := hz.cell 9; have hc10 := hz.cell 10; have hc11 := hz.cell 11; have hc12 := hz.cell 12
            simp only [List.getElem?_toArray, List.getElem?_cons_succ, List.getElem?_cons_zero] at hc0 hc1 hc2 hc3 hc4 hc5 hc6 hc7 hc8 hc9 hc10 hc11 hc12
            clear hz
            go_simp
            exact hK _ _ (Ext.refl _ wk) rfl
          · -- slot 68
            intro ac wk hx hsame hdep K hK
            have p66 : (ac.tmps.getD 66 undef) = .agg #[.int .i64 kind1, .int .i64 n1, .int .u64 (who1 : Nat), .bool flag1, .string (strB name1), .string (strB host1), .slice af4 nf4 cf4, .int .i64 last1, .int .i64 days1, .int .i64 day1, .int .i64 within1, .string (strB tag1), .slice ab4 nb4 cb4] := hdep 13 (by kernel_rfl)
            have d66 := p66
            have e66 := d66
            rw [Array.getD_eq_getD_getElem?] at e66
            have d67 : ac.tmps.getD 67 undef = .agg #[.int .i64 kind1, .int .i64 n1, .int .u64 (who1 : Nat), .bool flag1, .string (strB name1), .string (strB host1), .slice af9 nf9 cf9, .int .i64 last1, .int .i64 days1, .int .i64 day1, .int .i64 within1, .string (strB tag1), .slice ab9 nb9 cb9] := hdep 14 (by kernel_rfl)
            have e67 := d67
            rw [Array.getD_eq_getD_getElem?] at e67
            clear hsame hdep
            go_simp
            refine (same_flat kind1 n1 who1 flag1 name1 host1 files1 last1 days1 day1 within1 tag1 bits1 kind1 n1 who1 flag1 name1 host1 files1 last1 days1 day1 within1 tag1 bits1 _ _ _ _ wk (HF4.out.ext0 (Dr.extN hx)) (HZ4.out.ext0 (Dr.extN hx)) (HF9.out.ext0 (Dr.extN hx)) (HZ9.out.ext0 (Dr.extN hx))).mono ?_
            rintro e w' ⟨hx', t, rfl, ht⟩
            exact hK _ _ hx' (congrArg Value.bool (ht.2 rfl))
          · -- slot 69
            intro ac wk hx hsame hdep K hK
            have d64 : ac.tmps.getD 64 undef = .bool true := hdep 11 (by kernel_rfl)
            have e64 := d64
            rw [Array.getD_eq_getD_getElem?] at e64
            have p68 : (ac.tmps.getD 68 undef) = .bool true := hdep 15 (by kernel_rfl)
            have d68 := p68
            have e68 := d68
            rw [Array.getD_eq_getD_getElem?] at e68
            clear hsame hdep
            go_simp
            exact hK _ _ (Ext.refl _ wk) rfl
          · -- slot 70
            intro ac wk hx hsame hdep K hK
            have d69 : ac.tmps.getD 69 undef = .bool true := hdep 16 (by kernel_rfl)
            have e69 := d69
            rw [Array.getD_eq_getD_getElem?] at e69
            clear hsame hdep
            go_simp
            exact hK _ _ (Ext.refl _ wk) rfl
          · -- slot 71
            intro ac wk hx hsame hdep K hK
            have d7 : ac.tmps.getD 7 undef = .int .i64 39 := hsame 7 (by kernel_rfl)
            have e7 := d7
            rw [Array.getD_eq_getD_getElem?] at e7
            clear hsame hdep
            go_simp
            exact hK _ _ (Ext.refl _ wk) rfl
          · -- slot 72
            intro ac wk hx hsame hdep K hK
            have d71 : ac.tmps.getD 71 undef = .int .i64 39 := hdep 18 (by kernel_rfl)
            have e71 := d71
            rw [Array.getD_eq_getD_getElem?] at e71
            clear hsame hdep
            go_simp
            exact hK _ _ (Ext.refl _ wk) rfl
          · -- slot 73
            intro ac wk hx hsame hdep K hK
            have d12 : ac.tmps.getD 12 undef = .bool false := hsame 12 (by kernel_rfl)
            have e12 := d12
            rw [Array.getD_eq_getD_getElem?] at e12
            clear hsame hdep
            go_simp
            exact hK _ _ (Ext.refl _ wk) rfl
          · -- slot 74
            intro ac wk hx hsame hdep K hK
            have d72 : ac.tmps.getD 72 undef = .bool false := hdep 19 (by kernel_rfl)
            have e72 := d72
            rw [Array.getD_eq_getD_getElem?] at e72
            have d73 : ac.tmps.getD 73 undef = .bool false := hdep 20 (by kernel_rfl)
            have e73 := d73
            rw [Array.getD_eq_getD_getElem?] at e73
            clear hsame hdep
            go_simp
            exact hK _ _ (Ext.refl _ wk) rfl
          · -- slot 75
            intro ac wk hx hsame hdep K hK
            have d70 : ac.tmps.getD 70 undef = .bool true := hdep 17 (by kernel_rfl)
            have e70 := d70
            rw [Array.getD_eq_getD_getElem?] at e70
            have d74 : ac.tmps.getD 74 undef = .bool true := hdep 21 (by kernel_rfl)
            have e74 := d74
            rw [Array.getD_eq_getD_getElem?] at e74
            clear hsame hdep
            go_simp
            exact hK _ _ (Ext.refl _ wk) rfl
          · -- slot 76
            intro ac wk hx hsame hdep K hK
            have d75 : ac.tmps.getD 75 undef = .bool true := hdep 22 (by kernel_rfl)
            have e75 := d75
            rw [Array.getD_eq_getD_getElem?] at e75
            clear hsame hdep
            go_simp
            exact hK _ _ (Ext.refl _ wk) rfl
          · -- slot 77
            intro ac wk hx hsame hdep K hK
            have d12 : ac.tmps.getD 12 undef = .bool false := hsame 12 (by kernel_rfl)
            have e12 := d12
            rw [Array.getD_eq_getD_getElem?] at e12
            clear hsame hdep
            go_simp
            exact hK _ _ (Ext.refl _ wk) rfl
          · -- slot 78
            intro ac wk hx hsame hdep K hK
            have d77 : ac.tmps.getD 77 undef = .bool false := hdep 24 (by kernel_rfl)
            have e77 := d77
            rw [Array.getD_eq_getD_getElem?] at e77
            clear hsame hdep
            go_simp
            exact hK _ _ (Ext.refl _ wk) rfl
          · -- slot 79
            intro ac wk hx hsame hdep K hK
            have d7 : ac.tmps.getD 7 undef = .int .i64 39 := hsame 7 (by kernel_rfl)
            have e7 := d7
            rw [Array.getD_eq_getD_getElem?] at e7
            clear hsame hdep
            go_simp
            exact hK _ _ (Ext.refl _ wk) rfl
          · -- slot 80
            intro ac wk hx hsame hdep K hK
            have d79 : ac.tmps.getD 79 undef = .int .i64 39 := hdep 26 (by kernel_rfl)
            have e79 := d79
            rw [Array.getD_eq_getD_getElem?] at e79
            clear hsame hdep
            go_simp
            exact hK _ _ (Ext.refl _ wk) rfl
          · -- slot 81
            intro ac wk hx hsame hdep K hK
            have d78 : ac.tmps.getD 78 undef = .bool false := hdep 25 (by kernel_rfl)
            have e78 := d78
            rw [Array.getD_eq_getD_getElem?] at e78
            have d80 : ac.tmps.getD 80 undef = .bool true := hdep 27 (by kernel_rfl)
            have e80 := d80
            rw [Array.getD_eq_getD_getElem?] at e80
            clear hsame hdep
            go_simp
            exact hK _ _ (Ext.refl _ wk) rfl
          · -- slot 82
            intro ac wk hx hsame hdep K hK
            have d76 : ac.tmps.getD 76 undef = .bool true := hdep 23 (by kernel_rfl)
            have e76 := d76
            rw [Array.getD_eq_getD_getElem?] at e76
            have d81 : ac.tmps.getD 81 undef = .bool true := hdep 28 (by kernel_rfl)
            have e81 := d81
            rw [Array.getD_eq_getD_getElem?] at e81
            clear hsame hdep
            go_simp
            exact hK _ _ (Ext.refl _ wk) rfl
          · -- slot 83
            intro ac wk hx hsame hdep K hK
            have d82 : ac.tmps.getD 82 undef = .bool true := hdep 29 (by kernel_rfl)
            have e82 := d82
            rw [Array.getD_eq_getD_getElem?] at e82
            clear hsame hdep
            go_simp
            exact hK _ _ (Ext.refl _ wk) rfl
          · -- slot 84
            intro ac wk hx hsame hdep K hK
            have d6 : ac.tmps.getD 6 undef = .pointer (some ⟨b6, 0, none⟩) := hsame 6 (by kernel_rfl)
            have e6 := d6
            rw [Array.getD_eq_getD_getElem?] at e6
            clear hsame hdep
            have hz := HB6.out.drew.ext hx (fun s => s)
            have hc0 := hz.cell 0; have hc1 := hz.cell 1; have hc2 := hz.cell 2; have hc3 := hz.cell 3; have hc4 := hz.cell 4
            simp only [List.getElem?_toArray, List.getElem?_cons_succ, List.getElem?_cons_zero] at hc0 hc1 hc2 hc3 hc4
            clear hz
            go_simp
            exact hK _ _ (Ext.refl _ wk) rfl
          · -- slot 85
            intro ac wk hx hsame hdep K hK
            have d84 : ac.tmps.getD 84 undef = .agg #[.int .i64 acode1, .slice an6 nn6 cn6, .slice ag6 ng6 cg6, .bool adone1, .int .i64 an1] := hdep 31 (by kernel_rfl)
            have e84 := d84
            rw [Array.getD_eq_getD_getElem?] at e84
            clear hsame hdep
            go_simp
            refine (answer_flat acode1 adone1 an1 _ _ wk (slice_ex _ _ _) (slice_ex _ _ _)).mono ?_
            rintro e w' ⟨rfl, hx'⟩
            exact hK _ _ hx' rfl
          · -- slot 86
            intro ac wk hx hsame hdep K hK
            have d11 : ac.tmps.getD 11 undef = .pointer (some ⟨b11, 0, none⟩) := hsame 11 (by kernel_rfl)
            have e11 := d11
            rw [Array.getD_eq_getD_getElem?] at e11
            clear hsame hdep
            have hz := HB11.out.drew.ext hx (fun s => s)
            have hc0 := hz.cell 0; have hc1 := hz.cell 1; have hc2 := hz.cell 2; have hc3 := hz.cell 3; have hc4 := hz.cell 4
            simp only [List.getElem?_toArray, List.getElem?_cons_succ, List.getElem?_cons_zero] at hc0 hc1 hc2 hc3 hc4
            clear hz
            go_simp
            exact hK _ _ (Ext.refl _ wk) rfl
          · -- slot 87
            intro ac wk hx hsame hdep K hK
            have p85 : (ac.tmps.getD 85 undef) = .agg #[.int .i64 acode1, .slice an6 nn6 cn6, .slice ag6 ng6 cg6, .bool adone1, .int .i64 an1] := hdep 32 (by kernel_rfl)
            have d85 := p85
            have e85 := d85
            rw [Array.getD_eq_getD_getElem?] at e85
            have d86 : ac.tmps.getD 86 undef = .agg #[.int .i64 acode1, .slice an8 nn8 cn8, .slice ag8 ng8 cg8, .bool adone1, .int .i64 an1] := hdep 33 (by kernel_rfl)
            have e86 := d86
            rw [Array.getD_eq_getD_getElem?] at e86
            clear hsame hdep
            go_simp
            refine (alike_flat acode1 anames1 afiles1 adone1 an1 _ _ _ _ wk (HN6.out.ext0 (Dr.extN hx)) (HG6.out.ext0 (Dr.extN hx)) (HN8.out.ext0 (Dr.extN hx)) (HG8.out.ext0 (Dr.extN hx))).mono ?_
            rintro e w' ⟨hx', rfl⟩
            exact hK _ _ hx' rfl
          · -- slot 88
            intro ac wk hx hsame hdep K hK
            have d83 : ac.tmps.getD 83 undef = .bool true := hdep 30 (by kernel_rfl)
            have e83 := d83
            rw [Array.getD_eq_getD_getElem?] at e83
            have p87 : (ac.tmps.getD 87 undef) = .bool true := hdep 34 (by kernel_rfl)
            have d87 := p87
            have e87 := d87
            rw [Array.getD_eq_getD_getElem?] at e87
            clear hsame hdep
            go_simp
            exact hK _ _ (Ext.refl _ wk) rfl
          · intro ac wk hx hdf hsz hsame hvals
            obtain ⟨u0, f0⟩ : ∃ u, ac.tmps.getD 0 undef = u := ⟨_, rfl⟩
            obtain ⟨u1, f1⟩ : ∃ u, ac.tmps.getD 1 undef = u := ⟨_, rfl⟩
            obtain ⟨u2, f2⟩ : ∃ u, ac.tmps.getD 2 undef = u := ⟨_, rfl⟩
            obtain ⟨u3, f3⟩ : ∃ u, ac.tmps.getD 3 undef = u := ⟨_, rfl⟩
            have f4 : ac.tmps.getD 4 undef = .pointer (some ⟨b4, 0, none⟩) := hsame 4 (by kernel_rfl)
            have f5 : ac.tmps.getD 5 undef = .int .i64 39 := hsame 5 (by kernel_rfl)
            have f6 : ac.tmps.getD 6 undef = .pointer (some ⟨b6, 0, none⟩) := hsame 6 (by kernel_rfl)
            have f7 : ac.tmps.getD 7 undef = .int .i64 39 := hsame 7 (by kernel_rfl)
            obtain ⟨u8, f8⟩ : ∃ u, ac.tmps.getD 8 undef = u := ⟨_, rfl⟩
            have f9 : ac.tmps.getD 9 undef = .pointer (some ⟨b9, 0, none⟩) := hsame 9 (by kernel_rfl)
            have f10 : ac.tmps.getD 10 undef = .bool false := hsame 10 (by kernel_rfl)
            have f11 : ac.tmps.getD 11 undef = .pointer (some ⟨b11, 0, none⟩) := hsame 11 (by kernel_rfl)
            have f12 : ac.tmps.getD 12 undef = .bool false := hsame 12 (by kernel_rfl)
            obtain ⟨u13, f13⟩ : ∃ u, ac.tmps.getD 13 undef = u := ⟨_, rfl⟩
            obtain ⟨u14, f14⟩ : ∃ u, ac.tmps.getD 14 undef = u := ⟨_, rfl⟩
            obtain ⟨u15, f15⟩ : ∃ u, ac.tmps.getD 15 undef = u := ⟨_, rfl⟩
            obtain ⟨u16, f16⟩ : ∃ u, ac.tmps.getD 16 undef = u := ⟨_, rfl⟩
            obtain ⟨u17, f17⟩ : ∃ u, ac.tmps.getD 17 undef = u := ⟨_, rfl⟩
            obtain ⟨u18, f18⟩ : ∃ u, ac.tmps.getD 18 undef = u := ⟨_, rfl⟩
            obtain ⟨u19, f19⟩ : ∃ u, ac.tmps.getD 19 undef = u := ⟨_, rfl⟩
            obtain ⟨u20, f20⟩ : ∃ u, ac.tmps.getD 20 undef = u := ⟨_, rfl⟩
            obtain ⟨u21, f21⟩ : ∃ u, ac.tmps.getD 21 undef = u := ⟨_, rfl⟩
            obtain ⟨u22, f22⟩ : ∃ u, ac.tmps.getD 22 undef = u := ⟨_, rfl⟩
            obtain ⟨u23, f23⟩ : ∃ u, ac.tmps.getD 23 undef = u := ⟨_, rfl⟩
            obtain ⟨u24, f24⟩ : ∃ u, ac.tmps.getD 24 undef = u := ⟨_, rfl⟩
            obtain ⟨u25, f25⟩ : ∃ u, ac.tmps.getD 25 undef = u := ⟨_, rfl⟩
            obtain ⟨u26, f26⟩ : ∃ u, ac.tmps.getD 26 undef = u := ⟨_, rfl⟩
            obtain ⟨u27, f27⟩ : ∃ u, ac.tmps.getD 27 undef = u := ⟨_, rfl⟩
            obtain ⟨u28, f28⟩ : ∃ u, ac.tmps.getD 28 undef = u := ⟨_, rfl⟩
            obtain ⟨u29, f29⟩ : ∃ u, ac.tmps.getD 29 undef = u := ⟨_, rfl⟩
            obtain ⟨u30, f30⟩ : ∃ u, ac.tmps.getD 30 undef = u := ⟨_, rfl⟩
            obtain ⟨u31, f31⟩ : ∃ u, ac.tmps.getD 31 undef = u := ⟨_, rfl⟩
            obtain ⟨u32, f32⟩ : ∃ u, ac.tmps.getD 32 undef = u := ⟨_, rfl⟩
            obtain ⟨u33, f33⟩ : ∃ u, ac.tmps.getD 33 undef = u := ⟨_, rfl⟩
            obtain ⟨u34, f34⟩ : ∃ u, ac.tmps.getD 34 undef = u := ⟨_, rfl⟩
            obtain ⟨u35, f35⟩ : ∃ u, ac.tmps.getD 35 undef = u := ⟨_, rfl⟩
            obtain ⟨u36, f36⟩ : ∃ u, ac.tmps.getD 36 undef = u := ⟨_, rfl⟩
            obtain ⟨u37, f37⟩ : ∃ u, ac.tmps.getD 37 undef = u := ⟨_, rfl⟩
            obtain ⟨u38, f38⟩ : ∃ u, ac.tmps.getD 38 undef = u := ⟨_, rfl⟩
            obtain ⟨u39, f39⟩ : ∃ u, ac.tmps.getD 39 undef = u := ⟨_, rfl⟩
            obtain ⟨u40, f40⟩ : ∃ u, ac.tmps.getD 40 undef = u := ⟨_, rfl⟩
            obtain ⟨u41, f41⟩ : ∃ u, ac.tmps.getD 41 undef = u := ⟨_, rfl⟩
            obtain ⟨u42, f42⟩ : ∃ u, ac.tmps.getD 42 undef = u := ⟨_, rfl⟩
            obtain ⟨u43, f43⟩ : ∃ u, ac.tmps.getD 43 undef = u := ⟨_, rfl⟩
            obtain ⟨u44, f44⟩ : ∃ u, ac.tmps.getD 44 undef = u := ⟨_, rfl⟩
            obtain ⟨u45, f45⟩ : ∃ u, ac.tmps.getD 45 undef = u := ⟨_, rfl⟩
            obtain ⟨u46, f46⟩ : ∃ u, ac.tmps.getD 46 undef = u := ⟨_, rfl⟩
            obtain ⟨u47, f47⟩ : ∃ u, ac.tmps.getD 47 undef = u := ⟨_, rfl⟩
            obtain ⟨u48, f48⟩ : ∃ u, ac.tmps.getD 48 undef = u := ⟨_, rfl⟩
            obtain ⟨u49, f49⟩ : ∃ u, ac.tmps.getD 49 undef = u := ⟨_, rfl⟩
            obtain ⟨u50, f50⟩ : ∃ u, ac.tmps.getD 50 undef = u := ⟨_, rfl⟩
            obtain ⟨u51, f51⟩ : ∃ u, ac.tmps.getD 51 undef = u := ⟨_, rfl⟩
            obtain ⟨u52, f52⟩ : ∃ u, ac.tmps.getD 52 undef = u := ⟨_, rfl⟩
            have f53 : ac.tmps.getD 53 undef = .int .i64 39 := hvals 0 (by decide)
            have f54 : ac.tmps.getD 54 undef = .bool false := hvals 1 (by decide)
            have f55 : ac.tmps.getD 55 undef = .bool false := hvals 2 (by decide)
            have f56 : ac.tmps.getD 56 undef = .bool true := hvals 3 (by decide)
            have f57 : ac.tmps.getD 57 undef = .bool true := hvals 4 (by decide)
            have f58 : ac.tmps.getD 58 undef = .bool false := hvals 5 (by decide)
            have f59 : ac.tmps.getD 59 undef = .bool false := hvals 6 (by decide)
            have f60 : ac.tmps.getD 60 undef = .int .i64 39 := hvals 7 (by decide)
            have f61 : ac.tmps.getD 61 undef = .bool true := hvals 8 (by decide)
            have f62 : ac.tmps.getD 62 undef = .bool true := hvals 9 (by decide)
            have f63 : ac.tmps.getD 63 undef = .bool true := hvals 10 (by decide)
            have f64 : ac.tmps.getD 64 undef = .bool true := hvals 11 (by decide)
            have f65 : ac.tmps.getD 65 undef = .agg #[.int .i64 kind1, .int .i64 n1, .int .u64 (who1 : Nat), .bool flag1, .string (strB name1), .string (strB host1), .slice af4 nf4 cf4, .int .i64 last1, .int .i64 days1, .int .i64 day1, .int .i64 within1, .string (strB tag1), .slice ab4 nb4 cb4] := hvals 12 (by decide)
            obtain ⟨u66, f66⟩ : ∃ u, ac.tmps.getD 66 undef = u := ⟨_, rfl⟩
            have f67 : ac.tmps.getD 67 undef = .agg #[.int .i64 kind1, .int .i64 n1, .int .u64 (who1 : Nat), .bool flag1, .string (strB name1), .string (strB host1), .slice af9 nf9 cf9, .int .i64 last1, .int .i64 days1, .int .i64 day1, .int .i64 within1, .string (strB tag1), .slice ab9 nb9 cb9] := hvals 14 (by decide)
            obtain ⟨u68, f68⟩ : ∃ u, ac.tmps.getD 68 undef = u := ⟨_, rfl⟩
            have f69 : ac.tmps.getD 69 undef = .bool true := hvals 16 (by decide)
            have f70 : ac.tmps.getD 70 undef = .bool true := hvals 17 (by decide)
            have f71 : ac.tmps.getD 71 undef = .int .i64 39 := hvals 18 (by decide)
            have f72 : ac.tmps.getD 72 undef = .bool false := hvals 19 (by decide)
            have f73 : ac.tmps.getD 73 undef = .bool false := hvals 20 (by decide)
            have f74 : ac.tmps.getD 74 undef = .bool true := hvals 21 (by decide)
            have f75 : ac.tmps.getD 75 undef = .bool true := hvals 22 (by decide)
            have f76 : ac.tmps.getD 76 undef = .bool true := hvals 23 (by decide)
            have f77 : ac.tmps.getD 77 undef = .bool false := hvals 24 (by decide)
            have f78 : ac.tmps.getD 78 undef = .bool false := hvals 25 (by decide)
            have f79 : ac.tmps.getD 79 undef = .int .i64 39 := hvals 26 (by decide)
            have f80 : ac.tmps.getD 80 undef = .bool true := hvals 27 (by decide)
            have f81 : ac.tmps.getD 81 undef = .bool true := hvals 28 (by decide)
            have f82 : ac.tmps.getD 82 undef = .bool true := hvals 29 (by decide)
            have f83 : ac.tmps.getD 83 undef = .bool true := hvals 30 (by decide)
            have f84 : ac.tmps.getD 84 undef = .agg #[.int .i64 acode1, .slice an6 nn6 cn6, .slice ag6 ng6 cg6, .bool adone1, .int .i64 an1] := hvals 31 (by decide)
            obtain ⟨u85, f85⟩ : ∃ u, ac.tmps.getD 85 undef = u := ⟨_, rfl⟩
            have f86 : ac.tmps.getD 86 undef = .agg #[.int .i64 acode1, .slice an8 nn8 cn8, .slice ag8 ng8 cg8, .bool adone1, .int .i64 an1] := hvals 33 (by decide)
            obtain ⟨u87, f87⟩ : ∃ u, ac.tmps.getD 87 undef = u := ⟨_, rfl⟩
            have f88 : ac.tmps.getD 88 undef = .bool true := hvals 35 (by decide)
            have hlit : ac = ⟨#[u0, u1, u2, u3, .pointer (some ⟨b4, 0, none⟩), .int .i64 39, .pointer (some ⟨b6, 0, none⟩), .int .i64 39, u8, .pointer (some ⟨b9, 0, none⟩), .bool false, .pointer (some ⟨b11, 0, none⟩), .bool false, u13, u14, u15, u16, u17, u18, u19, u20, u21, u22, u23, u24, u25, u26, u27, u28, u29, u30, u31, u32, u33, u34, u35, u36, u37, u38, u39, u40, u41, u42, u43, u44, u45, u46, u47, u48, u49, u50, u51, u52, .int .i64 39, .bool false, .bool false, .bool true, .bool true, .bool false, .bool false, .int .i64 39, .bool true, .bool true, .bool true, .bool true, .agg #[.int .i64 kind1, .int .i64 n1, .int .u64 (who1 : Nat), .bool flag1, .string (strB name1), .string (strB host1), .slice af4 nf4 cf4, .int .i64 last1, .int .i64 days1, .int .i64 day1, .int .i64 within1, .string (strB tag1), .slice ab4 nb4 cb4], u66, .agg #[.int .i64 kind1, .int .i64 n1, .int .u64 (who1 : Nat), .bool flag1, .string (strB name1), .string (strB host1), .slice af9 nf9 cf9, .int .i64 last1, .int .i64 days1, .int .i64 day1, .int .i64 within1, .string (strB tag1), .slice ab9 nb9 cb9], u68, .bool true, .bool true, .int .i64 39, .bool false, .bool false, .bool true, .bool true, .bool true, .bool false, .bool false, .int .i64 39, .bool true, .bool true, .bool true, .bool true, .agg #[.int .i64 acode1, .slice an6 nn6 cn6, .slice ag6 ng6 cg6, .bool adone1, .int .i64 an1], u85, .agg #[.int .i64 acode1, .slice an8 nn8 cn8, .slice ag8 ng8 cg8, .bool adone1, .int .i64 an1], u87, .bool true], []⟩ := by
              refine (act_lit hsz hdf).trans ?_
              rw [show List.range _ = [0, 1, 2, 3, 4, 5, 6, 7, 8, 9, 10, 11, 12, 13, 14, 15, 16, 17, 18, 19, 20, 21, 22, 23, 24, 25, 26, 27, 28, 29, 30, 31, 32, 33, 34, 35, 36, 37, 38, 39, 40, 41, 42, 43, 44, 45, 46, 47, 48, 49, 50, 51, 52, 53, 54, 55, 56, 57, 58, 59, 60, 61, 62, 63, 64, 65, 66, 67, 68, 69, 70, 71, 72, 73, 74, 75, 76, 77, 78, 79, 80, 81, 82, 83, 84, 85, 86, 87, 88] from rfl]
              simp only [List.map_cons, List.map_nil, f0, f1, f2, f3, f4, f5, f6, f7, f8, f9, f10, f11, f12, f13, f14, f15, f16, f17, f18, f19, f20, f21, f22, f23, f24, f25, f26, f27, f28, f29, f30, f31, f32, f33, f34, f35, f36, f37, f38, f39, f40, f41, f42, f43, f44, f45, f46, f47, f48, f49, f50, f51, f52, f53, f54, f55, f56, f57, f58, f59, f60, f61, f62, f63, f64, f65, f66, f67, f68, f69, f70, f71, f72, f73, f74, f75, f76, f77, f78, f79, f80, f81, f82, f83, f84, f85, f86, f87, f88]
            clear hvals hsame hdf hsz f0 f1 f2 f3 f4 f5 f6 f7 f8 f9 f10 f11 f12 f13 f14 f15 f16 f17 f18 f19 f20 f21 f22 f23 f24 f25 f26 f27 f28 f29 f30 f31 f32 f33 f34 f35 f36 f37 f38 f39 f40 f41 f42 f43 f44 f45 f46 f47 f48 f49 f50 f51 f52 f53 f54 f55 f56 f57 f58 f59 f60 f61 f62 f63 f64 f65 f66 f67 f68 f69 f70 f71 f72 f73 f74 f75 f76 f77 f78 f79 f80 f81 f82 f83 f84 f85 f86 f87 f88
            subst hlit
            simp only [List.drop_succ_cons, List.drop_zero]
            go_wp2_with fail
            go_ret
            exact ⟨rfl, HX8.out.trans' hx⟩
        · have hoz : oz = 0 := HOZ.out.symm
          subst hoz
          clear HOZ
          refine wp_region_headG 36 (fun i => !([26, 27] : List Nat).contains i) No (ReadsV01 kind1 n1 who1 flag1 name1 host1 last1 days1 day1 within1 tag1 acode1 adone1 an1 af4 nf4 cf4 ab4 nb4 cb4 af9 nf9 cf9 ab9 nb9 cb9 an6 nn6 cn6 ag6 ng6 cg6 an8 nn8 cn8 ag8 ng8 cg8) (by kernel_rfl) (by kernel_rfl) (by kernel_rfl) (ReadsV01_ext kind1 n1 who1 flag1 name1 host1 last1 days1 day1 within1 tag1 acode1 adone1 an1 af4 nf4 cf4 ab4 nb4 cb4 af9 nf9 cf9 ab9 nb9 cb9 an6 nn6 cn6 ag6 ng6 cg6 an8 nn8 cn8 ag8 ng8 cg8) (HeadStepsG.cons (by rfl) (by exact trivial) ?_ (HeadStepsG.cons (by rfl) (by exact trivial) ?_ (HeadStepsG.cons (by rfl) (by exact trivial) ?_ (HeadStepsG.cons (by rfl) (by exact trivial) ?_ (HeadStepsG.cons (by rfl) (by exact trivial) ?_ (HeadStepsG.cons (by rfl) (by exact fun _ _ h => h) ?_ (HeadStepsG.cons (by rfl) (by exact fun _ _ h => h) ?_ (HeadStepsG.cons (by rfl) (by exact fun _ _ h => h) ?_ (HeadStepsG.cons (by rfl) (by exact fun _ _ h => h) ?_ (HeadStepsG.cons (by rfl) (by exact fun _ _ h => h) ?_ (HeadStepsG.cons (by rfl) (by exact trivial) ?_ (HeadStepsG.cons (by rfl) (by exact trivial) ?_ (HeadStepsG.cons (by rfl) (by exact fun _ _ h => h) ?_ (HeadStepsG.cons (by rfl) (by exact fun _ _ h => h) ?_ (HeadStepsG.cons (by rfl) (by exact fun _ _ h => h) ?_ (HeadStepsG.cons (by rfl) (by exact fun _ _ h => h) ?_ (HeadStepsG.cons (by rfl) (by exact trivial) ?_ (HeadStepsG.cons (by rfl) (by exact trivial) ?_ (HeadStepsG.cons (by rfl) (by exact fun _ _ h => h) ?_ (HeadStepsG.cons (by rfl) (by exact fun _ _ h => h) ?_ (HeadStepsG.cons (by rfl) (by exact fun _ _ h => h) ?_ (HeadStepsG.cons (by rfl) (by exact fun _ _ h => h) ?_ (HeadStepsG.cons (by rfl) (by exact trivial) ?_ (HeadStepsG.cons (by rfl) (by exact trivial) ?_ (HeadStepsG.cons (by rfl) (by exact fun _ _ h => h) ?_ (HeadStepsG.cons (by rfl) (by exact fun _ _ h => h) ?_ (HeadStepsG.skip (by rfl) (by exact fun _ _ h => h) (by exact fun _ => rfl) (HeadStepsG.skip (by rfl) (by exact fun _ _ h => h) (by exact fun _ => rfl) (HeadStepsG.cons (by rfl) (by exact fun _ _ h => h) ?_ (HeadStepsG.cons (by rfl) (by exact trivial) ?_ (HeadStepsG.cons (by rfl) (by exact trivial) ?_ (HeadStepsG.cons (by rfl) (by exact fun _ _ h => h) ?_ (HeadStepsG.cons (by rfl) (by exact fun _ _ h => h) ?_ (HeadStepsG.cons (by rfl) (by exact fun _ _ h => h) ?_ (HeadStepsG.cons (by rfl) (by exact fun _ _ h => h) ?_ (HeadStepsG.cons (by rfl) (by exact trivial) ?_ HeadStepsG.nil)))))))))))))))))))))))))))))))))))) ?_
          · -- slot 53
            intro ac wk hx hsame hdep K hK
            have d5 : ac.tmps.getD 5 undef = .int .i64 39 := hsame 5 (by kernel_rfl)
            have e5 := d5
            rw [Array.getD_eq_getD_getElem?] at e5
            clear hsame hdep
            go_simp
            exact hK _ _ (Ext.refl _ wk) rfl
          · -- slot 54
            intro ac wk hx hsame hdep K hK
            have d53 : ac.tmps.getD 53 undef = .int .i64 39 := hdep 0 (by kernel_rfl)
            have e53 := d53
            rw [Array.getD_eq_getD_getElem?] at e53
            clear hsame hdep
            go_simp
            exact hK _ _ (Ext.refl _ wk) rfl
          · -- slot 55
            intro ac wk hx hsame hdep K hK
            have d10 : ac.tmps.getD 10 undef = .bool false := hsame 10 (by kernel_rfl)
            have e10 := d10
            rw [Array.getD_eq_getD_getElem?] at e10
            clear hsame hdep
            go_simp
            exact hK _ _ (Ext.refl _ wk) rfl
          · -- slot 56
            intro ac wk hx hsame hdep K hK
            have d54 : ac.tmps.getD 54 undef = .bool false := hdep 1 (by kernel_rfl)
            have e54 := d54
            rw [Array.getD_eq_getD_getElem?] at e54
            have d55 : ac.tmps.getD 55 undef = .bool false := hdep 2 (by kernel_rfl)
            have e55 := d55
            rw [Array.getD_eq_getD_getElem?] at e55
            clear hsame hdep
            go_simp
            exact hK _ _ (Ext.refl _ wk) rfl
          · -- slot 57
            intro ac wk hx hsame hdep K hK
            have d56 : ac.tmps.getD 56 undef = .bool true := hdep 3 (by kernel_rfl)
            have e56 := d56
            rw [Array.getD_eq_getD_getElem?] at e56
            clear hsame hdep
            go_simp
            exact hK _ _ (Ext.refl _ wk) rfl
          · -- slot 58
            intro ac wk hx hsame hdep K hK
            have d10 : ac.tmps.getD 10 undef = .bool false := hsame 10 (by kernel_rfl)
            have e10 := d10
            rw [Array.getD_eq_getD_getElem?] at e10
            clear hsame hdep
            go_simp
            exact hK _ _ (Ext.refl _ wk) rfl
          · -- slot 59
            intro ac wk hx hsame hdep K hK
            have d58 : ac.tmps.getD 58 undef = .bool false := hdep 5 (by kernel_rfl)
            have e58 := d58
            rw [Array.getD_eq_getD_getElem?] at e58
            clear hsame hdep
            go_simp
            exact hK _ _ (Ext.refl _ wk) rfl
          · -- slot 60
            intro ac wk hx hsame hdep K hK
            have d5 : ac.tmps.getD 5 undef = .int .i64 39 := hsame 5 (by kernel_rfl)
            have e5 := d5
            rw [Array.getD_eq_getD_getElem?] at e5
            clear hsame hdep
            go_simp
            exact hK _ _ (Ext.refl _ wk) rfl
          · -- slot 61
            intro ac wk hx hsame hdep K hK
            have d60 : ac.tmps.getD 60 undef = .int .i64 39 := hdep 7 (by kernel_rfl)
            have e60 := d60
            rw [Array.getD_eq_getD_getElem?] at e60
            clear hsame hdep
            go_simp
            exact hK _ _ (Ext.refl _ wk) rfl
          · -- slot 62
            intro ac wk hx hsame hdep K hK
            have d59 : ac.tmps.getD 59 undef = .bool false := hdep 6 (by kernel_rfl)
            have e59 := d59
            rw [Array.getD_eq_getD_getElem?] at e59
            have d61 : ac.tmps.getD 61 undef = .bool true := hdep 8 (by kernel_rfl)
            have e61 := d61
            rw [Array.getD_eq_getD_getElem?] at e61
            clear hsame hdep
            go_simp
            exact hK _ _ (Ext.refl _ wk) rfl
          · -- slot 63
            intro ac wk hx hsame hdep K hK
            have d57 : ac.tmps.getD 57 undef = .bool true := hdep 4 (by kernel_rfl)
            have e57 := d57
            rw [Array.getD_eq_getD_getElem?] at e57
            have d62 : ac.tmps.getD 62 undef = .bool true := hdep 9 (by kernel_rfl)
            have e62 := d62
            rw [Array.getD_eq_getD_getElem?] at e62
            clear hsame hdep
            go_simp
            exact hK _ _ (Ext.refl _ wk) rfl
          · -- slot 64
            intro ac wk hx hsame hdep K hK
            have d63 : ac.tmps.getD 63 undef = .bool true := hdep 10 (by kernel_rfl)
            have e63 := d63
            rw [Array.getD_eq_getD_getElem?] at e63
            clear hsame hdep
            go_simp
            exact hK _ _ (Ext.refl _ wk) rfl
          · -- slot 65
            intro ac wk hx hsame hdep K hK
            have d4 : ac.tmps.getD 4 undef = .pointer (some ⟨b4, 0, none⟩) := hsame 4 (by kernel_rfl)
            have e4 := d4
            rw [Array.getD_eq_getD_getElem?] at e4
            clear hsame hdep
            have hz := HB4.out.drew.ext hx (fun s => s)
            have hc0 := hz.cell 0; have hc1 := hz.cell 1; have hc2 := hz.cell 2; have hc3 := hz.cell 3; have hc4 := hz.cell 4; have hc5 := hz.cell 5; have hc6 := hz.cell 6; have hc7 := hz.cell 7; have hc8 := hz.cell 8; have hc9 := hz.cell 9; have hc10 := hz.cell 10; have hc11 := hz.cell 11; have hc12 := hz.cell 12
            simp only [List.getElem?_toArray, List.getElem?_cons_succ, List.getElem?_cons_zero] at hc0 hc1 hc2 hc3 hc4 hc5 hc6 hc7 hc8 hc9 hc10 hc11 hc12
            clear hz
            go_simp
            exact hK _ _ (Ext.refl _ wk) rfl
          · -- slot 66
            intro ac wk hx hsame hdep K hK
            have d65 : ac.tmps.getD 65 undef = .agg #[.int .i64 kind1, .int .i64 n1, .int .u64 (who1 : Nat), .bool flag1, .string (strB name1), .string (strB host1), .slice af4 nf4 cf4, .int .i64 last1, .int .i64 days1, .int .i64 day1, .int .i64 within1, .string (strB tag1), .slice ab4 nb4 cb4] := hdep 12 (by kernel_rfl)
            have e65 := d65
            rw [Array.getD_eq_getD_getElem?] at e65
            clear hsame hdep
            go_simp
            refine (command_flat kind1 n1 who1 flag1 name1 host1 last1 days1 day1 within1 tag1 _ _ wk (slice_ex _ _ _) (slice_ex _ _ _)).mono ?_
            rintro e w' ⟨rfl, hx'⟩
            exact hK _ _ hx' rfl
          · -- slot 67
            intro ac wk hx hsame hdep K hK
            have d9 : ac.tmps.getD 9 undef = .pointer (some ⟨b9, 0, none⟩) := hsame 9 (by kernel_rfl)
            have e9 := d9
            rw [Array.getD_eq_getD_getElem?] at e9
            clear hsame hdep
            have hz := HB9.out.drew.ext hx (fun s => s)
            have hc0 := hz.cell 0; have hc1 := hz.cell 1; have hc2 := hz.cell 2; have hc3 := hz.cell 3; have hc4 := hz.cell 4; have hc5 := hz.cell 5; have hc6 := hz.cell 6; have hc7 := hz.cell 7; have hc8 := hz.cell 8; have hc9 := hz.cell 9; have hc10 := hz.cell 10; have hc11 := hz.cell 11; have hc12 := hz.cell 12
            simp only [List.getElem?_toArray, List.getElem?_cons_succ, List.getElem?_cons_zero] at hc0 hc1 hc2 hc3 hc4 hc5 hc6 hc7 hc8 hc9 hc10 hc11 hc12
            clear hz
            go_simp
            exact hK _ _ (Ext.refl _ wk) rfl
          · -- slot 68
            intro ac wk hx hsame hdep K hK
            have p66 : (ac.tmps.getD 66 undef) = .agg #[.int .i64 kind1, .int .i64 n1, .int .u64 (who1 : Nat), .bool flag1, .string (strB name1), .string (strB host1), .slice af4 nf4 cf4, .int .i64 last1, .int .i64 days1, .int .i64 day1, .int .i64 within1, .string (strB tag1), .slice ab4 nb4 cb4] := hdep 13 (by kernel_rfl)
            have d66 := p66
            have e66 := d66
            rw [Array.getD_eq_getD_getElem?] at e66
            have d67 : ac.tmps.getD 67 undef = .agg #[.int .i64 kind1, .int .i64 n1, .int .u64 (who1 : Nat), .bool flag1, .string (strB name1), .string (strB host1), .slice af9 nf9 cf9, .int .i64 last1, .int .i64 days1, .int .i64 day1, .int .i64 within1, .string (strB tag1), .slice ab9 nb9 cb9] := hdep 14 (by kernel_rfl)
            have e67 := d67
            rw [Array.getD_eq_getD_getElem?] at e67
            clear hsame hdep
            go_simp
            refine (same_flat kind1 n1 who1 flag1 name1 host1 files1 last1 days1 day1 within1 tag1 bits1 kind1 n1 who1 flag1 name1 host1 files1 last1 days1 day1 within1 tag1 bits1 _ _ _ _ wk (HF4.out.ext0 (Dr.extN hx)) (HZ4.out.ext0 (Dr.extN hx)) (HF9.out.ext0 (Dr.extN hx)) (HZ9.out.ext0 (Dr.extN hx))).mono ?_
            rintro e w' ⟨hx', t, rfl, ht⟩
            exact hK _ _ hx' (congrArg Value.bool (ht.2 rfl))
          · -- slot 69
            intro ac wk hx hsame hdep K hK
            have d64 : ac.tmps.getD 64 undef = .bool true := hdep 11 (by kernel_rfl)
            have e64 := d64
            rw [Array.getD_eq_getD_getElem?] at e64
            have p68 : (ac.tmps.getD 68 undef) = .bool true := hdep 15 (by kernel_rfl)
            have d68 := p68
            have e68 := d68
            rw [Array.getD_eq_getD_getElem?] at e68
            clear hsame hdep
            go_simp
            exact hK _ _ (Ext.refl _ wk) rfl
          · -- slot 70
            intro ac wk hx hsame hdep K hK
            have d69 : ac.tmps.getD 69 undef = .bool true := hdep 16 (by kernel_rfl)
            have e69 := d69
            rw [Array.getD_eq_getD_getElem?] at e69
            clear hsame hdep
            go_simp
            exact hK _ _ (Ext.refl _ wk) rfl
          · -- slot 71
            intro ac wk hx hsame hdep K hK
            have d7 : ac.tmps.getD 7 undef = .int .i64 0 := hsame 7 (by kernel_rfl)
            have e7 := d7
            rw [Array.getD_eq_getD_getElem?] at e7
            clear hsame hdep
            go_simp
            exact hK _ _ (Ext.refl _ wk) rfl
          · -- slot 72
            intro ac wk hx hsame hdep K hK
            have d71 : ac.tmps.getD 71 undef = .int .i64 0 := hdep 18 (by kernel_rfl)
            have e71 := d71
            rw [Array.getD_eq_getD_getElem?] at e71
            clear hsame hdep
            go_simp
            exact hK _ _ (Ext.refl _ wk) rfl
          · -- slot 73
            intro ac wk hx hsame hdep K hK
            have d12 : ac.tmps.getD 12 undef = .bool true := hsame 12 (by kernel_rfl)
            have e12 := d12
            rw [Array.getD_eq_getD_getElem?] at e12
            clear hsame hdep
            go_simp
            exact hK _ _ (Ext.refl _ wk) rfl
          · -- slot 74
            intro ac wk hx hsame hdep K hK
            have d72 : ac.tmps.getD 72 undef = .bool true := hdep 19 (by kernel_rfl)
            have e72 := d72
            rw [Array.getD_eq_getD_getElem?] at e72
            have d73 : ac.tmps.getD 73 undef = .bool true := hdep 20 (by kernel_rfl)
            have e73 := d73
            rw [Array.getD_eq_getD_getElem?] at e73
            clear hsame hdep
            go_simp
            exact hK _ _ (Ext.refl _ wk) rfl
          · -- slot 75
            intro ac wk hx hsame hdep K hK
            have d70 : ac.tmps.getD 70 undef = .bool true := hdep 17 (by kernel_rfl)
            have e70 := d70
            rw [Array.getD_eq_getD_getElem?] at e70
            have d74 : ac.tmps.getD 74 undef = .bool true := hdep 21 (by kernel_rfl)
            have e74 := d74
            rw [Array.getD_eq_getD_getElem?] at e74
            clear hsame hdep
            go_simp
            exact hK _ _ (Ext.refl _ wk) rfl
          · -- slot 76
            intro ac wk hx hsame hdep K hK
            have d75 : ac.tmps.getD 75 undef = .bool true := hdep 22 (by kernel_rfl)
            have e75 := d75
            rw [Array.getD_eq_getD_getElem?] at e75
            clear hsame hdep
            go_simp
            exact hK _ _ (Ext.refl _ wk) rfl
          · -- slot 77
            intro ac wk hx hsame hdep K hK
            have d12 : ac.tmps.getD 12 undef = .bool true := hsame 12 (by kernel_rfl)
            have e12 := d12
            rw [Array.getD_eq_getD_getElem?] at e12
            clear hsame hdep
            go_simp
            exact hK _ _ (Ext.refl _ wk) rfl
          · -- slot 78
            intro ac wk hx hsame hdep K hK
            have d77 : ac.tmps.getD 77 undef = .bool true := hdep 24 (by kernel_rfl)
            have e77 := d77
            rw [Array.getD_eq_getD_getElem?] at e77
            clear hsame hdep
            go_simp
            exact hK _ _ (Ext.refl _ wk) rfl
          · -- slot 81
            intro ac wk hx hsame hdep K hK
            have d78 : ac.tmps.getD 78 undef = .bool true := hdep 25 (by kernel_rfl)
            have e78 := d78
            rw [Array.getD_eq_getD_getElem?] at e78
            have d80 : ac.tmps.getD 80 undef = undef := hdep 27 (by kernel_rfl)
            have e80 := d80
            rw [Array.getD_eq_getD_getElem?] at e80
            clear hsame hdep
            go_simp
            exact hK _ _ (Ext.refl _ wk) rfl
          · -- slot 82
            intro ac wk hx hsame hdep K hK
            have d76 : ac.tmps.getD 76 undef = .bool true := hdep 23 (by kernel_rfl)
            have e76 := d76
            rw [Array.getD_eq_getD_getElem?] at e76
            have d81 : ac.tmps.getD 81 undef = .bool true := hdep 28 (by kernel_rfl)
            have e81 := d81
            rw [Array.getD_eq_getD_getElem?] at e81
            clear hsame hdep
            go_simp
            exact hK _ _ (Ext.refl _ wk) rfl
          · -- slot 83
            intro ac wk hx hsame hdep K hK
            have d82 : ac.tmps.getD 82 undef = .bool true := hdep 29 (by kernel_rfl)
            have e82 := d82
            rw [Array.getD_eq_getD_getElem?] at e82
            clear hsame hdep
            go_simp
            exact hK _ _ (Ext.refl _ wk) rfl
          · -- slot 84
            intro ac wk hx hsame hdep K hK
            have d6 : ac.tmps.getD 6 undef = .pointer (some ⟨b6, 0, none⟩) := hsame 6 (by kernel_rfl)
            have e6 := d6
            rw [Array.getD_eq_getD_getElem?] at e6
            clear hsame hdep
            have hz := HB6.out.drew.ext hx (fun s => s)
            have hc0 := hz.cell 0; have hc1 := hz.cell 1; have hc2 := hz.cell 2; have hc3 := hz.cell 3; have hc4 := hz.cell 4
            simp only [List.getElem?_toArray, List.getElem?_cons_succ, List.getElem?_cons_zero] at hc0 hc1 hc2 hc3 hc4
            clear hz
            go_simp
            exact hK _ _ (Ext.refl _ wk) rfl
          · -- slot 85
            intro ac wk hx hsame hdep K hK
            have d84 : ac.tmps.getD 84 undef = .agg #[.int .i64 acode1, .slice an6 nn6 cn6, .slice ag6 ng6 cg6, .bool adone1, .int .i64 an1] := hdep 31 (by kernel_rfl)
            have e84 := d84
            rw [Array.getD_eq_getD_getElem?] at e84
            clear hsame hdep
            go_simp
            refine (answer_flat acode1 adone1 an1 _ _ wk (slice_ex _ _ _) (slice_ex _ _ _)).mono ?_
            rintro e w' ⟨rfl, hx'⟩
            exact hK _ _ hx' rfl
          · -- slot 86
            intro ac wk hx hsame hdep K hK
            have d11 : ac.tmps.getD 11 undef = .pointer (some ⟨b11, 0, none⟩) := hsame 11 (by kernel_rfl)
            have e11 := d11
            rw [Array.getD_eq_getD_getElem?] at e11
            clear hsame hdep
            have hz := HB11.out.drew.ext hx (fun s => s)
            have hc0 := hz.cell 0; have hc1 := hz.cell 1; have hc2 := hz.cell 2; have hc3 := hz.cell 3; have hc4 := hz.cell 4
            simp only [List.getElem?_toArray, List.getElem?_cons_succ, List.getElem?_cons_zero] at hc0 hc1 hc2 hc3 hc4
            clear hz
            go_simp
            exact hK _ _ (Ext.refl _ wk) rfl
          · -- slot 87
            intro ac wk hx hsame hdep K hK
            have p85 : (ac.tmps.getD 85 undef) = .agg #[.int .i64 acode1, .slice an6 nn6 cn6, .slice ag6 ng6 cg6, .bool adone1, .int .i64 an1] := hdep 32 (by kernel_rfl)
            have d85 := p85
            have e85 := d85
            rw [Array.getD_eq_getD_getElem?] at e85
            have d86 : ac.tmps.getD 86 undef = .agg #[.int .i64 acode1, .slice an8 nn8 cn8, .slice ag8 ng8 cg8, .bool adone1, .int .i64 an1] := hdep 33 (by kernel_rfl)
            have e86 := d86
            rw [Array.getD_eq_getD_getElem?] at e86
            clear hsame hdep
            go_simp
            refine (alike_flat acode1 anames1 afiles1 adone1 an1 _ _ _ _ wk (HN6.out.ext0 (Dr.extN hx)) (HG6.out.ext0 (Dr.extN hx)) (HN8.out.ext0 (Dr.extN hx)) (HG8.out.ext0 (Dr.extN hx))).mono ?_
            rintro e w' ⟨hx', rfl⟩
            exact hK _ _ hx' rfl
          · -- slot 88
            intro ac wk hx hsame hdep K hK
            have d83 : ac.tmps.getD 83 undef = .bool true := hdep 30 (by kernel_rfl)
            have e83 := d83
            rw [Array.getD_eq_getD_getElem?] at e83
            have p87 : (ac.tmps.getD 87 undef) = .bool true := hdep 34 (by kernel_rfl)
            have d87 := p87
            have e87 := d87
            rw [Array.getD_eq_getD_getElem?] at e87
            clear hsame hdep
            go_simp
            exact hK _ _ (Ext.refl _ wk) rfl
          · intro ac wk hx hdf hsz hsame hvals
            obtain ⟨u0, f0⟩ : ∃ u, ac.tmps.getD 0 undef = u := ⟨_, rfl⟩
            obtain ⟨u1, f1⟩ : ∃ u, ac.tmps.getD 1 undef = u := ⟨_, rfl⟩
            obtain ⟨u2, f2⟩ : ∃ u, ac.tmps.getD 2 undef = u := ⟨_, rfl⟩
            obtain ⟨u3, f3⟩ : ∃ u, ac.tmps.getD 3 undef = u := ⟨_, rfl⟩
            have f4 : ac.tmps.getD 4 undef = .pointer (some ⟨b4, 0, none⟩) := hsame 4 (by kernel_rfl)
            have f5 : ac.tmps.getD 5 undef = .int .i64 39 := hsame 5 (by kernel_rfl)
            have f6 : ac.tmps.getD 6 undef = .pointer (some ⟨b6, 0, none⟩) := hsame 6 (by kernel_rfl)
            have f7 : ac.tmps.getD 7 undef = .int .i64 0 := hsame 7 (by kernel_rfl)
            obtain ⟨u8, f8⟩ : ∃ u, ac.tmps.getD 8 undef = u := ⟨_, rfl⟩
            have f9 : ac.tmps.getD 9 undef = .pointer (some ⟨b9, 0, none⟩) := hsame 9 (by kernel_rfl)
            have f10 : ac.tmps.getD 10 undef = .bool false := hsame 10 (by kernel_rfl)
            have f11 : ac.tmps.getD 11 undef = .pointer (some ⟨b11, 0, none⟩) := hsame 11 (by kernel_rfl)
            have f12 : ac.tmps.getD 12 undef = .bool true := hsame 12 (by kernel_rfl)
            obtain ⟨u13, f13⟩ : ∃ u, ac.tmps.getD 13 undef = u := ⟨_, rfl⟩
            obtain ⟨u14, f14⟩ : ∃ u, ac.tmps.getD 14 undef = u := ⟨_, rfl⟩
            obtain ⟨u15, f15⟩ : ∃ u, ac.tmps.getD 15 undef = u := ⟨_, rfl⟩
            obtain ⟨u16, f16⟩ : ∃ u, ac.tmps.getD 16 undef = u := ⟨_, rfl⟩
            obtain ⟨u17, f17⟩ : ∃ u, ac.tmps.getD 17 undef = u := ⟨_, rfl⟩
            obtain ⟨u18, f18⟩ : ∃ u, ac.tmps.getD 18 undef = u := ⟨_, rfl⟩
            obtain ⟨u19, f19⟩ : ∃ u, ac.tmps.getD 19 undef = u := ⟨_, rfl⟩
            obtain ⟨u20, f20⟩ : ∃ u, ac.tmps.getD 20 undef = u := ⟨_, rfl⟩
            obtain ⟨u21, f21⟩ : ∃ u, ac.tmps.getD 21 undef = u := ⟨_, rfl⟩
            obtain ⟨u22, f22⟩ : ∃ u, ac.tmps.getD 22 undef = u := ⟨_, rfl⟩
            obtain ⟨u23, f23⟩ : ∃ u, ac.tmps.getD 23 undef = u := ⟨_, rfl⟩
            obtain ⟨u24, f24⟩ : ∃ u, ac.tmps.getD 24 undef = u := ⟨_, rfl⟩
            obtain ⟨u25, f25⟩ : ∃ u, ac.tmps.getD 25 undef = u := ⟨_, rfl⟩
            obtain ⟨u26, f26⟩ : ∃ u, ac.tmps.getD 26 undef = u := ⟨_, rfl⟩
            obtain ⟨u27, f27⟩ : ∃ u, ac.tmps.getD 27 undef = u := ⟨_, rfl⟩
            obtain ⟨u28, f28⟩ : ∃ u, ac.tmps.getD 28 undef = u := ⟨_, rfl⟩
            obtain ⟨u29, f29⟩ : ∃ u, ac.tmps.getD 29 undef = u := ⟨_, rfl⟩
            obtain ⟨u30, f30⟩ : ∃ u, ac.tmps.getD 30 undef = u := ⟨_, rfl⟩
            obtain ⟨u31, f31⟩ : ∃ u, ac.tmps.getD 31 undef = u := ⟨_, rfl⟩
            obtain ⟨u32, f32⟩ : ∃ u, ac.tmps.getD 32 undef = u := ⟨_, rfl⟩
            obtain ⟨u33, f33⟩ : ∃ u, ac.tmps.getD 33 undef = u := ⟨_, rfl⟩
            obtain ⟨u34, f34⟩ : ∃ u, ac.tmps.getD 34 undef = u := ⟨_, rfl⟩
            obtain ⟨u35, f35⟩ : ∃ u, ac.tmps.getD 35 undef = u := ⟨_, rfl⟩
            obtain ⟨u36, f36⟩ : ∃ u, ac.tmps.getD 36 undef = u := ⟨_, rfl⟩
            obtain ⟨u37, f37⟩ : ∃ u, ac.tmps.getD 37 undef = u := ⟨_, rfl⟩
            obtain ⟨u38, f38⟩ : ∃ u, ac.tmps.getD 38 undef = u := ⟨_, rfl⟩
            obtain ⟨u39, f39⟩ : ∃ u, ac.tmps.getD 39 undef = u := ⟨_, rfl⟩
            obtain ⟨u40, f40⟩ : ∃ u, ac.tmps.getD 40 undef = u := ⟨_, rfl⟩
            obtain ⟨u41, f41⟩ : ∃ u, ac.tmps.getD 41 undef = u := ⟨_, rfl⟩
            obtain ⟨u42, f42⟩ : ∃ u, ac.tmps.getD 42 undef = u := ⟨_, rfl⟩
            obtain ⟨u43, f43⟩ : ∃ u, ac.tmps.getD 43 undef = u := ⟨_, rfl⟩
            obtain ⟨u44, f44⟩ : ∃ u, ac.tmps.getD 44 undef = u := ⟨_, rfl⟩
            obtain ⟨u45, f45⟩ : ∃ u, ac.tmps.getD 45 undef = u := ⟨_, rfl⟩
            obtain ⟨u46, f46⟩ : ∃ u, ac.tmps.getD 46 undef = u := ⟨_, rfl⟩
            obtain ⟨u47, f47⟩ : ∃ u, ac.tmps.getD 47 undef = u := ⟨_, rfl⟩
            obtain ⟨u48, f48⟩ : ∃ u, ac.tmps.getD 48 undef = u := ⟨_, rfl⟩
            obtain ⟨u49, f49⟩ : ∃ u, ac.tmps.getD 49 undef = u := ⟨_, rfl⟩
            obtain ⟨u50, f50⟩ : ∃ u, ac.tmps.getD 50 undef = u := ⟨_, rfl⟩
            obtain ⟨u51, f51⟩ : ∃ u, ac.tmps.getD 51 undef = u := ⟨_, rfl⟩
            obtain ⟨u52, f52⟩ : ∃ u, ac.tmps.getD 52 undef = u := ⟨_, rfl⟩
            have f53 : ac.tmps.getD 53 undef = .int .i64 39 := hvals 0 (by decide)
            have f54 : ac.tmps.getD 54 undef = .bool false := hvals 1 (by decide)
            have f55 : ac.tmps.getD 55 undef = .bool false := hvals 2 (by decide)
            have f56 : ac.tmps.getD 56 undef = .bool true := hvals 3 (by decide)
            have f57 : ac.tmps.getD 57 undef = .bool true := hvals 4 (by decide)
            have f58 : ac.tmps.getD 58 undef = .bool false := hvals 5 (by decide)
            have f59 : ac.tmps.getD 59 undef = .bool false := hvals 6 (by decide)
            have f60 : ac.tmps.getD 60 undef = .int .i64 39 := hvals 7 (by decide)
            have f61 : ac.tmps.getD 61 undef = .bool true := hvals 8 (by decide)
            have f62 : ac.tmps.getD 62 undef = .bool true := hvals 9 (by decide)
            have f63 : ac.tmps.getD 63 undef = .bool true := hvals 10 (by decide)
            have f64 : ac.tmps.getD 64 undef = .bool true := hvals 11 (by decide)
            have f65 : ac.tmps.getD 65 undef = .agg #[.int .i64 kind1, .int .i64 n1, .int .u64 (who1 : Nat), .bool flag1, .string (strB name1), .string (strB host1), .slice af4 nf4 cf4, .int .i64 last1, .int .i64 days1, .int .i64 day1, .int .i64 within1, .string (strB tag1), .slice ab4 nb4 cb4] := hvals 12 (by decide)
            obtain ⟨u66, f66⟩ : ∃ u, ac.tmps.getD 66 undef = u := ⟨_, rfl⟩
            have f67 : ac.tmps.getD 67 undef = .agg #[.int .i64 kind1, .int .i64 n1, .int .u64 (who1 : Nat), .bool flag1, .string (strB name1), .string (strB host1), .slice af9 nf9 cf9, .int .i64 last1, .int .i64 days1, .int .i64 day1, .int .i64 within1, .string (strB tag1), .slice ab9 nb9 cb9] := hvals 14 (by decide)
            obtain ⟨u68, f68⟩ : ∃ u, ac.tmps.getD 68 undef = u := ⟨_, rfl⟩
            have f69 : ac.tmps.getD 69 undef = .bool true := hvals 16 (by decide)
            have f70 : ac.tmps.getD 70 undef = .bool true := hvals 17 (by decide)
            have f71 : ac.tmps.getD 71 undef = .int .i64 0 := hvals 18 (by decide)
            have f72 : ac.tmps.getD 72 undef = .bool true := hvals 19 (by decide)
            have f73 : ac.tmps.getD 73 undef = .bool true := hvals 20 (by decide)
            have f74 : ac.tmps.getD 74 undef = .bool true := hvals 21 (by decide)
            have f75 : ac.tmps.getD 75 undef = .bool true := hvals 22 (by decide)
            have f76 : ac.tmps.getD 76 undef = .bool true := hvals 23 (by decide)
            have f77 : ac.tmps.getD 77 undef = .bool true := hvals 24 (by decide)
            have f78 : ac.tmps.getD 78 undef = .bool true := hvals 25 (by decide)
            have f79 : ac.tmps.getD 79 undef = undef := hvals 26 (by decide)
            have f80 : ac.tmps.getD 80 undef = undef := hvals 27 (by decide)
            have f81 : ac.tmps.getD 81 undef = .bool true := hvals 28 (by decide)
            have f82 : ac.tmps.getD 82 undef = .bool true := hvals 29 (by decide)
            have f83 : ac.tmps.getD 83 undef = .bool true := hvals 30 (by decide)
            have f84 : ac.tmps.getD 84 undef = .agg #[.int .i64 acode1, .slice an6 nn6 cn6, .slice ag6 ng6 cg6, .bool adone1, .int .i64 an1] := hvals 31 (by decide)
            obtain ⟨u85, f85⟩ : ∃ u, ac.tmps.getD 85 undef = u := ⟨_, rfl⟩
            have f86 : ac.tmps.getD 86 undef = .agg #[.int .i64 acode1, .slice an8 nn8 cn8, .slice ag8 ng8 cg8, .bool adone1, .int .i64 an1] := hvals 33 (by decide)
            obtain ⟨u87, f87⟩ : ∃ u, ac.tmps.getD 87 undef = u := ⟨_, rfl⟩
            have f88 : ac.tmps.getD 88 undef = .bool true := hvals 35 (by decide)
            have hlit : ac = ⟨#[u0, u1, u2, u3, .pointer (some ⟨b4, 0, none⟩), .int .i64 39, .pointer (some ⟨b6, 0, none⟩), .int .i64 0, u8, .pointer (some ⟨b9, 0, none⟩), .bool false, .pointer (some ⟨b11, 0, none⟩), .bool true, u13, u14, u15, u16, u17, u18, u19, u20, u21, u22, u23, u24, u25, u26, u27, u28, u29, u30, u31, u32, u33, u34, u35, u36, u37, u38, u39, u40, u41, u42, u43, u44, u45, u46, u47, u48, u49, u50, u51, u52, .int .i64 39, .bool false, .bool false, .bool true, .bool true, .bool false, .bool false, .int .i64 39, .bool true, .bool true, .bool true, .bool true, .agg #[.int .i64 kind1, .int .i64 n1, .int .u64 (who1 : Nat), .bool flag1, .string (strB name1), .string (strB host1), .slice af4 nf4 cf4, .int .i64 last1, .int .i64 days1, .int .i64 day1, .int .i64 within1, .string (strB tag1), .slice ab4 nb4 cb4], u66, .agg #[.int .i64 kind1, .int .i64 n1, .int .u64 (who1 : Nat), .bool flag1, .string (strB name1), .string (strB host1), .slice af9 nf9 cf9, .int .i64 last1, .int .i64 days1, .int .i64 day1, .int .i64 within1, .string (strB tag1), .slice ab9 nb9 cb9], u68, .bool true, .bool true, .int .i64 0, .bool true, .bool true, .bool true, .bool true, .bool true, .bool true, .bool true, undef, undef, .bool true, .bool true, .bool true, .agg #[.int .i64 acode1, .slice an6 nn6 cn6, .slice ag6 ng6 cg6, .bool adone1, .int .i64 an1], u85, .agg #[.int .i64 acode1, .slice an8 nn8 cn8, .slice ag8 ng8 cg8, .bool adone1, .int .i64 an1], u87, .bool true], []⟩ := by
              refine (act_lit hsz hdf).trans ?_
              rw [show List.range _ = [0, 1, 2, 3, 4, 5, 6, 7, 8, 9, 10, 11, 12, 13, 14, 15, 16, 17, 18, 19, 20, 21, 22, 23, 24, 25, 26, 27, 28, 29, 30, 31, 32, 33, 34, 35, 36, 37, 38, 39, 40, 41, 42, 43, 44, 45, 46, 47, 48, 49, 50, 51, 52, 53, 54, 55, 56, 57, 58, 59, 60, 61, 62, 63, 64, 65, 66, 67, 68, 69, 70, 71, 72, 73, 74, 75, 76, 77, 78, 79, 80, 81, 82, 83, 84, 85, 86, 87, 88] from rfl]
              simp only [List.map_cons, List.map_nil, f0, f1, f2, f3, f4, f5, f6, f7, f8, f9, f10, f11, f12, f13, f14, f15, f16, f17, f18, f19, f20, f21, f22, f23, f24, f25, f26, f27, f28, f29, f30, f31, f32, f33, f34, f35, f36, f37, f38, f39, f40, f41, f42, f43, f44, f45, f46, f47, f48, f49, f50, f51, f52, f53, f54, f55, f56, f57, f58, f59, f60, f61, f62, f63, f64, f65, f66, f67, f68, f69, f70, f71, f72, f73, f74, f75, f76, f77, f78, f79, f80, f81, f82, f83, f84, f85, f86, f87, f88]
            clear hvals hsame hdf hsz f0 f1 f2 f3 f4 f5 f6 f7 f8 f9 f10 f11 f12 f13 f14 f15 f16 f17 f18 f19 f20 f21 f22 f23 f24 f25 f26 f27 f28 f29 f30 f31 f32 f33 f34 f35 f36 f37 f38 f39 f40 f41 f42 f43 f44 f45 f46 f47 f48 f49 f50 f51 f52 f53 f54 f55 f56 f57 f58 f59 f60 f61 f62 f63 f64 f65 f66 f67 f68 f69 f70 f71 f72 f73 f74 f75 f76 f77 f78 f79 f80 f81 f82 f83 f84 f85 f86 f87 f88
            subst hlit
            simp only [List.drop_succ_cons, List.drop_zero]
            go_wp2_with fail
            go_ret
            exact ⟨rfl, HX8.out.trans' hx⟩
      · have hez : ez = 0 := HEZ.out.symm
        subst hez
        clear HEZ
        cases ok
        · have hoz : oz = 39 := HOZ.out.symm
          subst hoz
          clear HOZ
          refine wp_region_headG 36 (fun i => !([7, 8] : List Nat).contains i) No (ReadsV10 kind1 n1 who1 flag1 name1 host1 last1 days1 day1 within1 tag1 acode1 adone1 an1 af4 nf4 cf4 ab4 nb4 cb4 af9 nf9 cf9 ab9 nb9 cb9 an6 nn6 cn6 ag6 ng6 cg6 an8 nn8 cn8 ag8 ng8 cg8) (by kernel_rfl) (by kernel_rfl) (by kernel_rfl) (ReadsV10_ext kind1 n1 who1 flag1 name1 host1 last1 days1 day1 within1 tag1 acode1 adone1 an1 af4 nf4 cf4 ab4 nb4 cb4 af9 nf9 cf9 ab9 nb9 cb9 an6 nn6 cn6 ag6 ng6 cg6 an8 nn8 cn8 ag8 ng8 cg8) (HeadStepsG.cons (by rfl) (by exact trivial) ?_ (HeadStepsG.cons (by rfl) (by exact trivial) ?_ (HeadStepsG.cons (by rfl) (by exact trivial) ?_ (HeadStepsG.cons (by rfl) (by exact trivial) ?_ (HeadStepsG.cons (by rfl) (by exact trivial) ?_ (HeadStepsG.cons (by rfl) (by exact fun _ _ h => h) ?_ (HeadStepsG.cons (by rfl) (by exact fun _ _ h => h) ?_ (HeadStepsG.skip (by rfl) (by exact fun _ _ h => h) (by exact fun _ => rfl) (HeadStepsG.skip (by rfl) (by exact fun _ _ h => h) (by exact fun _ => rfl) (HeadStepsG.cons (by rfl) (by exact fun _ _ h => h) ?_ (HeadStepsG.cons (by rfl) (by exact trivial) ?_ (HeadStepsG.cons (by rfl) (by exact trivial) ?_ (HeadStepsG.cons (by rfl) (by exact fun _ _ h => h) ?_ (HeadStepsG.cons (by rfl) (by exact fun _ _ h => h) ?_ (HeadStepsG.cons (by rfl) (by exact fun _ _ h => h) ?_ (HeadStepsG.cons (by rfl) (by exact fun _ _ h => h) ?_ (HeadStepsG.cons (by rfl) (by exact trivial) ?_ (HeadStepsG.cons (by rfl) (by exact trivial) ?_ (HeadStepsG.cons (by rfl) (by exact fun _ _ h => h) ?_ (HeadStepsG.cons (by rfl) (by exact fun _ _ h => h) ?_ (HeadStepsG.cons (by rfl) (by exact fun _ _ h => h) ?_ (HeadStepsG.cons (by rfl) (by exact fun _ _ h => h) ?_ (HeadStepsG.cons (by rfl) (by exact trivial) ?_ (HeadStepsG.cons (by rfl) (by exact trivial) ?_ (HeadStepsG.cons (by rfl) (by exact fun _ _ h => h) ?_ (HeadStepsG.cons (by rfl) (by exact fun _ _ h => h) ?_ (HeadStepsG.cons (by rfl) (by exact fun _ _ h => h) ?_ (HeadStepsG.cons (by rfl) (by exact fun _ _ h => h) ?_ (HeadStepsG.cons (by rfl) (by exact fun _ _ h => h) ?_ (HeadStepsG.cons (by rfl) (by exact trivial) ?_ (HeadStepsG.cons (by rfl) (by exact trivial) ?_ (HeadStepsG.cons (by rfl) (by exact fun _ _ h => h) ?_ (HeadStepsG.cons (by rfl) (by exact fun _ _ h => h) ?_ (HeadStepsG.cons (by rfl) (by exact fun _ _ h => h) ?_ (HeadStepsG.cons (by rfl) (by exact fun _ _ h => h) ?_ (HeadStepsG.cons (by rfl) (by exact trivial) ?_ HeadStepsG.nil)))))))))))))))))))))))))))))))))))) ?_
          · -- slot 53
            intro ac wk hx hsame hdep K hK
            have d5 : ac.tmps.getD 5 undef = .int .i64 0 := hsame 5 (by kernel_rfl)
            have e5 := d5
            rw [Array.getD_eq_getD_getElem?] at e5
            clear hsame hdep
            go_simp
            exact hK _ _ (Ext.refl _ wk) rfl
          · -- slot 54
            intro ac wk hx hsame hdep K hK
            have d53 : ac.tmps.getD 53 undef = .int .i64 0 := hdep 0 (by kernel_rfl)
            have e53 := d53
            rw [Array.getD_eq_getD_getElem?] at e53
            clear hsame hdep
            go_simp
            exact hK _ _ (Ext.refl _ wk) rfl
          · -- slot 55
            intro ac wk hx hsame hdep K hK
            have d10 : ac.tmps.getD 10 undef = .bool true := hsame 10 (by kernel_rfl)
            have e10 := d10
            rw [Array.getD_eq_getD_getElem?] at e10
            clear hsame hdep
            go_simp
            exact hK _ _ (Ext.refl _ wk) rfl
          · -- slot 56
            intro ac wk hx hsame hdep K hK
            have d54 : ac.tmps.getD 54 undef = .bool true := hdep 1 (by kernel_rfl)
            have e54 := d54
            rw [Array.getD_eq_getD_getElem?] at e54
            have d55 : ac.tmps.getD 55 undef = .bool true := hdep 2 (by kernel_rfl)
            have e55 := d55
            rw [Array.getD_eq_getD_getElem?] at e55
            clear hsame hdep
            go_simp
            exact hK _ _ (Ext.refl _ wk) rfl
          · -- slot 57
            intro ac wk hx hsame hdep K hK
            have d56 : ac.tmps.getD 56 undef = .bool true := hdep 3 (by kernel_rfl)
            have e56 := d56
            rw [Array.getD_eq_getD_getElem?] at e56
            clear hsame hdep
            go_simp
            exact hK _ _ (Ext.refl _ wk) rfl
          · -- slot 58
            intro ac wk hx hsame hdep K hK
            have d10 : ac.tmps.getD 10 undef = .bool true := hsame 10 (by kernel_rfl)
            have e10 := d10
            rw [Array.getD_eq_getD_getElem?] at e10
            clear hsame hdep
            go_simp
            exact hK _ _ (Ext.refl _ wk) rfl
          · -- slot 59
            intro ac wk hx hsame hdep K hK
            have d58 : ac.tmps.getD 58 undef = .bool true := hdep 5 (by kernel_rfl)
            have e58 := d58
            rw [Array.getD_eq_getD_getElem?] at e58
            clear hsame hdep
            go_simp
            exact hK _ _ (Ext.refl _ wk) rfl
          · -- slot 62
            intro ac wk hx hsame hdep K hK
            have d59 : ac.tmps.getD 59 undef = .bool true := hdep 6 (by kernel_rfl)
            have e59 := d59
            rw [Array.getD_eq_getD_getElem?] at e59
            have d61 : ac.tmps.getD 61 undef = undef := hdep 8 (by kernel_rfl)
            have e61 := d61
            rw [Array.getD_eq_getD_getElem?] at e61
            clear hsame hdep
            go_simp
            exact hK _ _ (Ext.refl _ wk) rfl
          · -- slot 63
            intro ac wk hx hsame hdep K hK
            have d57 : ac.tmps.getD 57 undef = .bool true := hdep 4 (by kernel_rfl)
            have e57 := d57
            rw [Array.getD_eq_getD_getElem?] at e57
            have d62 : ac.tmps.getD 62 undef = .bool true := hdep 9 (by kernel_rfl)
            have e62 := d62
            rw [Array.getD_eq_getD_getElem?] at e62
            clear hsame hdep
            go_simp
            exact hK _ _ (Ext.refl _ wk) rfl
          · -- slot 64
            intro ac wk hx hsame hdep K hK
            have d63 : ac.tmps.getD 63 undef = .bool true := hdep 10 (by kernel_rfl)
            have e63 := d63
            rw [Array.getD_eq_getD_getElem?] at e63
            clear hsame hdep
            go_simp
            exact hK _ _ (Ext.refl _ wk) rfl
          · -- slot 65
            intro ac wk hx hsame hdep K hK
            have d4 : ac.tmps.getD 4 undef = .pointer (some ⟨b4, 0, none⟩) := hsame 4 (by kernel_rfl)
            have e4 := d4
            rw [Array.getD_eq_getD_getElem?] at e4
            clear hsame hdep
            have hz := HB4.out.drew.ext hx (fun s => s)
            have hc0 := hz.cell 0; have hc1 := hz.cell 1; have hc2 := hz.cell 2; have hc3 := hz.cell 3; have hc4 := hz.cell 4; have hc5 := hz.cell 5; have hc6 := hz.cell 6; have hc7 := hz.cell 7; have hc8 := hz.cell 8; have hc9 := hz.cell 9; have hc10 := hz.cell 10; have hc11 := hz.cell 11; have hc12 := hz.cell 12
            simp only [List.getElem?_toArray, List.getElem?_cons_succ, List.getElem?_cons_zero] at hc0 hc1 hc2 hc3 hc4 hc5 hc6 hc7 hc8 hc9 hc10 hc11 hc12
            clear hz
            go_simp
            exact hK _ _ (Ext.refl _ wk) rfl
          · -- slot 66
            intro ac wk hx hsame hdep K hK
            have d65 : ac.tmps.getD 65 undef = .agg #[.int .i64 kind1, .int .i64 n1, .int .u64 (who1 : Nat), .bool flag1, .string (strB name1), .string (strB host1), .slice af4 nf4 cf4, .int .i64 last1, .int .i64 days1, .int .i64 day1, .int .i64 within1, .string (strB tag1), .slice ab4 nb4 cb4] := hdep 12 (by kernel_rfl)
            have e65 := d65
            rw [Array.getD_eq_getD_getElem?] at e65
            clear hsame hdep
            go_simp
            refine (command_flat kind1 n1 who1 flag1 name1 host1 last1 days1 day1 within1 tag1 _ _ wk (slice_ex _ _ _) (slice_ex _ _ _)).mono ?_
            rintro e w' ⟨rfl, hx'⟩
            exact hK _ _ hx' rfl
          · -- slot 67
            intro ac wk hx hsame hdep K hK
            have d9 : ac.tmps.getD 9 undef = .pointer (some ⟨b9, 0, none⟩) := hsame 9 (by kernel_rfl)
            have e9 := d9
            rw [Array.getD_eq_getD_getElem?] at e9
            clear hsame hdep
            have hz := HB9.out.drew.ext hx (fun s => s)
            have hc0 := hz.cell 0; have hc1 := hz.cell 1; have hc2 := hz.cell 2; have hc3 := hz.cell 3; have hc4 := hz.cell 4; have hc5 := hz.cell 5; have hc6 := hz.cell 6; have hc7 := hz.cell 7; have hc8 := hz.cell 8; have hc9 := hz.cell 9; have hc10 := hz.cell 10; have hc11 := hz.cell 11; have hc12 := hz.cell 12
            simp only [List.getElem?_toArray, List.getElem?_cons_succ, List.getElem?_cons_zero] at hc0 hc1 hc2 hc3 hc4 hc5 hc6 hc7 hc8 hc9 hc10 hc11 hc12
            clear hz
            go_simp
            exact hK _ _ (Ext.refl _ wk) rfl
          · -- slot 68
            intro ac wk hx hsame hdep K hK
            have p66 : (ac.tmps.getD 66 undef) = .agg #[.int .i64 kind1, .int .i64 n1, .int .u64 (who1 : Nat), .bool flag1, .string (strB name1), .string (strB host1), .slice af4 nf4 cf4, .int .i64 last1, .int .i64 days1, .int .i64 day1, .int .i64 within1, .string (strB tag1), .slice ab4 nb4 cb4] := hdep 13 (by kernel_rfl)
            have d66 := p66
            have e66 := d66
            rw [Array.getD_eq_getD_getElem?] at e66
            have d67 : ac.tmps.getD 67 undef = .agg #[.int .i64 kind1, .int .i64 n1, .int .u64 (who1 : Nat), .bool flag1, .string (strB name1), .string (strB host1), .slice af9 nf9 cf9, .int .i64 last1, .int .i64 days1, .int .i64 day1, .int .i64 within1, .string (strB tag1), .slice ab9 nb9 cb9] := hdep 14 (by kernel_rfl)
            have e67 := d67
            rw [Array.getD_eq_getD_getElem?] at e67
            clear hsame hdep
            go_simp
            refine (same_flat kind1 n1 who1 flag1 name1 host1 files1 last1 days1 day1 within1 tag1 bits1 kind1 n1 who1 flag1 name1 host1 files1 last1 days1 day1 within1 tag1 bits1 _ _ _ _ wk (HF4.out.ext0 (Dr.extN hx)) (HZ4.out.ext0 (Dr.extN hx)) (HF9.out.ext0 (Dr.extN hx)) (HZ9.out.ext0 (Dr.extN hx))).mono ?_
            rintro e w' ⟨hx', t, rfl, ht⟩
            exact hK _ _ hx' (congrArg Value.bool (ht.2 rfl))
          · -- slot 69
            intro ac wk hx hsame hdep K hK
            have d64 : ac.tmps.getD 64 undef = .bool true := hdep 11 (by kernel_rfl)
            have e64 := d64
            rw [Array.getD_eq_getD_getElem?] at e64
            have p68 : (ac.tmps.getD 68 undef) = .bool true := hdep 15 (by kernel_rfl)
            have d68 := p68
            have e68 := d68
            rw [Array.getD_eq_getD_getElem?] at e68
            clear hsame hdep
            go_simp
            exact hK _ _ (Ext.refl _ wk) rfl
          · -- slot 70
            intro ac wk hx hsame hdep K hK
            have d69 : ac.tmps.getD 69 undef = .bool true := hdep 16 (by kernel_rfl)
            have e69 := d69
            rw [Array.getD_eq_getD_getElem?] at e69
            clear hsame hdep
            go_simp
            exact hK _ _ (Ext.refl _ wk) rfl
          · -- slot 71
            intro ac wk hx hsame hdep K hK
            have d7 : ac.tmps.getD 7 undef = .int .i64 39 := hsame 7 (by kernel_rfl)
            have e7 := d7
            rw [Array.getD_eq_getD_getElem?] at e7
            clear hsame hdep
            go_simp
            exact hK _ _ (Ext.refl _ wk) rfl
          · -- slot 72
            intro ac wk hx hsame hdep K hK
            have d71 : ac.tmps.getD 71 undef = .int .i64 39 := hdep 18 (by kernel_rfl)
            have e71 := d71
            rw [Array.getD_eq_getD_getElem?] at e71
            clear hsame hdep
            go_simp
            exact hK _ _ (Ext.refl _ wk) rfl
          · -- slot 73
            intro ac wk hx hsame hdep K hK
            have d12 : ac.tmps.getD 12 undef = .bool false := hsame 12 (by kernel_rfl)
            have e12 := d12
            rw [Array.getD_eq_getD_getElem?] at e12
            clear hsame hdep
            go_simp
            exact hK _ _ (Ext.refl _ wk) rfl
          · -- slot 74
            intro ac wk hx hsame hdep K hK
            have d72 : ac.tmps.getD 72 undef = .bool false := hdep 19 (by kernel_rfl)
            have e72 := d72
            rw [Array.getD_eq_getD_getElem?] at e72
            have d73 : ac.tmps.getD 73 undef = .bool false := hdep 20 (by kernel_rfl)
            have e73 := d73
            rw [Array.getD_eq_getD_getElem?] at e73
            clear hsame hdep
            go_simp
            exact hK _ _ (Ext.refl _ wk) rfl
          · -- slot 75
            intro ac wk hx hsame hdep K hK
            have d70 : ac.tmps.getD 70 undef = .bool true := hdep 17 (by kernel_rfl)
            have e70 := d70
            rw [Array.getD_eq_getD_getElem?] at e70
            have d74 : ac.tmps.getD 74 undef = .bool true := hdep 21 (by kernel_rfl)
            have e74 := d74
            rw [Array.getD_eq_getD_getElem?] at e74
            clear hsame hdep
            go_simp
            exact hK _ _ (Ext.refl _ wk) rfl
          · -- slot 76
            intro ac wk hx hsame hdep K hK
            have d75 : ac.tmps.getD 75 undef = .bool true := hdep 22 (by kernel_rfl)
            have e75 := d75
            rw [Array.getD_eq_getD_getElem?] at e75
            clear hsame hdep
            go_simp
            exact hK _ _ (Ext.refl _ wk) rfl
          · -- slot 77
            intro ac wk hx hsame hdep K hK
            have d12 : ac.tmps.getD 12 undef = .bool false := hsame 12 (by kernel_rfl)
            have e12 := d12
            rw [Array.getD_eq_getD_getElem?] at e12
            clear hsame hdep
            go_simp
            exact hK _ _ (Ext.refl _ wk) rfl
          · -- slot 78
            intro ac wk hx hsame hdep K hK
            have d77 : ac.tmps.getD 77 undef = .bool false := hdep 24 (by kernel_rfl)
            have e77 := d77
            rw [Array.getD_eq_getD_getElem?] at e77
            clear hsame hdep
            go_simp
            exact hK _ _ (Ext.refl _ wk) rfl
          · -- slot 79
            intro ac wk hx hsame hdep K hK
            have d7 : ac.tmps.getD 7 undef = .int .i64 39 := hsame 7 (by kernel_rfl)
            have e7 := d7
            rw [Array.getD_eq_getD_getElem?] at e7
            clear hsame hdep
            go_simp
            exact hK _ _ (Ext.refl _ wk) rfl
          · -- slot 80
            intro ac wk hx hsame hdep K hK
            have d79 : ac.tmps.getD 79 undef = .int .i64 39 := hdep 26 (by kernel_rfl)
            have e79 := d79
            rw [Array.getD_eq_getD_getElem?] at e79
            clear hsame hdep
            go_simp
            exact hK _ _ (Ext.refl _ wk) rfl
          · -- slot 81
            intro ac wk hx hsame hdep K hK
            have d78 : ac.tmps.getD 78 undef = .bool false := hdep 25 (by kernel_rfl)
            have e78 := d78
            rw [Array.getD_eq_getD_getElem?] at e78
            have d80 : ac.tmps.getD 80 undef = .bool true := hdep 27 (by kernel_rfl)
            have e80 := d80
            rw [Array.getD_eq_getD_getElem?] at e80
            clear hsame hdep
            go_simp
            exact hK _ _ (Ext.refl _ wk) rfl
          · -- slot 82
            intro ac wk hx hsame hdep K hK
            have d76 : ac.tmps.getD 76 undef = .bool true := hdep 23 (by kernel_rfl)
            have e76 := d76
            rw [Array.getD_eq_getD_getElem?] at e76
            have d81 : ac.tmps.getD 81 undef = .bool true := hdep 28 (by kernel_rfl)
            have e81 := d81
            rw [Array.getD_eq_getD_getElem?] at e81
            clear hsame hdep
            go_simp
            exact hK _ _ (Ext.refl _ wk) rfl
          · -- slot 83
            intro ac wk hx hsame hdep K hK
            have d82 : ac.tmps.getD 82 undef = .bool true := hdep 29 (by kernel_rfl)
            have e82 := d82
            rw [Array.getD_eq_getD_getElem?] at e82
            clear hsame hdep
            go_simp
            exact hK _ _ (Ext.refl _ wk) rfl
          · -- slot 84
            intro ac wk hx hsame hdep K hK
            have d6 : ac.tmps.getD 6 undef = .pointer (some ⟨b6, 0, none⟩) := hsame 6 (by kernel_rfl)
            have e6 := d6
            rw [Array.getD_eq_getD_getElem?] at e6
            clear hsame hdep
            have hz := HB6.out.drew.ext hx (fun s => s)
            have hc0 := hz.cell 0; have hc1 := hz.cell 1; have hc2 := hz.cell 2; have hc3 := hz.cell 3; have hc4 := hz.cell 4
            simp only [List.getElem?_toArray, List.getElem?_cons_succ, List.getElem?_cons_zero] at hc0 hc1 hc2 hc3 hc4
            clear hz
            go_simp
            exact hK _ _ (Ext.refl _ wk) rfl
          · -- slot 85
            intro ac wk hx hsame hdep K hK
            have d84 : ac.tmps.getD 84 undef = .agg #[.int .i64 acode1, .slice an6 nn6 cn6, .slice ag6 ng6 cg6, .bool adone1, .int .i64 an1] := hdep 31 (by kernel_rfl)
            have e84 := d84
            rw [Array.getD_eq_getD_getElem?] at e84
            clear hsame hdep
            go_simp
            refine (answer_flat acode1 adone1 an1 _ _ wk (slice_ex _ _ _) (slice_ex _ _ _)).mono ?_
            rintro e w' ⟨rfl, hx'⟩
            exact hK _ _ hx' rfl
          · -- slot 86
            intro ac wk hx hsame hdep K hK
            have d11 : ac.tmps.getD 11 undef = .pointer (some ⟨b11, 0, none⟩) := hsame 11 (by kernel_rfl)
            have e11 := d11
            rw [Array.getD_eq_getD_getElem?] at e11
            clear hsame hdep
            have hz := HB11.out.drew.ext hx (fun s => s)
            have hc0 := hz.cell 0; have hc1 := hz.cell 1; have hc2 := hz.cell 2; have hc3 := hz.cell 3; have hc4 := hz.cell 4
            simp only [List.getElem?_toArray, List.getElem?_cons_succ, List.getElem?_cons_zero] at hc0 hc1 hc2 hc3 hc4
            clear hz
            go_simp
            exact hK _ _ (Ext.refl _ wk) rfl
          · -- slot 87
            intro ac wk hx hsame hdep K hK
            have p85 : (ac.tmps.getD 85 undef) = .agg #[.int .i64 acode1, .slice an6 nn6 cn6, .slice ag6 ng6 cg6, .bool adone1, .int .i64 an1] := hdep 32 (by kernel_rfl)
            have d85 := p85
            have e85 := d85
            rw [Array.getD_eq_getD_getElem?] at e85
            have d86 : ac.tmps.getD 86 undef = .agg #[.int .i64 acode1, .slice an8 nn8 cn8, .slice ag8 ng8 cg8, .bool adone1, .int .i64 an1] := hdep 33 (by kernel_rfl)
            have e86 := d86
            rw [Array.getD_eq_getD_getElem?] at e86
            clear hsame hdep
            go_simp
            refine (alike_flat acode1 anames1 afiles1 adone1 an1 _ _ _ _ wk (HN6.out.ext0 (Dr.extN hx)) (HG6.out.ext0 (Dr.extN hx)) (HN8.out.ext0 (Dr.extN hx)) (HG8.out.ext0 (Dr.extN hx))).mono ?_
            rintro e w' ⟨hx', rfl⟩
            exact hK _ _ hx' rfl
          · -- slot 88
            intro ac wk hx hsame hdep K hK
            have d83 : ac.tmps.getD 83 undef = .bool true := hdep 30 (by kernel_rfl)
            have e83 := d83
            rw [Array.getD_eq_getD_getElem?] at e83
            have p87 : (ac.tmps.getD 87 undef) = .bool true := hdep 34 (by kernel_rfl)
            have d87 := p87
            have e87 := d87
            rw [Array.getD_eq_getD_getElem?] at e87
            clear hsame hdep
            go_simp
            exact hK _ _ (Ext.refl _ wk) rfl
          · intro ac wk hx hdf hsz hsame hvals
            obtain ⟨u0, f0⟩ : ∃ u, ac.tmps.getD 0 undef = u := ⟨_, rfl⟩
            obtain ⟨u1, f1⟩ : ∃ u, ac.tmps.getD 1 undef = u := ⟨_, rfl⟩
            obtain ⟨u2, f2⟩ : ∃ u, ac.tmps.getD 2 undef = u := ⟨_, rfl⟩
            obtain ⟨u3, f3⟩ : ∃ u, ac.tmps.getD 3 undef = u := ⟨_, rfl⟩
            have f4 : ac.tmps.getD 4 undef = .pointer (some ⟨b4, 0, none⟩) := hsame 4 (by kernel_rfl)
            have f5 : ac.tmps.getD 5 undef = .int .i64 0 := hsame 5 (by kernel_rfl)
            have f6 : ac.tmps.getD 6 undef = .pointer (some ⟨b6, 0, none⟩) := hsame 6 (by kernel_rfl)
            have f7 : ac.tmps.getD 7 undef = .int .i64 39 := hsame 7 (by kernel_rfl)
            obtain ⟨u8, f8⟩ : ∃ u, ac.tmps.getD 8 undef = u := ⟨_, rfl⟩
            have f9 : ac.tmps.getD 9 undef = .pointer (some ⟨b9, 0, none⟩) := hsame 9 (by kernel_rfl)
            have f10 : ac.tmps.getD 10 undef = .bool true := hsame 10 (by kernel_rfl)
            have f11 : ac.tmps.getD 11 undef = .pointer (some ⟨b11, 0, none⟩) := hsame 11 (by kernel_rfl)
            have f12 : ac.tmps.getD 12 undef = .bool false := hsame 12 (by kernel_rfl)
            obtain ⟨u13, f13⟩ : ∃ u, ac.tmps.getD 13 undef = u := ⟨_, rfl⟩
            obtain ⟨u14, f14⟩ : ∃ u, ac.tmps.getD 14 undef = u := ⟨_, rfl⟩
            obtain ⟨u15, f15⟩ : ∃ u, ac.tmps.getD 15 undef = u := ⟨_, rfl⟩
            obtain ⟨u16, f16⟩ : ∃ u, ac.tmps.getD 16 undef = u := ⟨_, rfl⟩
            obtain ⟨u17, f17⟩ : ∃ u, ac.tmps.getD 17 undef = u := ⟨_, rfl⟩
            obtain ⟨u18, f18⟩ : ∃ u, ac.tmps.getD 18 undef = u := ⟨_, rfl⟩
            obtain ⟨u19, f19⟩ : ∃ u, ac.tmps.getD 19 undef = u := ⟨_, rfl⟩
            obtain ⟨u20, f20⟩ : ∃ u, ac.tmps.getD 20 undef = u := ⟨_, rfl⟩
            obtain ⟨u21, f21⟩ : ∃ u, ac.tmps.getD 21 undef = u := ⟨_, rfl⟩
            obtain ⟨u22, f22⟩ : ∃ u, ac.tmps.getD 22 undef = u := ⟨_, rfl⟩
            obtain ⟨u23, f23⟩ : ∃ u, ac.tmps.getD 23 undef = u := ⟨_, rfl⟩
            obtain ⟨u24, f24⟩ : ∃ u, ac.tmps.getD 24 undef = u := ⟨_, rfl⟩
            obtain ⟨u25, f25⟩ : ∃ u, ac.tmps.getD 25 undef = u := ⟨_, rfl⟩
            obtain ⟨u26, f26⟩ : ∃ u, ac.tmps.getD 26 undef = u := ⟨_, rfl⟩
            obtain ⟨u27, f27⟩ : ∃ u, ac.tmps.getD 27 undef = u := ⟨_, rfl⟩
            obtain ⟨u28, f28⟩ : ∃ u, ac.tmps.getD 28 undef = u := ⟨_, rfl⟩
            obtain ⟨u29, f29⟩ : ∃ u, ac.tmps.getD 29 undef = u := ⟨_, rfl⟩
            obtain ⟨u30, f30⟩ : ∃ u, ac.tmps.getD 30 undef = u := ⟨_, rfl⟩
            obtain ⟨u31, f31⟩ : ∃ u, ac.tmps.getD 31 undef = u := ⟨_, rfl⟩
            obtain ⟨u32, f32⟩ : ∃ u, ac.tmps.getD 32 undef = u := ⟨_, rfl⟩
            obtain ⟨u33, f33⟩ : ∃ u, ac.tmps.getD 33 undef = u := ⟨_, rfl⟩
            obtain ⟨u34, f34⟩ : ∃ u, ac.tmps.getD 34 undef = u := ⟨_, rfl⟩
            obtain ⟨u35, f35⟩ : ∃ u, ac.tmps.getD 35 undef = u := ⟨_, rfl⟩
            obtain ⟨u36, f36⟩ : ∃ u, ac.tmps.getD 36 undef = u := ⟨_, rfl⟩
            obtain ⟨u37, f37⟩ : ∃ u, ac.tmps.getD 37 undef = u := ⟨_, rfl⟩
            obtain ⟨u38, f38⟩ : ∃ u, ac.tmps.getD 38 undef = u := ⟨_, rfl⟩
            obtain ⟨u39, f39⟩ : ∃ u, ac.tmps.getD 39 undef = u := ⟨_, rfl⟩
            obtain ⟨u40, f40⟩ : ∃ u, ac.tmps.getD 40 undef = u := ⟨_, rfl⟩
            obtain ⟨u41, f41⟩ : ∃ u, ac.tmps.getD 41 undef = u := ⟨_, rfl⟩
            obtain ⟨u42, f42⟩ : ∃ u, ac.tmps.getD 42 undef = u := ⟨_, rfl⟩
            obtain ⟨u43, f43⟩ : ∃ u, ac.tmps.getD 43 undef = u := ⟨_, rfl⟩
            obtain ⟨u44, f44⟩ : ∃ u, ac.tmps.getD 44 undef = u := ⟨_, rfl⟩
            obtain ⟨u45, f45⟩ : ∃ u, ac.tmps.getD 45 undef = u := ⟨_, rfl⟩
            obtain ⟨u46, f46⟩ : ∃ u, ac.tmps.getD 46 undef = u := ⟨_, rfl⟩
            obtain ⟨u47, f47⟩ : ∃ u, ac.tmps.getD 47 undef = u := ⟨_, rfl⟩
            obtain ⟨u48, f48⟩ : ∃ u, ac.tmps.getD 48 undef = u := ⟨_, rfl⟩
            obtain ⟨u49, f49⟩ : ∃ u, ac.tmps.getD 49 undef = u := ⟨_, rfl⟩
            obtain ⟨u50, f50⟩ : ∃ u, ac.tmps.getD 50 undef = u := ⟨_, rfl⟩
            obtain ⟨u51, f51⟩ : ∃ u, ac.tmps.getD 51 undef = u := ⟨_, rfl⟩
            obtain ⟨u52, f52⟩ : ∃ u, ac.tmps.getD 52 undef = u := ⟨_, rfl⟩
            have f53 : ac.tmps.getD 53 undef = .int .i64 0 := hvals 0 (by decide)
            have f54 : ac.tmps.getD 54 undef = .bool true := hvals 1 (by decide)
            have f55 : ac.tmps.getD 55 undef = .bool true := hvals 2 (by decide)
            have f56 : ac.tmps.getD 56 undef = .bool true := hvals 3 (by decide)
            have f57 : ac.tmps.getD 57 undef = .bool true := hvals 4 (by decide)
            have f58 : ac.tmps.getD 58 undef = .bool true := hvals 5 (by decide)
            have f59 : ac.tmps.getD 59 undef = .bool true := hvals 6 (by decide)
            have f60 : ac.tmps.getD 60 undef = undef := hvals 7 (by decide)
            have f61 : ac.tmps.getD 61 undef = undef := hvals 8 (by decide)
            have f62 : ac.tmps.getD 62 undef = .bool true := hvals 9 (by decide)
            have f63 : ac.tmps.getD 63 undef = .bool true := hvals 10 (by decide)
            have f64 : ac.tmps.getD 64 undef = .bool true := hvals 11 (by decide)
            have f65 : ac.tmps.getD 65 undef = .agg #[.int .i64 kind1, .int .i64 n1, .int .u64 (who1 : Nat), .bool flag1, .string (strB name1), .string (strB host1), .slice af4 nf4 cf4, .int .i64 last1, .int .i64 days1, .int .i64 day1, .int .i64 within1, .string (strB tag1), .slice ab4 nb4 cb4] := hvals 12 (by decide)
            obtain ⟨u66, f66⟩ : ∃ u, ac.tmps.getD 66 undef = u := ⟨_, rfl⟩
            have f67 : ac.tmps.getD 67 undef = .agg #[.int .i64 kind1, .int .i64 n1, .int .u64 (who1 : Nat), .bool flag1, .string (strB name1), .string (strB host1), .slice af9 nf9 cf9, .int .i64 last1, .int .i64 days1, .int .i64 day1, .int .i64 within1, .string (strB tag1), .slice ab9 nb9 cb9] := hvals 14 (by decide)
            obtain ⟨u68, f68⟩ : ∃ u, ac.tmps.getD 68 undef = u := ⟨_, rfl⟩
            have f69 : ac.tmps.getD 69 undef = .bool true := hvals 16 (by decide)
            have f70 : ac.tmps.getD 70 undef = .bool true := hvals 17 (by decide)
            have f71 : ac.tmps.getD 71 undef = .int .i64 39 := hvals 18 (by decide)
            have f72 : ac.tmps.getD 72 undef = .bool false := hvals 19 (by decide)
            have f73 : ac.tmps.getD 73 undef = .bool false := hvals 20 (by decide)
            have f74 : ac.tmps.getD 74 undef = .bool true := hvals 21 (by decide)
            have f75 : ac.tmps.getD 75 undef = .bool true := hvals 22 (by decide)
            have f76 : ac.tmps.getD 76 undef = .bool true := hvals 23 (by decide)
            have f77 : ac.tmps.getD 77 undef = .bool false := hvals 24 (by decide)
            have f78 : ac.tmps.getD 78 undef = .bool false := hvals 25 (by decide)
            have f79 : ac.tmps.getD 79 undef = .int .i64 39 := hvals 26 (by decide)
            have f80 : ac.tmps.getD 80 undef = .bool true := hvals 27 (by decide)
            have f81 : ac.tmps.getD 81 undef = .bool true := hvals 28 (by decide)
            have f82 : ac.tmps.getD 82 undef = .bool true := hvals 29 (by decide)
            have f83 : ac.tmps.getD 83 undef = .bool true := hvals 30 (by decide)
            have f84 : ac.tmps.getD 84 undef = .agg #[.int .i64 acode1, .slice an6 nn6 cn6, .slice ag6 ng6 cg6, .bool adone1, .int .i64 an1] := hvals 31 (by decide)
            obtain ⟨u85, f85⟩ : ∃ u, ac.tmps.getD 85 undef = u := ⟨_, rfl⟩
            have f86 : ac.tmps.getD 86 undef = .agg #[.int .i64 acode1, .slice an8 nn8 cn8, .slice ag8 ng8 cg8, .bool adone1, .int .i64 an1] := hvals 33 (by decide)
            obtain ⟨u87, f87⟩ : ∃ u, ac.tmps.getD 87 undef = u := ⟨_, rfl⟩
            have f88 : ac.tmps.getD 88 undef = .bool true := hvals 35 (by decide)
            have hlit : ac = ⟨#[u0, u1, u2, u3, .pointer (some ⟨b4, 0, none⟩), .int .i64 0, .pointer (some ⟨b6, 0, none⟩), .int .i64 39, u8, .pointer (some ⟨b9, 0, none⟩), .bool true, .pointer (some ⟨b11, 0, none⟩), .bool false, u13, u14, u15, u16, u17, u18, u19, u20, u21, u22, u23, u24, u25, u26, u27, u28, u29, u30, u31, u32, u33, u34, u35, u36, u37, u38, u39, u40, u41, u42, u43, u44, u45, u46, u47, u48, u49, u50, u51, u52, .int .i64 0, .bool true, .bool true, .bool true, .bool true, .bool true, .bool true, undef, undef, .bool true, .bool true, .bool true, .agg #[.int .i64 kind1, .int .i64 n1, .int .u64 (who1 : Nat), .bool flag1, .string (strB name1), .string (strB host1), .slice af4 nf4 cf4, .int .i64 last1, .int .i64 days1, .int .i64 day1, .int .i64 within1, .string (strB tag1), .slice ab4 nb4 cb4], u66, .agg #[.int .i64 kind1, .int .i64 n1, .int .u64 (who1 : Nat), .bool flag1, .string (strB name1), .string (strB host1), .slice af9 nf9 cf9, .int .i64 last1, .int .i64 days1, .int .i64 day1, .int .i64 within1, .string (strB tag1), .slice ab9 nb9 cb9], u68, .bool true, .bool true, .int .i64 39, .bool false, .bool false, .bool true, .bool true, .bool true, .bool false, .bool false, .int .i64 39, .bool true, .bool true, .bool true, .bool true, .agg #[.int .i64 acode1, .slice an6 nn6 cn6, .slice ag6 ng6 cg6, .bool adone1, .int .i64 an1], u85, .agg #[.int .i64 acode1, .slice an8 nn8 cn8, .slice ag8 ng8 cg8, .bool adone1, .int .i64 an1], u87, .bool true], []⟩ := by
              refine (act_lit hsz hdf).trans ?_
              rw [show List.range _ = [0, 1, 2, 3, 4, 5, 6, 7, 8, 9, 10, 11, 12, 13, 14, 15, 16, 17, 18, 19, 20, 21, 22, 23, 24, 25, 26, 27, 28, 29, 30, 31, 32, 33, 34, 35, 36, 37, 38, 39, 40, 41, 42, 43, 44, 45, 46, 47, 48, 49, 50, 51, 52, 53, 54, 55, 56, 57, 58, 59, 60, 61, 62, 63, 64, 65, 66, 67, 68, 69, 70, 71, 72, 73, 74, 75, 76, 77, 78, 79, 80, 81, 82, 83, 84, 85, 86, 87, 88] from rfl]
              simp only [List.map_cons, List.map_nil, f0, f1, f2, f3, f4, f5, f6, f7, f8, f9, f10, f11, f12, f13, f14, f15, f16, f17, f18, f19, f20, f21, f22, f23, f24, f25, f26, f27, f28, f29, f30, f31, f32, f33, f34, f35, f36, f37, f38, f39, f40, f41, f42, f43, f44, f45, f46, f47, f48, f49, f50, f51, f52, f53, f54, f55, f56, f57, f58, f59, f60, f61, f62, f63, f64, f65, f66, f67, f68, f69, f70, f71, f72, f73, f74, f75, f76, f77, f78, f79, f80, f81, f82, f83, f84, f85, f86, f87, f88]
            clear hvals hsame hdf hsz f0 f1 f2 f3 f4 f5 f6 f7 f8 f9 f10 f11 f12 f13 f14 f15 f16 f17 f18 f19 f20 f21 f22 f23 f24 f25 f26 f27 f28 f29 f30 f31 f32 f33 f34 f35 f36 f37 f38 f39 f40 f41 f42 f43 f44 f45 f46 f47 f48 f49 f50 f51 f52 f53 f54 f55 f56 f57 f58 f59 f60 f61 f62 f63 f64 f65 f66 f67 f68 f69 f70 f71 f72 f73 f74 f75 f76 f77 f78 f79 f80 f81 f82 f83 f84 f85 f86 f87 f88
            subst hlit
            simp only [List.drop_succ_cons, List.drop_zero]
            go_wp2_with fail
            go_ret
            exact ⟨rfl, HX8.out.trans' hx⟩
        · have hoz : oz = 0 := HOZ.out.symm
          subst hoz
          clear HOZ
          refine wp_region_headG 36 (fun i => !([7, 8, 26, 27] : List Nat).contains i) No (ReadsV11 kind1 n1 who1 flag1 name1 host1 last1 days1 day1 within1 tag1 acode1 adone1 an1 af4 nf4 cf4 ab4 nb4 cb4 af9 nf9 cf9 ab9 nb9 cb9 an6 nn6 cn6 ag6 ng6 cg6 an8 nn8 cn8 ag8 ng8 cg8) (by kernel_rfl) (by kernel_rfl) (by kernel_rfl) (ReadsV11_ext kind1 n1 who1 flag1 name1 host1 last1 days1 day1 within1 tag1 acode1 adone1 an1 af4 nf4 cf4 ab4 nb4 cb4 af9 nf9 cf9 ab9 nb9 cb9 an6 nn6 cn6 ag6 ng6 cg6 an8 nn8 cn8 ag8 ng8 cg8) (HeadStepsG.cons (by rfl) (by exact trivial) ?_ (HeadStepsG.cons (by rfl) (by exact trivial) ?_ (HeadStepsG.cons (by rfl) (by exact trivial) ?_ (HeadStepsG.cons (by rfl) (by exact trivial) ?_ (HeadStepsG.cons (by rfl) (by exact trivial) ?_ (HeadStepsG.cons (by rfl) (by exact fun _ _ h => h) ?_ (HeadStepsG.cons (by rfl) (by exact fun _ _ h => h) ?_ (HeadStepsG.skip (by rfl) (by exact fun _ _ h => h) (by exact fun _ => rfl) (HeadStepsG.skip (by rfl) (by exact fun _ _ h => h) (by exact fun _ => rfl) (HeadStepsG.cons (by rfl) (by exact fun _ _ h => h) ?_ (HeadStepsG.cons (by rfl) (by exact trivial) ?_ (HeadStepsG.cons (by rfl) (by exact trivial) ?_ (HeadStepsG.cons (by rfl) (by exact fun _ _ h => h) ?_ (HeadStepsG.cons (by rfl) (by exact fun _ _ h => h) ?_ (HeadStepsG.cons (by rfl) (by exact fun _ _ h => h) ?_ (HeadStepsG.cons (by rfl) (by exact fun _ _ h => h) ?_ (HeadStepsG.cons (by rfl) (by exact trivial) ?_ (HeadStepsG.cons (by rfl) (by exact trivial) ?_ (HeadStepsG.cons (by rfl) (by exact fun _ _ h => h) ?_ (HeadStepsG.cons (by rfl) (by exact fun _ _ h => h) ?_ (HeadStepsG.cons (by rfl) (by exact fun _ _ h => h) ?_ (HeadStepsG.cons (by rfl) (by exact fun _ _ h => h) ?_ (HeadStepsG.cons (by rfl) (by exact trivial) ?_ (HeadStepsG.cons (by rfl) (by exact trivial) ?_ (HeadStepsG.cons (by rfl) (by exact fun _ _ h => h) ?_ (HeadStepsG.cons (by rfl) (by exact fun _ _ h => h) ?_ (HeadStepsG.skip (by rfl) (by exact fun _ _ h => h) (by exact fun _ => rfl) (HeadStepsG.skip (by rfl) (by exact fun _ _ h => h) (by exact fun _ => rfl) (HeadStepsG.cons (by rfl) (by exact fun _ _ h => h) ?_ (HeadStepsG.cons (by rfl) (by exact trivial) ?_ (HeadStepsG.cons (by rfl) (by exact trivial) ?_ (HeadStepsG.cons (by rfl) (by exact fun _ _ h => h) ?_ (HeadStepsG.cons (by rfl) (by exact fun _ _ h => h) ?_ (HeadStepsG.cons (by rfl) (by exact fun _ _ h => h) ?_ (HeadStepsG.cons (by rfl) (by exact fun _ _ h => h) ?_ (HeadStepsG.cons (by rfl) (by exact trivial) ?_ HeadStepsG.nil)))))))))))))))))))))))))))))))))))) ?_
          · -- slot 53
            intro ac wk hx hsame hdep K hK
            have d5 : ac.tmps.getD 5 undef = .int .i64 0 := hsame 5 (by kernel_rfl)
            have e5 := d5
            rw [Array.getD_eq_getD_getElem?] at e5
            clear hsame hdep
            go_simp
            exact hK _ _ (Ext.refl _ wk) rfl
          · -- slot 54
            intro ac wk hx hsame hdep K hK
            have d53 : ac.tmps.getD 53 undef = .int .i64 0 := hdep 0 (by kernel_rfl)
            have e53 := d53
            rw [Array.getD_eq_getD_getElem?] at e53
            clear hsame hdep
            go_simp
            exact hK _ _ (Ext.refl _ wk) rfl
          · -- slot 55
            intro ac wk hx hsame hdep K hK
            have d10 : ac.tmps.getD 10 undef = .bool true := hsame 10 (by kernel_rfl)
            have e10 := d10
            rw [Array.getD_eq_getD_getElem?] at e10
            clear hsame hdep
            go_simp
            exact hK _ _ (Ext.refl _ wk) rfl
          · -- slot 56
            intro ac wk hx hsame hdep K hK
            have d54 : ac.tmps.getD 54 undef = .bool true := hdep 1 (by kernel_rfl)
            have e54 := d54
            rw [Array.getD_eq_getD_getElem?] at e54
            have d55 : ac.tmps.getD 55 undef = .bool true := hdep 2 (by kernel_rfl)
            have e55 := d55
            rw [Array.getD_eq_getD_getElem?] at e55
            clear hsame hdep
            go_simp
            exact hK _ _ (Ext.refl _ wk) rfl
          · -- slot 57
            intro ac wk hx hsame hdep K hK
            have d56 : ac.tmps.getD 56 undef = .bool true := hdep 3 (by kernel_rfl)
            have e56 := d56
            rw [Array.getD_eq_getD_getElem?] at e56
            clear hsame hdep
            go_simp
            exact hK _ _ (Ext.refl _ wk) rfl
          · -- slot 58
            intro ac wk hx hsame hdep K hK
            have d10 : ac.tmps.getD 10 undef = .bool true := hsame 10 (by kernel_rfl)
            have e10 := d10
            rw [Array.getD_eq_getD_getElem?] at e10
            clear hsame hdep
            go_simp
            exact hK _ _ (Ext.refl _ wk) rfl
          · -- slot 59
            intro ac wk hx hsame hdep K hK
            have d58 : ac.tmps.getD 58 undef = .bool true := hdep 5 (by kernel_rfl)
            have e58 := d58
            rw [Array.getD_eq_getD_getElem?] at e58
            clear hsame hdep
            go_simp
            exact hK _ _ (Ext.refl _ wk) rfl
          · -- slot 62
            intro ac wk hx hsame hdep K hK
            have d59 : ac.tmps.getD 59 undef = .bool true := hdep 6 (by kernel_rfl)
            have e59 := d59
            rw [Array.getD_eq_getD_getElem?] at e59
            have d61 : ac.tmps.getD 61 undef = undef := hdep 8 (by kernel_rfl)
            have e61 := d61
            rw [Array.getD_eq_getD_getElem?] at e61
            clear hsame hdep
            go_simp
            exact hK _ _ (Ext.refl _ wk) rfl
          · -- slot 63
            intro ac wk hx hsame hdep K hK
            have d57 : ac.tmps.getD 57 undef = .bool true := hdep 4 (by kernel_rfl)
            have e57 := d57
            rw [Array.getD_eq_getD_getElem?] at e57
            have d62 : ac.tmps.getD 62 undef = .bool true := hdep 9 (by kernel_rfl)
            have e62 := d62
            rw [Array.getD_eq_getD_getElem?] at e62
            clear hsame hdep
            go_simp
            exact hK _ _ (Ext.refl _ wk) rfl
          · -- slot 64
            intro ac wk hx hsame hdep K hK
            have d63 : ac.tmps.getD 63 undef = .bool true := hdep 10 (by kernel_rfl)
            have e63 := d63
            rw [Array.getD_eq_getD_getElem?] at e63
            clear hsame hdep
            go_simp
            exact hK _ _ (Ext.refl _ wk) rfl
          · -- slot 65
            intro ac wk hx hsame hdep K hK
            have d4 : ac.tmps.getD 4 undef = .pointer (some ⟨b4, 0, none⟩) := hsame 4 (by kernel_rfl)
            have e4 := d4
            rw [Array.getD_eq_getD_getElem?] at e4
            clear hsame hdep
            have hz := HB4.out.drew.ext hx (fun s => s)
            have hc0 := hz.cell 0; have hc1 := hz.cell 1; have hc2 := hz.cell 2; have hc3 := hz.cell 3; have hc4 := hz.cell 4; have hc5 := hz.cell 5; have hc6 := hz.cell 6; have hc7 := hz.cell 7; have hc8 := hz.cell 8; have hc9 := hz.cell 9; have hc10 := hz.cell 10; have hc11 := hz.cell 11; have hc12 := hz.cell 12
            simp only [List.getElem?_toArray, List.getElem?_cons_succ, List.getElem?_cons_zero] at hc0 hc1 hc2 hc3 hc4 hc5 hc6 hc7 hc8 hc9 hc10 hc11 hc12
            clear hz
            go_simp
            exact hK _ _ (Ext.refl _ wk) rfl
          · -- slot 66
            intro ac wk hx hsame hdep K hK
            have d65 : ac.tmps.getD 65 undef = .agg #[.int .i64 kind1, .int .i64 n1, .int .u64 (who1 : Nat), .bool flag1, .string (strB name1), .string (strB host1), .slice af4 nf4 cf4, .int .i64 last1, .int .i64 days1, .int .i64 day1, .int .i64 within1, .string (strB tag1), .slice ab4 nb4 cb4] := hdep 12 (by kernel_rfl)
            have e65 := d65
            rw [Array.getD_eq_getD_getElem?] at e65
            clear hsame hdep
            go_simp
            refine (command_flat kind1 n1 who1 flag1 name1 host1 last1 days1 day1 within1 tag1 _ _ wk (slice_ex _ _ _) (slice_ex _ _ _)).mono ?_
            rintro e w' ⟨rfl, hx'⟩
            exact hK _ _ hx' rfl
          · -- slot 67
            intro ac wk hx hsame hdep K hK
            have d9 : ac.tmps.getD 9 undef = .pointer (some ⟨b9, 0, none⟩) := hsame 9 (by kernel_rfl)
            have e9 := d9
            rw [Array.getD_eq_getD_getElem?] at e9
            clear hsame hdep
            have hz := HB9.out.drew.ext hx (fun s => s)
            have hc0 := hz.cell 0; have hc1 := hz.cell 1; have hc2 := hz.cell 2; have hc3 := hz.cell 3; have hc4 := hz.cell 4; have hc5 := hz.cell 5; have hc6 := hz.cell 6; have hc7 := hz.cell 7; have hc8 := hz.cell 8; have hc9 := hz.cell 9; have hc10 := hz.cell 10; have hc11 := hz.cell 11; have hc12 := hz.cell 12
            simp only [List.getElem?_toArray, List.getElem?_cons_succ, List.getElem?_cons_zero] at hc0 hc1 hc2 hc3 hc4 hc5 hc6 hc7 hc8 hc9 hc10 hc11 hc12
            clear hz
            go_simp
            exact hK _ _ (Ext.refl _ wk) rfl
          · -- slot 68
            intro ac wk hx hsame hdep K hK
            have p66 : (ac.tmps.getD 66 undef) = .agg #[.int .i64 kind1, .int .i64 n1, .int .u64 (who1 : Nat), .bool flag1, .string (strB name1), .string (strB host1), .slice af4 nf4 cf4, .int .i64 last1, .int .i64 days1, .int .i64 day1, .int .i64 within1, .string (strB tag1), .slice ab4 nb4 cb4] := hdep 13 (by kernel_rfl)
            have d66 := p66
            have e66 := d66
            rw [Array.getD_eq_getD_getElem?] at e66
            have d67 : ac.tmps.getD 67 undef = .agg #[.int .i64 kind1, .int .i64 n1, .int .u64 (who1 : Nat), .bool flag1, .string (strB name1), .string (strB host1), .slice af9 nf9 cf9, .int .i64 last1, .int .i64 days1, .int .i64 day1, .int .i64 within1, .string (strB tag1), .slice ab9 nb9 cb9] := hdep 14 (by kernel_rfl)
            have e67 := d67
            rw [Array.getD_eq_getD_getElem?] at e67
            clear hsame hdep
            go_simp
            refine (same_flat kind1 n1 who1 flag1 name1 host1 files1 last1 days1 day1 within1 tag1 bits1 kind1 n1 who1 flag1 name1 host1 files1 last1 days1 day1 within1 tag1 bits1 _ _ _ _ wk (HF4.out.ext0 (Dr.extN hx)) (HZ4.out.ext0 (Dr.extN hx)) (HF9.out.ext0 (Dr.extN hx)) (HZ9.out.ext0 (Dr.extN hx))).mono ?_
            rintro e w' ⟨hx', t, rfl, ht⟩
            exact hK _ _ hx' (congrArg Value.bool (ht.2 rfl))
          · -- slot 69
            intro ac wk hx hsame hdep K hK
            have d64 : ac.tmps.getD 64 undef = .bool true := hdep 11 (by kernel_rfl)
            have e64 := d64
            rw [Array.getD_eq_getD_getElem?] at e64
            have p68 : (ac.tmps.getD 68 undef) = .bool true := hdep 15 (by kernel_rfl)
            have d68 := p68
            have e68 := d68
            rw [Array.getD_eq_getD_getElem?] at e68
            clear hsame hdep
            go_simp
            exact hK _ _ (Ext.refl _ wk) rfl
          · -- slot 70
            intro ac wk hx hsame hdep K hK
            have d69 : ac.tmps.getD 69 undef = .bool true := hdep 16 (by kernel_rfl)
            have e69 := d69
            rw [Array.getD_eq_getD_getElem?] at e69
            clear hsame hdep
            go_simp
            exact hK _ _ (Ext.refl _ wk) rfl
          · -- slot 71
            intro ac wk hx hsame hdep K hK
            have d7 : ac.tmps.getD 7 undef = .int .i64 0 := hsame 7 (by kernel_rfl)
            have e7 := d7
            rw [Array.getD_eq_getD_getElem?] at e7
            clear hsame hdep
            go_simp
            exact hK _ _ (Ext.refl _ wk) rfl
          · -- slot 72
            intro ac wk hx hsame hdep K hK
            have d71 : ac.tmps.getD 71 undef = .int .i64 0 := hdep 18 (by kernel_rfl)
            have e71 := d71
            rw [Array.getD_eq_getD_getElem?] at e71
            clear hsame hdep
            go_simp
            exact hK _ _ (Ext.refl _ wk) rfl
          · -- slot 73
            intro ac wk hx hsame hdep K hK
            have d12 : ac.tmps.getD 12 undef = .bool true := hsame 12 (by kernel_rfl)
            have e12 := d12
            rw [Array.getD_eq_getD_getElem?] at e12
            clear hsame hdep
            go_simp
            exact hK _ _ (Ext.refl _ wk) rfl
          · -- slot 74
            intro ac wk hx hsame hdep K hK
            have d72 : ac.tmps.getD 72 undef = .bool true := hdep 19 (by kernel_rfl)
            have e72 := d72
            rw [Array.getD_eq_getD_getElem?] at e72
            have d73 : ac.tmps.getD 73 undef = .bool true := hdep 20 (by kernel_rfl)
            have e73 := d73
            rw [Array.getD_eq_getD_getElem?] at e73
            clear hsame hdep
            go_simp
            exact hK _ _ (Ext.refl _ wk) rfl
          · -- slot 75
            intro ac wk hx hsame hdep K hK
            have d70 : ac.tmps.getD 70 undef = .bool true := hdep 17 (by kernel_rfl)
            have e70 := d70
            rw [Array.getD_eq_getD_getElem?] at e70
            have d74 : ac.tmps.getD 74 undef = .bool true := hdep 21 (by kernel_rfl)
            have e74 := d74
            rw [Array.getD_eq_getD_getElem?] at e74
            clear hsame hdep
            go_simp
            exact hK _ _ (Ext.refl _ wk) rfl
          · -- slot 76
            intro ac wk hx hsame hdep K hK
            have d75 : ac.tmps.getD 75 undef = .bool true := hdep 22 (by kernel_rfl)
            have e75 := d75
            rw [Array.getD_eq_getD_getElem?] at e75
            clear hsame hdep
            go_simp
            exact hK _ _ (Ext.refl _ wk) rfl
          · -- slot 77
            intro ac wk hx hsame hdep K hK
            have d12 : ac.tmps.getD 12 undef = .bool true := hsame 12 (by kernel_rfl)
            have e12 := d12
            rw [Array.getD_eq_getD_getElem?] at e12
            clear hsame hdep
            go_simp
            exact hK _ _ (Ext.refl _ wk) rfl
          · -- slot 78
            intro ac wk hx hsame hdep K hK
            have d77 : ac.tmps.getD 77 undef = .bool true := hdep 24 (by kernel_rfl)
            have e77 := d77
            rw [Array.getD_eq_getD_getElem?] at e77
            clear hsame hdep
            go_simp
            exact hK _ _ (Ext.refl _ wk) rfl
          · -- slot 81
            intro ac wk hx hsame hdep K hK
            have d78 : ac.tmps.getD 78 undef = .bool true := hdep 25 (by kernel_rfl)
            have e78 := d78
            rw [Array.getD_eq_getD_getElem?] at e78
            have d80 : ac.tmps.getD 80 undef = undef := hdep 27 (by kernel_rfl)
            have e80 := d80
            rw [Array.getD_eq_getD_getElem?] at e80
            clear hsame hdep
            go_simp
            exact hK _ _ (Ext.refl _ wk) rfl
          · -- slot 82
            intro ac wk hx hsame hdep K hK
            have d76 : ac.tmps.getD 76 undef = .bool true := hdep 23 (by kernel_rfl)
            have e76 := d76
            rw [Array.getD_eq_getD_getElem?] at e76
            have d81 : ac.tmps.getD 81 undef = .bool true := hdep 28 (by kernel_rfl)
            have e81 := d81
            rw [Array.getD_eq_getD_getElem?] at e81
            clear hsame hdep
            go_simp
            exact hK _ _ (Ext.refl _ wk) rfl
          · -- slot 83
            intro ac wk hx hsame hdep K hK
            have d82 : ac.tmps.getD 82 undef = .bool true := hdep 29 (by kernel_rfl)
            have e82 := d82
            rw [Array.getD_eq_getD_getElem?] at e82
            clear hsame hdep
            go_simp
            exact hK _ _ (Ext.refl _ wk) rfl
          · -- slot 84
            intro ac wk hx hsame hdep K hK
            have d6 : ac.tmps.getD 6 undef = .pointer (some ⟨b6, 0, none⟩) := hsame 6 (by kernel_rfl)
            have e6 := d6
            rw [Array.getD_eq_getD_getElem?] at e6
            clear hsame hdep
            have hz := HB6.out.drew.ext hx (fun s => s)
            have hc0 := hz.cell 0; have hc1 := hz.cell 1; have hc2 := hz.cell 2; have hc3 := hz.cell 3; have hc4 := hz.cell 4
            simp only [List.getElem?_toArray, List.getElem?_cons_succ, List.getElem?_cons_zero] at hc0 hc1 hc2 hc3 hc4
            clear hz
            go_simp
            exact hK _ _ (Ext.refl _ wk) rfl
          · -- slot 85
            intro ac wk hx hsame hdep K hK
            have d84 : ac.tmps.getD 84 undef = .agg #[.int .i64 acode1, .slice an6 nn6 cn6, .slice ag6 ng6 cg6, .bool adone1, .int .i64 an1] := hdep 31 (by kernel_rfl)
            have e84 := d84
            rw [Array.getD_eq_getD_getElem?] at e84
            clear hsame hdep
            go_simp
            refine (answer_flat acode1 adone1 an1 _ _ wk (slice_ex _ _ _) (slice_ex _ _ _)).mono ?_
            rintro e w' ⟨rfl, hx'⟩
            exact hK _ _ hx' rfl
          · -- slot 86
            intro ac wk hx hsame hdep K hK
            have d11 : ac.tmps.getD 11 undef = .pointer (some ⟨b11, 0, none⟩) := hsame 11 (by kernel_rfl)
            have e11 := d11
            rw [Array.getD_eq_getD_getElem?] at e11
            clear hsame hdep
            have hz := HB11.out.drew.ext hx (fun s => s)
            have hc0 := hz.cell 0; have hc1 := hz.cell 1; have hc2 := hz.cell 2; have hc3 := hz.cell 3; have hc4 := hz.cell 4
            simp only [List.getElem?_toArray, List.getElem?_cons_succ, List.getElem?_cons_zero] at hc0 hc1 hc2 hc3 hc4
            clear hz
            go_simp
            exact hK _ _ (Ext.refl _ wk) rfl
          · -- slot 87
            intro ac wk hx hsame hdep K hK
            have p85 : (ac.tmps.getD 85 undef) = .agg #[.int .i64 acode1, .slice an6 nn6 cn6, .slice ag6 ng6 cg6, .bool adone1, .int .i64 an1] := hdep 32 (by kernel_rfl)
            have d85 := p85
            have e85 := d85
            rw [Array.getD_eq_getD_getElem?] at e85
            have d86 : ac.tmps.getD 86 undef = .agg #[.int .i64 acode1, .slice an8 nn8 cn8, .slice ag8 ng8 cg8, .bool adone1, .int .i64 an1] := hdep 33 (by kernel_rfl)
            have e86 := d86
            rw [Array.getD_eq_getD_getElem?] at e86
            clear hsame hdep
            go_simp
            refine (alike_flat acode1 anames1 afiles1 adone1 an1 _ _ _ _ wk (HN6.out.ext0 (Dr.extN hx)) (HG6.out.ext0 (Dr.extN hx)) (HN8.out.ext0 (Dr.extN hx)) (HG8.out.ext0 (Dr.extN hx))).mono ?_
            rintro e w' ⟨hx', rfl⟩
            exact hK _ _ hx' rfl
          · -- slot 88
            intro ac wk hx hsame hdep K hK
            have d83 : ac.tmps.getD 83 undef = .bool true := hdep 30 (by kernel_rfl)
            have e83 := d83
            rw [Array.getD_eq_getD_getElem?] at e83
            have p87 : (ac.tmps.getD 87 undef) = .bool true := hdep 34 (by kernel_rfl)
            have d87 := p87
            have e87 := d87
            rw [Array.getD_eq_getD_getElem?] at e87
            clear hsame hdep
            go_simp
            exact hK _ _ (Ext.refl _ wk) rfl
          · intro ac wk hx hdf hsz hsame hvals
            obtain ⟨u0, f0⟩ : ∃ u, ac.tmps.getD 0 undef = u := ⟨_, rfl⟩
            obtain ⟨u1, f1⟩ : ∃ u, ac.tmps.getD 1 undef = u := ⟨_, rfl⟩
            obtain ⟨u2, f2⟩ : ∃ u, ac.tmps.getD 2 undef = u := ⟨_, rfl⟩
            obtain ⟨u3, f3⟩ : ∃ u, ac.tmps.getD 3 undef = u := ⟨_, rfl⟩
            have f4 : ac.tmps.getD 4 undef = .pointer (some ⟨b4, 0, none⟩) := hsame 4 (by kernel_rfl)
            have f5 : ac.tmps.getD 5 undef = .int .i64 0 := hsame 5 (by kernel_rfl)
            have f6 : ac.tmps.getD 6 undef = .pointer (some ⟨b6, 0, none⟩) := hsame 6 (by kernel_rfl)
            have f7 : ac.tmps.getD 7 undef = .int .i64 0 := hsame 7 (by kernel_rfl)
            obtain ⟨u8, f8⟩ : ∃ u, ac.tmps.getD 8 undef = u := ⟨_, rfl⟩
            have f9 : ac.tmps.getD 9 undef = .pointer (some ⟨b9, 0, none⟩) := hsame 9 (by kernel_rfl)
            have f10 : ac.tmps.getD 10 undef = .bool true := hsame 10 (by kernel_rfl)
            have f11 : ac.tmps.getD 11 undef = .pointer (some ⟨b11, 0, none⟩) := hsame 11 (by kernel_rfl)
            have f12 : ac.tmps.getD 12 undef = .bool true := hsame 12 (by kernel_rfl)
            obtain ⟨u13, f13⟩ : ∃ u, ac.tmps.getD 13 undef = u := ⟨_, rfl⟩
            obtain ⟨u14, f14⟩ : ∃ u, ac.tmps.getD 14 undef = u := ⟨_, rfl⟩
            obtain ⟨u15, f15⟩ : ∃ u, ac.tmps.getD 15 undef = u := ⟨_, rfl⟩
            obtain ⟨u16, f16⟩ : ∃ u, ac.tmps.getD 16 undef = u := ⟨_, rfl⟩
            obtain ⟨u17, f17⟩ : ∃ u, ac.tmps.getD 17 undef = u := ⟨_, rfl⟩
            obtain ⟨u18, f18⟩ : ∃ u, ac.tmps.getD 18 undef = u := ⟨_, rfl⟩
            obtain ⟨u19, f19⟩ : ∃ u, ac.tmps.getD 19 undef = u := ⟨_, rfl⟩
            obtain ⟨u20, f20⟩ : ∃ u, ac.tmps.getD 20 undef = u := ⟨_, rfl⟩
            obtain ⟨u21, f21⟩ : ∃ u, ac.tmps.getD 21 undef = u := ⟨_, rfl⟩
            obtain ⟨u22, f22⟩ : ∃ u, ac.tmps.getD 22 undef = u := ⟨_, rfl⟩
            obtain ⟨u23, f23⟩ : ∃ u, ac.tmps.getD 23 undef = u := ⟨_, rfl⟩
            obtain ⟨u24, f24⟩ : ∃ u, ac.tmps.getD 24 undef = u := ⟨_, rfl⟩
            obtain ⟨u25, f25⟩ : ∃ u, ac.tmps.getD 25 undef = u := ⟨_, rfl⟩
            obtain ⟨u26, f26⟩ : ∃ u, ac.tmps.getD 26 undef = u := ⟨_, rfl⟩
            obtain ⟨u27, f27⟩ : ∃ u, ac.tmps.getD 27 undef = u := ⟨_, rfl⟩
            obtain ⟨u28, f28⟩ : ∃ u, ac.tmps.getD 28 undef = u := ⟨_, rfl⟩
            obtain ⟨u29, f29⟩ : ∃ u, ac.tmps.getD 29 undef = u := ⟨_, rfl⟩
            obtain ⟨u30, f30⟩ : ∃ u, ac.tmps.getD 30 undef = u := ⟨_, rfl⟩
            obtain ⟨u31, f31⟩ : ∃ u, ac.tmps.getD 31 undef = u := ⟨_, rfl⟩
            obtain ⟨u32, f32⟩ : ∃ u, ac.tmps.getD 32 undef = u := ⟨_, rfl⟩
            obtain ⟨u33, f33⟩ : ∃ u, ac.tmps.getD 33 undef = u := ⟨_, rfl⟩
            obtain ⟨u34, f34⟩ : ∃ u, ac.tmps.getD 34 undef = u := ⟨_, rfl⟩
            obtain ⟨u35, f35⟩ : ∃ u, ac.tmps.getD 35 undef = u := ⟨_, rfl⟩
            obtain ⟨u36, f36⟩ : ∃ u, ac.tmps.getD 36 undef = u := ⟨_, rfl⟩
            obtain ⟨u37, f37⟩ : ∃ u, ac.tmps.getD 37 undef = u := ⟨_, rfl⟩
            obtain ⟨u38, f38⟩ : ∃ u, ac.tmps.getD 38 undef = u := ⟨_, rfl⟩
            obtain ⟨u39, f39⟩ : ∃ u, ac.tmps.getD 39 undef = u := ⟨_, rfl⟩
            obtain ⟨u40, f40⟩ : ∃ u, ac.tmps.getD 40 undef = u := ⟨_, rfl⟩
            obtain ⟨u41, f41⟩ : ∃ u, ac.tmps.getD 41 undef = u := ⟨_, rfl⟩
            obtain ⟨u42, f42⟩ : ∃ u, ac.tmps.getD 42 undef = u := ⟨_, rfl⟩
            obtain ⟨u43, f43⟩ : ∃ u, ac.tmps.getD 43 undef = u := ⟨_, rfl⟩
            obtain ⟨u44, f44⟩ : ∃ u, ac.tmps.getD 44 undef = u := ⟨_, rfl⟩
            obtain ⟨u45, f45⟩ : ∃ u, ac.tmps.getD 45 undef = u := ⟨_, rfl⟩
            obtain ⟨u46, f46⟩ : ∃ u, ac.tmps.getD 46 undef = u := ⟨_, rfl⟩
            obtain ⟨u47, f47⟩ : ∃ u, ac.tmps.getD 47 undef = u := ⟨_, rfl⟩
            obtain ⟨u48, f48⟩ : ∃ u, ac.tmps.getD 48 undef = u := ⟨_, rfl⟩
            obtain ⟨u49, f49⟩ : ∃ u, ac.tmps.getD 49 undef = u := ⟨_, rfl⟩
            obtain ⟨u50, f50⟩ : ∃ u, ac.tmps.getD 50 undef = u := ⟨_, rfl⟩
            obtain ⟨u51, f51⟩ : ∃ u, ac.tmps.getD 51 undef = u := ⟨_, rfl⟩
            obtain ⟨u52, f52⟩ : ∃ u, ac.tmps.getD 52 undef = u := ⟨_, rfl⟩
            have f53 : ac.tmps.getD 53 undef = .int .i64 0 := hvals 0 (by decide)
            have f54 : ac.tmps.getD 54 undef = .bool true := hvals 1 (by decide)
            have f55 : ac.tmps.getD 55 undef = .bool true := hvals 2 (by decide)
            have f56 : ac.tmps.getD 56 undef = .bool true := hvals 3 (by decide)
            have f57 : ac.tmps.getD 57 undef = .bool true := hvals 4 (by decide)
            have f58 : ac.tmps.getD 58 undef = .bool true := hvals 5 (by decide)
            have f59 : ac.tmps.getD 59 undef = .bool true := hvals 6 (by decide)
            have f60 : ac.tmps.getD 60 undef = undef := hvals 7 (by decide)
            have f61 : ac.tmps.getD 61 undef = undef := hvals 8 (by decide)
            have f62 : ac.tmps.getD 62 undef = .bool true := hvals 9 (by decide)
            have f63 : ac.tmps.getD 63 undef = .bool true := hvals 10 (by decide)
            have f64 : ac.tmps.getD 64 undef = .bool true := hvals 11 (by decide)
            have f65 : ac.tmps.getD 65 undef = .agg #[.int .i64 kind1, .int .i64 n1, .int .u64 (who1 : Nat), .bool flag1, .string (strB name1), .string (strB host1), .slice af4 nf4 cf4, .int .i64 last1, .int .i64 days1, .int .i64 day1, .int .i64 within1, .string (strB tag1), .slice ab4 nb4 cb4] := hvals 12 (by decide)
            obtain ⟨u66, f66⟩ : ∃ u, ac.tmps.getD 66 undef = u := ⟨_, rfl⟩
            have f67 : ac.tmps.getD 67 undef = .agg #[.int .i64 kind1, .int .i64 n1, .int .u64 (who1 : Nat), .bool flag1, .string (strB name1), .string (strB host1), .slice af9 nf9 cf9, .int .i64 last1, .int .i64 days1, .int .i64 day1, .int .i64 within1, .string (strB tag1), .slice ab9 nb9 cb9] := hvals 14 (by decide)
            obtain ⟨u68, f68⟩ : ∃ u, ac.tmps.getD 68 undef = u := ⟨_, rfl⟩
            have f69 : ac.tmps.getD 69 undef = .bool true := hvals 16 (by decide)
            have f70 : ac.tmps.getD 70 undef = .bool true := hvals 17 (by decide)
            have f71 : ac.tmps.getD 71 undef = .int .i64 0 := hvals 18 (by decide)
            have f72 : ac.tmps.getD 72 undef = .bool true := hvals 19 (by decide)
            have f73 : ac.tmps.getD 73 undef = .bool true := hvals 20 (by decide)
            have f74 : ac.tmps.getD 74 undef = .bool true := hvals 21 (by decide)
            have f75 : ac.tmps.getD 75 undef = .bool true := hvals 22 (by decide)
            have f76 : ac.tmps.getD 76 undef = .bool true := hvals 23 (by decide)
            have f77 : ac.tmps.getD 77 undef = .bool true := hvals 24 (by decide)
            have f78 : ac.tmps.getD 78 undef = .bool true := hvals 25 (by decide)
            have f79 : ac.tmps.getD 79 undef = undef := hvals 26 (by decide)
            have f80 : ac.tmps.getD 80 undef = undef := hvals 27 (by decide)
            have f81 : ac.tmps.getD 81 undef = .bool true := hvals 28 (by decide)
            have f82 : ac.tmps.getD 82 undef = .bool true := hvals 29 (by decide)
            have f83 : ac.tmps.getD 83 undef = .bool true := hvals 30 (by decide)
            have f84 : ac.tmps.getD 84 undef = .agg #[.int .i64 acode1, .slice an6 nn6 cn6, .slice ag6 ng6 cg6, .bool adone1, .int .i64 an1] := hvals 31 (by decide)
            obtain ⟨u85, f85⟩ : ∃ u, ac.tmps.getD 85 undef = u := ⟨_, rfl⟩
            have f86 : ac.tmps.getD 86 undef = .agg #[.int .i64 acode1, .slice an8 nn8 cn8, .slice ag8 ng8 cg8, .bool adone1, .int .i64 an1] := hvals 33 (by decide)
            obtain ⟨u87, f87⟩ : ∃ u, ac.tmps.getD 87 undef = u := ⟨_, rfl⟩
            have f88 : ac.tmps.getD 88 undef = .bool true := hvals 35 (by decide)
            have hlit : ac = ⟨#[u0, u1, u2, u3, .pointer (some ⟨b4, 0, none⟩), .int .i64 0, .pointer (some ⟨b6, 0, none⟩), .int .i64 0, u8, .pointer (some ⟨b9, 0, none⟩), .bool true, .pointer (some ⟨b11, 0, none⟩), .bool true, u13, u14, u15, u16, u17, u18, u19, u20, u21, u22, u23, u24, u25, u26, u27, u28, u29, u30, u31, u32, u33, u34, u35, u36, u37, u38, u39, u40, u41, u42, u43, u44, u45, u46, u47, u48, u49, u50, u51, u52, .int .i64 0, .bool true, .bool true, .bool true, .bool true, .bool true, .bool true, undef, undef, .bool true, .bool true, .bool true, .agg #[.int .i64 kind1, .int .i64 n1, .int .u64 (who1 : Nat), .bool flag1, .string (strB name1), .string (strB host1), .slice af4 nf4 cf4, .int .i64 last1, .int .i64 days1, .int .i64 day1, .int .i64 within1, .string (strB tag1), .slice ab4 nb4 cb4], u66, .agg #[.int .i64 kind1, .int .i64 n1, .int .u64 (who1 : Nat), .bool flag1, .string (strB name1), .string (strB host1), .slice af9 nf9 cf9, .int .i64 last1, .int .i64 days1, .int .i64 day1, .int .i64 within1, .string (strB tag1), .slice ab9 nb9 cb9], u68, .bool true, .bool true, .int .i64 0, .bool true, .bool true, .bool true, .bool true, .bool true, .bool true, .bool true, undef, undef, .bool true, .bool true, .bool true, .agg #[.int .i64 acode1, .slice an6 nn6 cn6, .slice ag6 ng6 cg6, .bool adone1, .int .i64 an1], u85, .agg #[.int .i64 acode1, .slice an8 nn8 cn8, .slice ag8 ng8 cg8, .bool adone1, .int .i64 an1], u87, .bool true], []⟩ := by
              refine (act_lit hsz hdf).trans ?_
              rw [show List.range _ = [0, 1, 2, 3, 4, 5, 6, 7, 8, 9, 10, 11, 12, 13, 14, 15, 16, 17, 18, 19, 20, 21, 22, 23, 24, 25, 26, 27, 28, 29, 30, 31, 32, 33, 34, 35, 36, 37, 38, 39, 40, 41, 42, 43, 44, 45, 46, 47, 48, 49, 50, 51, 52, 53, 54, 55, 56, 57, 58, 59, 60, 61, 62, 63, 64, 65, 66, 67, 68, 69, 70, 71, 72, 73, 74, 75, 76, 77, 78, 79, 80, 81, 82, 83, 84, 85, 86, 87, 88] from rfl]
              simp only [List.map_cons, List.map_nil, f0, f1, f2, f3, f4, f5, f6, f7, f8, f9, f10, f11, f12, f13, f14, f15, f16, f17, f18, f19, f20, f21, f22, f23, f24, f25, f26, f27, f28, f29, f30, f31, f32, f33, f34, f35, f36, f37, f38, f39, f40, f41, f42, f43, f44, f45, f46, f47, f48, f49, f50, f51, f52, f53, f54, f55, f56, f57, f58, f59, f60, f61, f62, f63, f64, f65, f66, f67, f68, f69, f70, f71, f72, f73, f74, f75, f76, f77, f78, f79, f80, f81, f82, f83, f84, f85, f86, f87, f88]
            clear hvals hsame hdf hsz f0 f1 f2 f3 f4 f5 f6 f7 f8 f9 f10 f11 f12 f13 f14 f15 f16 f17 f18 f19 f20 f21 f22 f23 f24 f25 f26 f27 f28 f29 f30 f31 f32 f33 f34 f35 f36 f37 f38 f39 f40 f41 f42 f43 f44 f45 f46 f47 f48 f49 f50 f51 f52 f53 f54 f55 f56 f57 f58 f59 f60 f61 f62 f63 f64 f65 f66 f67 f68 f69 f70 f71 f72 f73 f74 f75 f76 f77 f78 f79 f80 f81 f82 f83 f84 f85 f86 f87 f88
            subst hlit
            simp only [List.drop_succ_cons, List.drop_zero]
            go_wp2_with fail
            go_ret
            exact ⟨rfl, HX8.out.trans' hx⟩

end Go.Proofs.Ytchejnnfbinclaa
end

section
/-
  PROVED HERE: 'Rows.ScriptReadsSaid': of every input the law 'coldstorelaw29.ScriptReads' answers true, and each argument reads behind the call as it read before. No condition but the form's own.
-/
namespace Go.Proofs.Ytchejnnfbinclaa.scriptReads
open Go.ChangeShapes Go.WideShapes Go.ChangeAt Go.RowKit Go.My
open Go.ChangeMaps (open_string shut_string)
set_option linter.unusedVariables false

theorem own : ownKnob Try.prog.godebug = none := by kernel_rfl
theorem laidOut : laidOutB Try.prog = true := by kernel_rfl

set_option maxRecDepth 100000 in
theorem lifted (os : Os) (started : os.Started) (H : Type) (enc : TypeId × Value → H) :
    ReturnsInHanded {} Try.checked os 4 .any (Rows.scriptReadsSpec.pre6 enc Try.prog Try.f4 Rows.scriptReadsRow.domain false) (Rows.scriptReadsSpec.post enc Try.prog Try.f4 false true false false) := by
  refine returnsInHanded_of_change (C := Try.checked) own started (by kernel_rfl) Try.func4
    (ChangeSpec.witness6 (enc := enc) (C := Try.checked) false ⟨#[], #[.slice none 0 0], []⟩ 8 (by kernel_rfl) (by kernel_rfl) (by kernel_rfl) (by kernel_rfl)) ?_
  intro W base args ds gs before hval0 hW hcnd _
  have hval : ∀ (j : Nat) t v, Try.f4.params[j]? = some t → args[j]? = some v → Value.okWide Try.prog W .any base t v := hval0
  have hW' := hW
  obtain ⟨p, q, hA0, hV, rfl, hfz, hnd⟩ := hW
  have hA : DataW.TrodAll enc Try.prog W 0 (fun _ => true) true Try.f4.params.toList args.toList ds p := hA0
  rw [Try.params4] at hA hval
  obtain ⟨v0, vs0, d0, ds0, p0, q0, hargs, rfl, rfl, h0, r0⟩ := trodAll_cons hA
  obtain ⟨rfl, rfl, rfl⟩ := trodAll_nil r0
  obtain rfl : args = #[v0] := by cases args; simp_all
  obtain ⟨rfl, rfl⟩ := trodVars_none hV
  have k0 := h0
  have lt0 : ∀ x ∈ p0, x.block < W.heap.size := by obtain ⟨m, hm⟩ := k0; exact DataW.trod_lt m _ _ _ hm
  obtain ⟨a0, by0, nl0⟩ := op_bytesN Try.underlying31 Try.underlying5 (by kernel_rfl) (hval 0 31 v0 rfl rfl) h0
  clear hA0 hval0
  refine (scriptReads_fr a0 _ W by0 nl0).mono fun e W' ⟨he, ext⟩ => ?_
  subst he
  have bel := ext.below
  exact ⟨_, rfl, _, _, _, [], _, [], hW', trodAll_mk1 (shut_bool Try.underlying4 _), (trodAll_cons_mk (Below.trod laidOut (by kernel_rfl) (of_decide_eq_true (by kernel_rfl)) k0 bel lt0) trodAll_mk0), rfl, bel.frame _, fun h => by cases h⟩

theorem over : Rows.scriptReadsRow.holds Try.pinned (OpenSpec.ofChange Rows.scriptReadsSpec) :=
  OpenClaim.holds_of_wide 4 Try.f4 rfl rfl rfl rfl rfl rfl rfl ⟨rfl, rfl, rfl, rfl, rfl⟩ rfl rfl rfl rfl rfl (by kernel_rfl) Try.func4 (by kernel_rfl)
    (of_decide_eq_true (by kernel_rfl)) (by unfold Func.isWrapper; first | (rw [if_pos (by decide +kernel)]; kernel_rfl) | (rw [if_neg (by decide +kernel)]; exact ⟨rfl, rfl⟩))
    (fun os started H enc _ => lifted os started H enc)

/-- THE STATEMENT -/
theorem proved : Rows.ScriptReadsSaid := over
#print axioms proved
end Go.Proofs.Ytchejnnfbinclaa.scriptReads
end
