/-
  JOINED (8): the statements own helpers; plain laws: what is written is read, and back.
-/
import Derived.Test.YtchejnnfbinclaaZG
import Derived.Lib.SmallJoins
set_option linter.unusedVariables false
set_option linter.unusedSimpArgs false

section
/- The contracts of the helpers of chapter 29's statements: command, answer, brief. -/
namespace Go.Proofs.Ytchejnnfbinclaa
open Go.RowKit Go.My

set_option maxRecDepth 100000 in
set_option maxHeartbeats 4000000 in
theorem command_any (c : CmdI) (vf vb : Value) (w : World) (hf : ∃ a n c, vf = .slice a n c) (hb : ∃ a n c, vb = .slice a n c) :
    Calls Try.prog 14 #[cmdVal c vf vb] w fun e w' => e = .returned (cmdVal c vf vb) ∧ Ext No w w' := by
  obtain ⟨kind, n, who, flag, name, host, files, last, days, day, within, tag, bits⟩ := c
  obtain ⟨af, nf, cf, rfl⟩ := hf
  obtain ⟨ab, nb, cb, rfl⟩ := hb
  unfold cmdVal
  simp only
  go_enter Try.func14, Try.ntmps14
  go_wp2_with fail
  refine bodyPost_ret (v := .agg #[.int .i64 kind, .int .i64 n, .int .u64 (who : Nat), .bool flag, .string (strB name), .string (strB host), .slice af nf cf, .int .i64 last, .int .i64 days, .int .i64 day, .int .i64 within, .string (strB tag), .slice ab nb cb]) (by simp [results, Try.results14, go_sem]) rfl ?_
  exact ⟨rfl, ((Ext.refl No w).alloc _).alloc _⟩

set_option maxRecDepth 100000 in
set_option maxHeartbeats 4000000 in
theorem answer_any (a : AnsI) (vn vf : Value) (w : World) (hn : ∃ a n c, vn = .slice a n c) (hf : ∃ a n c, vf = .slice a n c) :
    Calls Try.prog 23 #[ansVal a vn vf] w fun e w' => e = .returned (ansVal a vn vf) ∧ Ext No w w' := by
  obtain ⟨code, names, files, done, n⟩ := a
  obtain ⟨an, nn, cn, rfl⟩ := hn
  obtain ⟨af, nf, cf, rfl⟩ := hf
  unfold ansVal
  simp only
  go_enter Try.func23, Try.ntmps23
  go_wp2_with fail
  refine bodyPost_ret (v := .agg #[.int .i64 code, .slice an nn cn, .slice af nf cf, .bool done, .int .i64 n]) (by simp [results, Try.results23, go_sem]) rfl ?_
  exact ⟨rfl, ((Ext.refl No w).alloc _).alloc _⟩

def BriefP (ls : List (List UInt8)) : Prop := (∀ i, i < ls.length → (ls.getD i []).length ≤ 100) ∧ ls.length ≤ 20
def BriefTold (ls : List (List UInt8)) (w : World) (e : Ending) (w' : World) : Prop := w = w' ∧ ∃ t, e = .returned (.bool t) ∧ (t = true ↔ BriefP ls)
set_option maxRecDepth 100000 in
set_option maxHeartbeats 4000000 in
theorem brief_any (ls : List (List UInt8)) (v : Value) (w : World) (h : IsRows w ls v) :
    Calls Try.prog 24 #[v] w (BriefTold ls w) := by
  obtain ⟨a, n, c, hvf, hn⟩ : ∃ a n c, v = .slice a n c ∧ n = ls.length := by obtain ⟨f, ⟨a, c, h, -⟩, -⟩ := h; exact ⟨a, _, c, h, rfl⟩
  subst hvf
  have hcc : n ≤ c ∧ c ≤ 9223372036854775807 := by obtain ⟨f, h, -⟩ := h; exact (IsRow.len h).2
  have H := Lib.hid h; have HN := Lib.hid hn
  clear h hn
  go_enter Try.func24, Try.ntmps24
  go_wp2_with fail
  go_loopw [7] (fun i wr => ∃ k : Nat, i = .int .i64 k ∧ k ≤ n ∧ wr = w ∧ ∀ j, j < k → (ls.getD j []).length ≤ 100) (fun i _ => n - (intOf i).toNat)
  case atStart => exact ⟨0, rfl, by omega, rfl, fun j hj => by omega⟩
  case round =>
    obtain ⟨k, rfl, hk, rfl, hall⟩ := hrel
    have HALL := Lib.hid hall; clear hall
    by_cases hlt : k < n
    · have hltI : (k : Int) < n := by omega
      obtain ⟨b, off, x, rfl, hcx, hxb⟩ := H.out.get k hlt
      obtain ⟨ax, nx, cx, hxf⟩ : ∃ a n c, x = .slice a n c := by obtain ⟨a, c, h, -⟩ := hxb; exact ⟨a, _, c, h⟩
      subst hxf
      have hnx := hxb.len
      have HNX := Lib.hid hnx
      clear hnx hxb
      by_cases hg : 100 < nx
      · have hgi : (100 : Int) < nx := by omega
        go_wp2_with fail
        go_ret
        refine ⟨rfl, false, rfl, ?_⟩
        simp only [Bool.false_eq_true, false_iff]
        intro hP
        have := hP.1 k (by have := HN.out; omega)
        have := HNX.out; omega
      · have hgi : decide ((100 : Int) < nx) = false := by simp; omega
        go_wp2_with fail
        go_roundw
        case rel => exact ⟨k + 1, by go_num, by omega, by trivial, fun j hj => by
          by_cases hjk : j = k
          · subst hjk; have := HNX.out; omega
          · exact HALL.out j (by omega)⟩
        case measure => simp [intOf]; omega
    · have hkn : k = n := by omega
      subst hkn
      by_cases hg : k ≤ 20
      · have hgi : (k : Int) ≤ 20 := by omega
        go_wp2_with fail
        go_ret
        refine ⟨rfl, true, by simp [Act.eval] <;> omega, ?_⟩
        simp only [true_iff]
        exact ⟨fun i hi => HALL.out i (by have := HN.out; omega), by have := HN.out; omega⟩
      · have hgi : decide ((k : Int) ≤ 20) = false := by simp; omega
        go_wp2_with fail
        go_ret
        refine ⟨rfl, false, by simp [Act.eval] <;> omega, ?_⟩
        simp only [Bool.false_eq_true, false_iff]
        intro hP
        have := hP.2
        have := HN.out; omega

end Go.Proofs.Ytchejnnfbinclaa
end

section
/- The contracts of the helpers of chapter 29's statements: small. -/
namespace Go.Proofs.Ytchejnnfbinclaa
open Go.RowKit Go.My

def okF (f : FileL) : Prop := f.1.length ≤ 130 ∧ (f.2.length ≤ 100 ∨ 65536 < f.2.length) ∧ f.2.length ≤ 65600
def SmallP (fs : List FileL) : Prop := (∀ i, i < fs.length → okF (fs.getD i ([], []))) ∧ (fs.length ≤ 12 ∨ 512 < fs.length ∧ fs.length ≤ 520)
def SmallTold (fs : List FileL) (w : World) (e : Ending) (w' : World) : Prop := Ext No w w' ∧ ∃ t, e = .returned (.bool t) ∧ (t = true ↔ SmallP fs)
set_option maxRecDepth 100000 in
set_option maxHeartbeats 4000000 in
theorem small_any (fs : List FileL) (v : Value) (w : World) (h : IsFiles w fs v) :
    Calls Try.prog 30 #[v] w (SmallTold fs w) := by
  obtain ⟨a, n, c, hvf⟩ : ∃ a n c, v = .slice a n c := by obtain ⟨a, c, h, -⟩ := h; exact ⟨a, _, c, h⟩
  subst hvf
  obtain ⟨hn, hcc⟩ := h.len
  have H := Lib.hid h; have HN := Lib.hid hn
  clear h hn
  go_enter Try.func30, Try.ntmps30
  go_wp2_with fail
  go_loopw [7] (fun i wr => ∃ k : Nat, i = .int .i64 k ∧ k ≤ n ∧ Ext No w wr ∧ ∀ j, j < k → okF (fs.getD j ([], []))) (fun i _ => n - (intOf i).toNat)
  case atStart => exact ⟨0, rfl, by omega, Ext.refl _ _, fun j hj => by omega⟩
  case round =>
    obtain ⟨k, rfl, hk, hx, hall⟩ := hrel
    have HALL := Lib.hid hall; have HX := Lib.hid hx; clear hall
    by_cases hlt : k < n
    · have hltI : (k : Int) < n := by omega
      obtain ⟨b, off, ax, nx, cx, rfl, hp, hd, -, -, hnx⟩ := (H.out.ext0 hx).get k hlt
      obtain ⟨f, hff⟩ : ∃ f, fs.getD k ([], []) = f := ⟨_, rfl⟩
      rw [hff] at hp hnx
      obtain ⟨path, data⟩ := f
      simp only at hp hnx
      have hps := strB_size path
      have HFE := Lib.hid hff; have HNX := Lib.hid hnx
      have HNO := Lib.hid (show ¬ okF (path, data) → ¬ SmallP fs from fun h1 h2 => h1 (by have := h2.1 k (by have := HN.out; omega); rw [hff] at this; exact this))
      clear hff hnx hx
      by_cases g1 : 130 < path.length
      · have g1i : (130 : Int) < path.length := by omega
        go_wp2_with fail
        go_ret
        exact And.intro (HX.out.alloc _) (Exists.intro false ⟨rfl, by simp only [Bool.false_eq_true, false_iff]; exact HNO.out (fun h => by have := h.1; dsimp only at this; omega)⟩)
      have g1i : decide ((130 : Int) < path.length) = false := by simp; omega
      have g1n : decide (130 < path.length) = false := by simp; omega
      by_cases g2 : 100 < nx ∧ nx ≤ 65536
      · have g2i : (100 : Int) < nx := by omega
        have g2j : (nx : Int) ≤ 65536 := by omega
        go_wp2_with fail
        go_ret
        exact And.intro (HX.out.alloc _) (Exists.intro false ⟨rfl, by simp only [Bool.false_eq_true, false_iff]; exact HNO.out (fun h => by have := h.2.1; dsimp only at this; have := HNX.out; omega)⟩)
      by_cases g3 : 65600 < nx
      · have g3i : (65600 : Int) < nx := by omega
        have g2i : (100 : Int) < nx := by omega
        have g2j : decide ((nx : Int) ≤ 65536) = false := by simp; omega
        have g2n : decide (nx ≤ 65536) = false := by simp; omega
        go_wp2_with fail
        go_ret
        exact And.intro (HX.out.alloc _) (Exists.intro false ⟨rfl, by simp only [Bool.false_eq_true, false_iff]; exact HNO.out (fun h => by have := h.2.2; dsimp only at this; have := HNX.out; omega)⟩)
      have HOK := Lib.hid (show okF (path, data) from ⟨by dsimp only; omega, by dsimp only; have := HNX.out; omega, by dsimp only; have := HNX.out; omega⟩)
      have g3i : decide ((65600 : Int) < nx) = false := by simp; omega
      have g3n : decide (65600 < nx) = false := by simp; omega
      have hrel2 : ∀ j, j < k + 1 → okF (fs.getD j ([], [])) := fun j hj => by
        by_cases hjk : j = k
        · subst hjk; rw [HFE.out]; exact HOK.out
        · exact HALL.out j (by omega)
      have HR2 := Lib.hid hrel2; clear hrel2
      by_cases g4 : 100 < nx
      · have g4i : (100 : Int) < nx := by omega
        have g4j : decide ((nx : Int) ≤ 65536) = false := by simp; omega
        have g4n : decide (nx ≤ 65536) = false := by simp; omega
        go_wp2_with fail
        go_roundw
        case rel => exact ⟨k + 1, by go_num, by omega, HX.out.alloc _, HR2.out⟩
        case measure => simp [intOf]; omega
      · have g4i : decide ((100 : Int) < nx) = false := by simp; omega
        have g4n : decide (100 < nx) = false := by simp; omega
        go_wp2_with fail
        go_roundw
        case rel => exact ⟨k + 1, by go_num, by omega, HX.out.alloc _, HR2.out⟩
        case measure => simp [intOf]; omega
    · have hkn : k = n := by omega
      subst hkn
      have HA2 := Lib.hid (show ∀ i, i < fs.length → okF (fs.getD i ([], [])) from fun i hi => HALL.out i (by have := HN.out; omega))
      by_cases g1 : k ≤ 12
      · have g1i : (k : Int) ≤ 12 := by omega
        go_wp2_with fail
        go_ret
        exact And.intro HX.out (Exists.intro true ⟨by simp [Act.eval] <;> omega, by simp only [true_iff]; exact ⟨HA2.out, .inl (by have := HN.out; omega)⟩⟩)
      have g1i : decide ((k : Int) ≤ 12) = false := by simp; omega
      have g1n : decide (k ≤ 12) = false := by simp; omega
      by_cases g2 : 512 < k ∧ k ≤ 520
      · have g2i : (512 : Int) < k := by omega
        have g2j : (k : Int) ≤ 520 := by omega
        go_wp2_with fail
        go_ret
        exact And.intro HX.out (Exists.intro true ⟨by simp [Act.eval] <;> omega, by simp only [true_iff]; exact ⟨HA2.out, .inr (by have := HN.out; omega)⟩⟩)
      have HNO := Lib.hid (show ¬ SmallP fs from fun h => by have := h.2; have := HN.out; omega)
      by_cases g3 : 512 < k
      · have g3i : (512 : Int) < k := by omega
        have g3j : decide ((k : Int) ≤ 520) = false := by simp; omega
        have g3n : decide (k ≤ 520) = false := by simp; omega
        go_wp2_with fail
        go_ret
        exact And.intro HX.out (Exists.intro false ⟨by simp [Act.eval] <;> omega, by simp only [Bool.false_eq_true, false_iff]; exact HNO.out⟩)
      · have g3i : decide ((512 : Int) < k) = false := by simp; omega
        have g3n : decide (512 < k) = false := by simp; omega
        go_wp2_with fail
        go_ret
        exact And.intro HX.out (Exists.intro false ⟨by simp [Act.eval] <;> omega, by simp only [Bool.false_eq_true, false_iff]; exact HNO.out⟩)

end Go.Proofs.Ytchejnnfbinclaa
end

section
/- The contract of the helper few of chapter 29's statements. Printed by wip/mkfew.py. -/
namespace Go.Proofs.Ytchejnnfbinclaa
open Go.RowKit Go.My

def FewP (c : CmdI) : Prop := SmallP c.files ∧ (c.bits.length ≤ 40 ∨ 512 < c.bits.length ∧ c.bits.length ≤ 520) ∧ c.name.length ≤ 130 ∧ c.host.length ≤ 130 ∧ c.tag.length ≤ 130
def FewTold (c : CmdI) (w : World) (e : Ending) (w' : World) : Prop := Ext No w w' ∧ ∃ t, e = .returned (.bool t) ∧ (t = true ↔ FewP c)
set_option maxRecDepth 100000 in
set_option maxHeartbeats 8000000 in
theorem few29_any (c : CmdI) (vf vb : Value) (w : World) (hf : IsFiles w c.files vf) (hb : IsBools w c.bits vb) :
    Calls Try.prog 11 #[cmdVal c vf vb] w (FewTold c w) := by
  obtain ⟨P, hP⟩ : ∃ P, P = FewP c := ⟨_, rfl⟩
  have hT : ∀ (t : Bool) w', Ext No w w' → (t = true ↔ FewP c) → FewTold c w (.returned (.bool t)) w' := fun t w' h1 h2 => ⟨h1, t, rfl, h2⟩
  have HT := Lib.hid hT; clear hT
  have HP := Lib.hid (show FewP c ↔ SmallP c.files ∧ (c.bits.length ≤ 40 ∨ 512 < c.bits.length ∧ c.bits.length ≤ 520) ∧ c.name.length ≤ 130 ∧ c.host.length ≤ 130 ∧ c.tag.length ≤ 130 from Iff.rfl)
  clear hP
  obtain ⟨kind, n, who, flag, name, host, files, last, days, day, within, tag, bits⟩ := c
  dsimp only at hf hb HP
  obtain ⟨af, nf, cf, hvf⟩ : ∃ a n c, vf = .slice a n c := by obtain ⟨a, c, h, -⟩ := hf; exact ⟨a, _, c, h⟩
  obtain ⟨ab, nb, cb, hvb⟩ : ∃ a n c, vb = .slice a n c := by obtain ⟨a, c, h, -⟩ := hb; exact ⟨a, _, c, h⟩
  subst hvf; subst hvb
  have HNB := Lib.hid (IsRow.len hb).1
  unfold cmdVal
  simp only
  obtain ⟨w0, hw0⟩ : ∃ w0, w.alloc (.cells #[.int .i64 kind, .int .i64 n, .int .u64 (who : Nat), .bool flag, .string (strB name), .string (strB host), .slice af nf cf, .int .i64 last, .int .i64 days, .int .i64 day, .int .i64 within, .string (strB tag), .slice ab nb cb] 28) = w0 := ⟨_, rfl⟩
  have hx0 : Ext No w w0 := by rw [← hw0]; exact (Ext.refl No w).alloc _
  have hb0 := Blk.new w #[.int .i64 kind, .int .i64 n, .int .u64 (who : Nat), .bool flag, .string (strB name), .string (strB host), .slice af nf cf, .int .i64 last, .int .i64 days, .int .i64 day, .int .i64 within, .string (strB tag), .slice ab nb cb] 28
  rw [hw0] at hb0
  obtain ⟨pb, hpb⟩ : ∃ pb, w.heap.size = pb := ⟨_, rfl⟩
  rw [hpb] at hb0
  have HF := Lib.hid (hf.ext0 hx0); have HX0 := Lib.hid hx0; have HB0 := Lib.hid hb0; have HW0 := Lib.hid hw0; have HPB := Lib.hid hpb
  clear hf hb hx0 hb0 hw0 hpb
  have hs1 := strB_size name; have hs2 := strB_size host; have hs3 := strB_size tag
  go_enter Try.func11, Try.ntmps11
  go_wp2_with fail
  rw [HW0.out, HPB.out]
  refine (small_any files _ w0 HF.out).mono ?_
  rintro e w1 ⟨hx1, t, rfl, ht⟩
  have hb1 := HB0.out.ext hx1 (fun s => s)
  have hc8 := hb1.cell 12; have hc4 := hb1.cell 4; have hc5 := hb1.cell 5; have hc11 := hb1.cell 11
  simp only [List.getElem?_toArray, List.getElem?_cons_zero, List.getElem?_cons_succ] at hc8 hc4 hc5 hc11
  have HX := Lib.hid (HX0.out.trans' hx1); have HTT := Lib.hid ht
  clear hx1 hb1 ht
  dsimp only
  cases t
  · go_wp2_with fail
    go_ret
    exact HT.out false _ HX.out (by rw [HP.out]; simp only [Bool.false_eq_true, false_iff]; intro h; have := HTT.out.2 h.1; cases this)
  by_cases b1 : nb ≤ 40
  · have b1i : (nb : Int) ≤ 40 := by omega
    by_cases g0 : 130 < name.length
    · have gi : decide ((name.length : Int) ≤ 130) = false := by simp; omega
      have gn : decide (name.length ≤ 130) = false := by simp; omega
      go_wp2_with fail
      go_ret
      exact HT.out false _ HX.out (by rw [HP.out]; simp only [Bool.false_eq_true, false_iff]; intro h; have := h.2.2.1; omega)
    have gi0 : (name.length : Int) ≤ 130 := by omega
    by_cases g1 : 130 < host.length
    · have gi : decide ((host.length : Int) ≤ 130) = false := by simp; omega
      have gn : decide (host.length ≤ 130) = false := by simp; omega
      go_wp2_with fail
      go_ret
      exact HT.out false _ HX.out (by rw [HP.out]; simp only [Bool.false_eq_true, false_iff]; intro h; have := h.2.2.2.1; omega)
    have gi1 : (host.length : Int) ≤ 130 := by omega
    by_cases g2 : 130 < tag.length
    · have gi : decide ((tag.length : Int) ≤ 130) = false := by simp; omega
      have gn : decide (tag.length ≤ 130) = false := by simp; omega
      go_wp2_with fail
      go_ret
      exact HT.out false _ HX.out (by rw [HP.out]; simp only [Bool.false_eq_true, false_iff]; intro h; have := h.2.2.2.2; omega)
    have gi2 : (tag.length : Int) ≤ 130 := by omega
    go_wp2_with fail
    go_ret
    exact HT.out true _ HX.out (by rw [HP.out]; simp only [true_iff]; exact ⟨HTT.out.1 (by trivial), by have := HNB.out; omega, by omega, by omega, by omega⟩)
  have b1i : decide ((nb : Int) ≤ 40) = false := by simp; omega
  have b1n : decide (nb ≤ 40) = false := by simp; omega
  by_cases b2 : 512 < nb
  · have b2i : (512 : Int) < nb := by omega
    by_cases b3 : nb ≤ 520
    · have b3i : (nb : Int) ≤ 520 := by omega
      by_cases g0 : 130 < name.length
      · have gi : decide ((name.length : Int) ≤ 130) = false := by simp; omega
        have gn : decide (name.length ≤ 130) = false := by simp; omega
        go_wp2_with fail
        go_ret
        exact HT.out false _ HX.out (by rw [HP.out]; simp only [Bool.false_eq_true, false_iff]; intro h; have := h.2.2.1; omega)
      have gi0 : (name.length : Int) ≤ 130 := by omega
      by_cases g1 : 130 < host.length
      · have gi : decide ((host.length : Int) ≤ 130) = false := by simp; omega
        have gn : decide (host.length ≤ 130) = false := by simp; omega
        go_wp2_with fail
        go_ret
        exact HT.out false _ HX.out (by rw [HP.out]; simp only [Bool.false_eq_true, false_iff]; intro h; have := h.2.2.2.1; omega)
      have gi1 : (host.length : Int) ≤ 130 := by omega
      by_cases g2 : 130 < tag.length
      · have gi : decide ((tag.length : Int) ≤ 130) = false := by simp; omega
        have gn : decide (tag.length ≤ 130) = false := by simp; omega
        go_wp2_with fail
        go_ret
        exact HT.out false _ HX.out (by rw [HP.out]; simp only [Bool.false_eq_true, false_iff]; intro h; have := h.2.2.2.2; omega)
      have gi2 : (tag.length : Int) ≤ 130 := by omega
      go_wp2_with fail
      go_ret
      exact HT.out true _ HX.out (by rw [HP.out]; simp only [true_iff]; exact ⟨HTT.out.1 (by trivial), by have := HNB.out; omega, by omega, by omega, by omega⟩)
    · have b3i : decide ((nb : Int) ≤ 520) = false := by simp; omega
      have b3n : decide (nb ≤ 520) = false := by simp; omega
      go_wp2_with fail
      go_ret
      exact HT.out false _ HX.out (by rw [HP.out]; simp only [Bool.false_eq_true, false_iff]; intro h; have := h.2.1; have := HNB.out; omega)
  · have b2i : decide ((512 : Int) < nb) = false := by simp; omega
    have b2n : decide (512 < nb) = false := by simp; omega
    go_wp2_with fail
    go_ret
    exact HT.out false _ HX.out (by rw [HP.out]; simp only [Bool.false_eq_true, false_iff]; intro h; have := h.2.1; have := HNB.out; omega)

end Go.Proofs.Ytchejnnfbinclaa
end

section
/- Plain laws of chapter 29: what is written is read, and back. No walk. -/
namespace Go.Proofs.Ytchejnnfbinclaa
open Go.RowKit Go.My

theorem numP_inv {k n : Nat} {l r : List UInt8} (h : numP k l = some (n, r)) : l = numB n k ++ r ∧ n < 256 ^ k := by
  unfold numP at h
  by_cases hk : k ≤ l.length
  · rw [if_pos hk] at h
    simp only [Option.some.injEq, Prod.mk.injEq] at h
    obtain ⟨rfl, rfl⟩ := h
    have hl : (l.take k).length = k := by rw [List.length_take]; omega
    have h1 := numB_getN (l.take k)
    rw [hl] at h1
    have h2 := getN_lt (l.take k)
    rw [hl] at h2
    exact ⟨by rw [h1, List.take_append_drop], h2⟩
  · rw [if_neg hk] at h; cases h
theorem isP_append (b : Bool) (r : List UInt8) : isP (numB (flagN b) 1 ++ r) = some (b, r) := by
  unfold isP
  rw [numP_append]
  cases b <;> rfl
theorem isP_inv {b : Bool} {l r : List UInt8} (h : isP l = some (b, r)) : l = numB (flagN b) 1 ++ r := by
  unfold isP at h
  cases hn : numP 1 l with
  | none => rw [hn] at h; cases h
  | some nr =>
    obtain ⟨n, r0⟩ := nr
    rw [hn] at h
    dsimp only at h
    split at h
    · rename_i hle
      simp only [Option.some.injEq, Prod.mk.injEq] at h
      obtain ⟨rfl, rfl⟩ := h
      have := (numP_inv hn).1
      have hc : n = 0 ∨ n = 1 := by omega
      rcases hc with rfl | rfl
      · exact this
      · exact this
    · cases h
theorem bitsP_append (bs : List Bool) (r : List UInt8) : bitsP bs.length (bitsB bs ++ r) = some (bs, r) := by
  induction bs with
  | nil => rfl
  | cons b bs ih =>
    have e : bitsB (b :: bs) ++ r = numB (flagN b) 1 ++ (bitsB bs ++ r) := by unfold bitsB; simp
    rw [List.length_cons, bitsP_succ, e, isP_append]
    dsimp only
    rw [ih]; rfl
theorem bitsP_inv : ∀ (n : Nat) (l r : List UInt8) (bs : List Bool), bitsP n l = some (bs, r) → l = bitsB bs ++ r ∧ bs.length = n := by
  intro n
  induction n with
  | zero => intro l r bs h; rw [bitsP_zero] at h; cases h; exact ⟨rfl, rfl⟩
  | succ n ih =>
    intro l r bs h
    rw [bitsP_succ] at h
    cases hp : isP l with
    | none => rw [hp] at h; cases h
    | some tr =>
      obtain ⟨t, q⟩ := tr
      rw [hp] at h
      dsimp only at h
      cases hb : bitsP n q with
      | none => rw [hb] at h; cases h
      | some z =>
        obtain ⟨cs, q2⟩ := z
        rw [hb] at h
        simp only [Option.map_some, Option.some.injEq, Prod.mk.injEq] at h
        obtain ⟨rfl, rfl⟩ := h
        obtain ⟨h1, h2⟩ := ih q q2 cs hb
        refine ⟨?_, by rw [List.length_cons, h2]⟩
        rw [isP_inv hp, h1]; unfold bitsB; simp
def fitF (most : Nat) (f : FileL) : Prop := f.1.length ≤ 120 ∧ f.2.length ≤ most
theorem filesP_append (most : Nat) (hm : most < 4294967296) (fs : List FileL) (r : List UInt8) (h : ∀ f ∈ fs, fitF most f) : filesP most fs.length ((fs.map fileB).flatten ++ r) = some (fs, r) := by
  induction fs with
  | nil => rfl
  | cons f fs ih =>
    have h1 := h f (List.mem_cons_self ..)
    unfold fitF at h1
    have e : ((f :: fs).map fileB).flatten ++ r = bytesB f.1 ++ (bytesB f.2 ++ ((fs.map fileB).flatten ++ r)) := by simp [fileB]
    rw [List.length_cons, filesP_succ, e, bytesP_append _ _ _ h1.1 (by omega)]
    dsimp only
    rw [bytesP_append _ _ _ h1.2 (by omega)]
    dsimp only
    rw [ih (fun g hg => h g (List.mem_cons_of_mem _ hg))]; rfl
theorem filesP_inv (most : Nat) : ∀ (n : Nat) (l r : List UInt8) (fs : List FileL), filesP most n l = some (fs, r) → l = (fs.map fileB).flatten ++ r ∧ fs.length = n ∧ ∀ f ∈ fs, fitF most f := by
  intro n
  induction n with
  | zero => intro l r fs h; rw [filesP_zero] at h; cases h; exact ⟨rfl, rfl, fun f hf => by cases hf⟩
  | succ n ih =>
    intro l r fs h
    rw [filesP_succ] at h
    cases hp : bytesP 120 l with
    | none => rw [hp] at h; cases h
    | some pr =>
      obtain ⟨p, q⟩ := pr
      rw [hp] at h
      dsimp only at h
      cases hd : bytesP most q with
      | none => rw [hd] at h; cases h
      | some dq =>
        obtain ⟨d, q2⟩ := dq
        rw [hd] at h
        dsimp only at h
        cases hf : filesP most n q2 with
        | none => rw [hf] at h; cases h
        | some z =>
          obtain ⟨gs, q3⟩ := z
          rw [hf] at h
          simp only [Option.map_some, Option.some.injEq, Prod.mk.injEq] at h
          obtain ⟨rfl, rfl⟩ := h
          obtain ⟨h1, h2, h3⟩ := ih q2 q3 gs hf
          obtain ⟨p1, p2, -⟩ := bytesP_some hp
          obtain ⟨d1, d2, -⟩ := bytesP_some hd
          refine ⟨by rw [p1, d1, h1]; simp [fileB], by rw [List.length_cons, h2], fun f hf => ?_⟩
          rcases List.mem_cons.1 hf with rfl | hf
          · exact ⟨p2, d2⟩
          · exact h3 f hf
theorem getP_append (most : Nat) (hm : most < 4294967296) (fs : List FileL) (r : List UInt8) (h : ∀ f ∈ fs, fitF most f) (hl : fs.length ≤ 512) : getP most (filesB fs ++ r) = some (fs, r) := by
  unfold getP filesB
  rw [List.append_assoc, numP_append]
  dsimp only
  rw [Nat.mod_eq_of_lt (by omega), filesP_append most hm fs r h]
  dsimp only
  rw [if_pos hl]
theorem getP_inv {most : Nat} {l r : List UInt8} {fs : List FileL} (h : getP most l = some (fs, r)) : l = filesB fs ++ r ∧ fs.length ≤ 512 ∧ ∀ f ∈ fs, fitF most f := by
  unfold getP at h
  cases hn : numP 4 l with
  | none => rw [hn] at h; cases h
  | some nr =>
    obtain ⟨n, q⟩ := nr
    rw [hn] at h
    dsimp only at h
    cases hf : filesP most n q with
    | none => rw [hf] at h; cases h
    | some z =>
      obtain ⟨gs, q2⟩ := z
      rw [hf] at h
      dsimp only at h
      split at h
      · rename_i hle
        simp only [Option.some.injEq, Prod.mk.injEq] at h
        obtain ⟨rfl, rfl⟩ := h
        obtain ⟨h1, h2, h3⟩ := filesP_inv most n q q2 gs hf
        refine ⟨?_, hle, h3⟩
        rw [(numP_inv hn).1, h1]; unfold filesB; rw [h2, List.append_assoc]
      · cases h

end Go.Proofs.Ytchejnnfbinclaa
end

section
/- Plain laws of chapter 29: commands are told back. No walk. -/
namespace Go.Proofs.Ytchejnnfbinclaa
open Go.RowKit Go.My

def I64 (v : Int) : Prop := -9223372036854775808 ≤ v ∧ v ≤ 9223372036854775807
theorem wrap64_u64N {v : Int} (h : I64 v) : wrap64 ((u64N v : Nat) : Int) = v := by
  unfold I64 at h
  unfold wrap64 u64N
  omega
theorem u64N_wrap64 {n : Nat} (h : n < 18446744073709551616) : u64N (wrap64 (n : Int)) = n := by
  unfold wrap64 u64N
  omega
theorem wrap64_small {n : Nat} (h : n < 9223372036854775808) : wrap64 (n : Int) = n := by
  unfold wrap64; omega
theorem wrap64_I64 (n : Int) : I64 (wrap64 n) := by
  unfold I64 wrap64; omega
theorem u64N_small {v : Int} (h0 : 0 ≤ v) (h : v < 18446744073709551616) : u64N v = v.toNat := by
  unfold u64N; omega

/-- what a right command keeps to -/
structure CmdOk (c : CmdI) : Prop where
  kind : 0 ≤ c.kind ∧ c.kind ≤ 255
  last : 0 ≤ c.last ∧ c.last ≤ 2147483647
  days : 0 ≤ c.days ∧ c.days ≤ 2147483647
  name : c.name.length ≤ 120
  host : c.host.length ≤ 120
  tag : c.tag.length ≤ 120
  bits : c.bits.length ≤ 512
  files : c.files.length ≤ 512
  each : ∀ f ∈ c.files, fitF 65536 f
theorem checkN_ok (c : CmdI) : checkN c = 0 ↔ CmdOk c := by
  have hbad : c.files.any badF = false ↔ ∀ f ∈ c.files, fitF 65536 f := by
    rw [List.any_eq_false]
    constructor
    · intro h f hf
      have := h f hf
      unfold badF at this
      simp only [Bool.or_eq_true, decide_eq_true_eq, not_or] at this
      exact ⟨by omega, by omega⟩
    · intro h f hf
      have := h f hf
      unfold fitF at this
      unfold badF
      simp only [Bool.or_eq_true, decide_eq_true_eq, not_or]
      exact ⟨by omega, by omega⟩
  constructor
  · intro h
    unfold checkN at h
    by_cases h1 : c.kind < 0 ∨ 255 < c.kind
    · rw [if_pos h1] at h; cases h
    rw [if_neg h1] at h
    by_cases h2 : c.last < 0 ∨ 2147483647 < c.last
    · rw [if_pos h2] at h; cases h
    rw [if_neg h2] at h
    by_cases h3 : c.days < 0 ∨ 2147483647 < c.days
    · rw [if_pos h3] at h; cases h
    rw [if_neg h3] at h
    by_cases h4 : 120 < c.name.length
    · rw [if_pos h4] at h; cases h
    rw [if_neg h4] at h
    by_cases h5 : 120 < c.host.length
    · rw [if_pos h5] at h; cases h
    rw [if_neg h5] at h
    by_cases h6 : 120 < c.tag.length
    · rw [if_pos h6] at h; cases h
    rw [if_neg h6] at h
    by_cases h7 : 512 < c.bits.length
    · rw [if_pos h7] at h; cases h
    rw [if_neg h7] at h
    by_cases h8 : 512 < c.files.length
    · rw [if_pos h8] at h; cases h
    rw [if_neg h8] at h
    by_cases h9 : c.files.any badF = true
    · rw [if_pos h9] at h; cases h
    exact ⟨by omega, by omega, by omega, by omega, by omega, by omega, by omega, by omega, hbad.1 (by simpa using h9)⟩
  · intro h
    unfold checkN
    have h1 := h.kind; have h2 := h.last; have h3 := h.days
    rw [if_neg (by omega), if_neg (by omega), if_neg (by omega), if_neg (by have := h.name; omega), if_neg (by have := h.host; omega), if_neg (by have := h.tag; omega), if_neg (by have := h.bits; omega), if_neg (by have := h.files; omega), if_neg (by rw [hbad.2 h.each]; decide)]

/-- the numbers fit their fields -/
structure CmdFit (c : CmdI) : Prop where
  who : c.who < 18446744073709551616
  n : I64 c.n
  day : I64 c.day
  within : I64 c.within

theorem dec0_append (c : CmdI) (hk : CmdOk c) (hf : CmdFit c) (r : List UInt8) : dec0 (cmdB c ++ r) = some (c, r) := by
  have hck := (checkN_ok c).2 hk
  obtain ⟨kind, n, who, flag, name, host, files, last, days, day, within, tag, bits⟩ := c
  have h1 := hk.kind; have h2 := hk.last; have h3 := hk.days; have h4 := hk.name; have h5 := hk.host; have h6 := hk.tag; have h7 := hk.bits; have h8 := hk.files; have h9 := hk.each
  have f1 := hf.who; have f2 := hf.n; have f3 := hf.day; have f4 := hf.within
  dsimp only at h1 h2 h3 h4 h5 h6 h7 h8 h9 f1 f2 f3 f4
  unfold cmdB
  simp only [List.append_assoc]
  rw [dec0_some (numP_append _ _ _), dec1_some _ (isP_append _ _), dec2_some _ _ (numP_append _ _ _), dec3_some _ _ _ (numP_append _ _ _), dec4_some _ _ _ _ (bytesP_append _ _ _ h4 (by omega)), dec5_some _ _ _ _ _ (bytesP_append _ _ _ h5 (by omega)),
    dec6_some _ _ _ _ _ _ (numP_append _ _ _), dec7_some _ _ _ _ _ _ _ (numP_append _ _ _), dec8_some _ _ _ _ _ _ _ _ (numP_append _ _ _), dec9_some _ _ _ _ _ _ _ _ _ (numP_append _ _ _), dec10_some _ _ _ _ _ _ _ _ _ _ (bytesP_append _ _ _ h6 (by omega)), dec11_some _ _ _ _ _ _ _ _ _ _ _ (numP_append _ _ _)]
  unfold dec12
  rw [show bits.length % 256 ^ 4 = bits.length from Nat.mod_eq_of_lt (by omega), bitsP_append, Option.bind_some]
  rw [decFin_some _ _ _ _ _ _ _ _ _ _ _ _ (getP_append 65536 (by decide) files r h9 h8)]
  have e1 : u64N kind % 256 ^ 1 = kind.toNat := by rw [u64N_small (by omega) (by omega)]; omega
  have e2 : u64N last % 256 ^ 4 = last.toNat := by rw [u64N_small (by omega) (by omega)]; omega
  have e3 : u64N days % 256 ^ 4 = days.toNat := by rw [u64N_small (by omega) (by omega)]; omega
  have e4 : who % 256 ^ 8 = who := Nat.mod_eq_of_lt (by omega)
  have e5 : ∀ v, u64N v % 256 ^ 8 = u64N v := fun v => Nat.mod_eq_of_lt (by have := u64N_lt v; omega)
  rw [e1, e2, e3, e4, e5, e5, e5]
  have hc : decCmd kind.toNat flag who (u64N n) name host last.toNat days.toNat (u64N day) (u64N within) tag bits files = ⟨kind, n, who, flag, name, host, files, last, days, day, within, tag, bits⟩ := by
    unfold decCmd
    rw [wrap64_u64N f2, wrap64_u64N f3, wrap64_u64N f4, wrap64_small (n := kind.toNat) (by omega), wrap64_small (n := last.toNat) (by omega), wrap64_small (n := days.toNat) (by omega), Int.toNat_of_nonneg h1.1, Int.toNat_of_nonneg h2.1, Int.toNat_of_nonneg h3.1]
  rw [hc, decGo_eq hck, if_pos rfl]

theorem dec0_inv {l r : List UInt8} {c : CmdI} (h : dec0 l = some (c, r)) : l = cmdB c ++ r ∧ CmdOk c ∧ CmdFit c := by
  cases p0 : numP 1 l with
  | none => rw [dec0_none  p0] at h; cases h
  | some x0 =>
  obtain ⟨kind, l1⟩ := x0
  rw [dec0_some  p0] at h
  cases p1 : isP l1 with
  | none => rw [dec1_none kind p1] at h; cases h
  | some x1 =>
  obtain ⟨mark, l2⟩ := x1
  rw [dec1_some kind p1] at h
  cases p2 : numP 8 l2 with
  | none => rw [dec2_none kind mark p2] at h; cases h
  | some x2 =>
  obtain ⟨who, l3⟩ := x2
  rw [dec2_some kind mark p2] at h
  cases p3 : numP 8 l3 with
  | none => rw [dec3_none kind mark who p3] at h; cases h
  | some x3 =>
  obtain ⟨n, l4⟩ := x3
  rw [dec3_some kind mark who p3] at h
  cases p4 : bytesP 120 l4 with
  | none => rw [dec4_none kind mark who n p4] at h; cases h
  | some x4 =>
  obtain ⟨name, l5⟩ := x4
  rw [dec4_some kind mark who n p4] at h
  cases p5 : bytesP 120 l5 with
  | none => rw [dec5_none kind mark who n name p5] at h; cases h
  | some x5 =>
  obtain ⟨host, l6⟩ := x5
  rw [dec5_some kind mark who n name p5] at h
  cases p6 : numP 4 l6 with
  | none => rw [dec6_none kind mark who n name host p6] at h; cases h
  | some x6 =>
  obtain ⟨last, l7⟩ := x6
  rw [dec6_some kind mark who n name host p6] at h
  cases p7 : numP 4 l7 with
  | none => rw [dec7_none kind mark who n name host last p7] at h; cases h
  | some x7 =>
  obtain ⟨days, l8⟩ := x7
  rw [dec7_some kind mark who n name host last p7] at h
  cases p8 : numP 8 l8 with
  | none => rw [dec8_none kind mark who n name host last days p8] at h; cases h
  | some x8 =>
  obtain ⟨day, l9⟩ := x8
  rw [dec8_some kind mark who n name host last days p8] at h
  cases p9 : numP 8 l9 with
  | none => rw [dec9_none kind mark who n name host last days day p9] at h; cases h
  | some x9 =>
  obtain ⟨near, l10⟩ := x9
  rw [dec9_some kind mark who n name host last days day p9] at h
  cases p10 : bytesP 120 l10 with
  | none => rw [dec10_none kind mark who n name host last days day near p10] at h; cases h
  | some x10 =>
  obtain ⟨tag, l11⟩ := x10
  rw [dec10_some kind mark who n name host last days day near p10] at h
  cases p11 : numP 4 l11 with
  | none => rw [dec11_none kind mark who n name host last days day near tag p11] at h; cases h
  | some x11 =>
  obtain ⟨many, l12⟩ := x11
  rw [dec11_some kind mark who n name host last days day near tag p11] at h
  unfold dec12 at h
  cases p12 : bitsP many l12 with
  | none => rw [p12] at h; cases h
  | some x12 =>
  obtain ⟨bits, l13⟩ := x12
  rw [p12, Option.bind_some] at h
  dsimp only at h
  cases p13 : getP 65536 l13 with
  | none => unfold decFin at h; rw [p13] at h; cases h
  | some x13 =>
  obtain ⟨files, l14⟩ := x13
  rw [decFin_some kind mark who n name host last days day near tag bits p13] at h
  generalize hck : checkN (decCmd kind mark who n name host last days day near tag bits files) = ck at *
  rw [decGo_eq hck] at h
  by_cases h0 : ck = 0
  case neg => rw [if_neg h0] at h; cases h
  rw [if_pos h0] at h
  rw [h0] at hck
  simp only [Option.some.injEq, Prod.mk.injEq] at h
  obtain ⟨rfl, rfl⟩ := h
  have ok := (checkN_ok _).1 hck
  obtain ⟨q0, z0⟩ := numP_inv p0
  have q1 := isP_inv p1
  obtain ⟨q2, z2⟩ := numP_inv p2
  obtain ⟨q3, z3⟩ := numP_inv p3
  have q4 := (bytesP_some p4).1
  have q5 := (bytesP_some p5).1
  obtain ⟨q6, z6⟩ := numP_inv p6
  obtain ⟨q7, z7⟩ := numP_inv p7
  obtain ⟨q8, z8⟩ := numP_inv p8
  obtain ⟨q9, z9⟩ := numP_inv p9
  have q10 := (bytesP_some p10).1
  obtain ⟨q11, z11⟩ := numP_inv p11
  obtain ⟨q12, z12⟩ := bitsP_inv _ _ _ _ p12
  have q13 := (getP_inv p13).1
  refine ⟨?_, ok, ?_⟩
  · unfold decCmd cmdB
    dsimp only
    rw [u64N_wrap64 (n := kind) (by omega), u64N_wrap64 (n := n) (by omega), u64N_wrap64 (n := last) (by omega), u64N_wrap64 (n := days) (by omega), u64N_wrap64 (n := day) (by omega), u64N_wrap64 (n := near) (by omega), z12]
    simp only [List.append_assoc]
    rw [q0, q1, q2, q3, q4, q5, q6, q7, q8, q9, q10, q11, q12, q13]
  · unfold decCmd
    exact ⟨by dsimp only; omega, wrap64_I64 _, wrap64_I64 _, wrap64_I64 _⟩
/-- a command is told just if its bytes are these -/
theorem decodeC_iff (l : List UInt8) (c : CmdI) : decodeC l = some c ↔ l = cmdB c ∧ CmdOk c ∧ CmdFit c := by
  constructor
  · intro h
    unfold decodeC at h
    split at h
    · rename_i c' hd
      cases h
      obtain ⟨h1, h2, h3⟩ := dec0_inv hd
      exact ⟨by rw [h1, List.append_nil], h2, h3⟩
    · cases h
  · rintro ⟨rfl, h1, h2⟩
    have := dec0_append c h1 h2 []
    rw [List.append_nil] at this
    unfold decodeC
    rw [this]

end Go.Proofs.Ytchejnnfbinclaa
end

section
/- Plain laws of chapter 29: the documents' Decode tells what the program's does. No walk. -/
namespace Go.Proofs.Ytchejnnfbinclaa
open Go.RowKit Go.My

theorem someLoop_some (most : Nat) : ∀ (n : Nat) (l r : List UInt8) (gs fs : List FileL), filesP most n l = some (gs, r) → someLoop most n (l, 0) fs = ((r, 0), fs ++ gs) := by
  intro n
  induction n with
  | zero => intro l r gs fs h; rw [filesP_zero] at h; cases h; rw [List.append_nil]; rfl
  | succ n ih =>
    intro l r gs fs h
    rw [filesP_succ] at h
    cases hp : bytesP 120 l with
    | none => rw [hp] at h; cases h
    | some pr =>
      obtain ⟨p, q⟩ := pr
      rw [hp] at h
      dsimp only at h
      cases hd : bytesP most q with
      | none => rw [hd] at h; cases h
      | some dq =>
        obtain ⟨d, q2⟩ := dq
        rw [hd] at h
        dsimp only at h
        cases hf : filesP most n q2 with
        | none => rw [hf] at h; cases h
        | some z =>
          obtain ⟨hs, q3⟩ := z
          rw [hf] at h
          simp only [Option.map_some, Option.some.injEq, Prod.mk.injEq] at h
          obtain ⟨rfl, rfl⟩ := h
          rw [someLoop_go rfl, someS_some hp]
          dsimp only
          rw [someS_some hd]
          dsimp only
          rw [ih q2 q3 hs _ hf, List.append_assoc]
          rfl
theorem someF_append (most : Nat) (hm : most < 4294967296) (fs : List FileL) (r : List UInt8) (h : ∀ f ∈ fs, fitF most f) (hl : fs.length < 4294967296) : someF (filesB fs ++ r, 0) most = ((r, 0), fs) := by
  have hg : getS (filesB fs ++ r, 0) 4 = (((fs.map fileB).flatten ++ r, 0), fs.length) := by
    apply getS_some
    unfold filesB
    rw [List.append_assoc, numP_append, show fs.length % 256 ^ 4 = fs.length from Nat.mod_eq_of_lt (by omega)]
  unfold someF
  rw [hg]
  dsimp only
  rw [someLoop_some most _ _ _ _ [] (filesP_append most hm fs r h)]
  rfl
theorem rawS_append (a b : List UInt8) : rawS (a ++ b, 0) a.length = ((b, 0), a) := by
  rw [rawS_some (by simp)]
  simp
theorem bits_map (bs : List Bool) : (bitsB bs).map (fun b => decide (b = 1)) = bs := by
  unfold bitsB
  induction bs with
  | nil => rfl
  | cons b bs ih =>
    rw [List.map_cons, List.flatten_cons, List.map_append, ih]
    cases b <;> rfl

theorem rdec_cmdB (c : CmdI) (hk : CmdOk c) (hf : CmdFit c) : rdec (cmdB c) = (([], 0), c) := by
  obtain ⟨kind, n, who, flag, name, host, files, last, days, day, within, tag, bits⟩ := c
  have h1 := hk.kind; have h2 := hk.last; have h3 := hk.days; have h4 := hk.name; have h5 := hk.host; have h6 := hk.tag; have h7 := hk.bits; have h8 := hk.files; have h9 := hk.each
  have f1 := hf.who; have f2 := hf.n; have f3 := hf.day; have f4 := hf.within
  dsimp only at h1 h2 h3 h4 h5 h6 h7 h8 h9 f1 f2 f3 f4
  have e : cmdB ⟨kind, n, who, flag, name, host, files, last, days, day, within, tag, bits⟩ = numB (u64N kind) 1 ++ (numB (flagN flag) 1 ++ (numB who 8 ++ (numB (u64N n) 8 ++ (bytesB name ++ (bytesB host ++ (numB (u64N last) 4 ++ (numB (u64N days) 4 ++ (numB (u64N day) 8 ++ (numB (u64N within) 8 ++ (bytesB tag ++ (numB bits.length 4 ++ (bitsB bits ++ (filesB files ++ []))))))))))))) := by
    unfold cmdB; simp only [List.append_assoc, List.append_nil]
  rw [e]
  have hraw : ∀ r, rawS (bitsB bits ++ r, 0) (bits.length % 256 ^ 4) = ((r, 0), bitsB bits) := fun r => by
    rw [show bits.length % 256 ^ 4 = (bitsB bits).length by rw [bitsB_length]; exact Nat.mod_eq_of_lt (by omega)]
    exact rawS_append _ _
  unfold rdec
  simp only [getS_some (numP_append _ _ _), someS_some (bytesP_append name _ 120 h4 (by omega)), someS_some (bytesP_append host _ 120 h5 (by omega)), someS_some (bytesP_append tag _ 120 h6 (by omega)), hraw, someF_append 65536 (by decide) files [] h9 (by omega), bits_map]
  have e1 : u64N kind % 256 ^ 1 = kind.toNat := by rw [u64N_small (by omega) (by omega)]; omega
  have e2 : u64N last % 256 ^ 4 = last.toNat := by rw [u64N_small (by omega) (by omega)]; omega
  have e3 : u64N days % 256 ^ 4 = days.toNat := by rw [u64N_small (by omega) (by omega)]; omega
  have e4 : who % 256 ^ 8 = who := Nat.mod_eq_of_lt (by omega)
  have e5 : ∀ v, u64N v % 256 ^ 8 = u64N v := fun v => Nat.mod_eq_of_lt (by have := u64N_lt v; omega)
  have e6 : decide (flagN flag % 256 ^ 1 = 1) = flag := by cases flag <;> rfl
  rw [e1, e2, e3, e4, e5, e5, e5, e6, wrap64_u64N f2, wrap64_u64N f3, wrap64_u64N f4, wrap64_small (n := kind.toNat) (by omega), wrap64_small (n := last.toNat) (by omega), wrap64_small (n := days.toNat) (by omega), Int.toNat_of_nonneg h1.1, Int.toNat_of_nonneg h2.1, Int.toNat_of_nonneg h3.1]
theorem rdecC_iff (l : List UInt8) (c : CmdI) : rdecC l = some c ↔ l = cmdB c ∧ CmdOk c ∧ CmdFit c := by
  constructor
  · intro h
    unfold rdecC at h
    by_cases h1 : endS (rdec l).1 ≠ 0
    · rw [if_pos h1] at h; cases h
    rw [if_neg h1] at h
    by_cases h2 : checkN (rdec l).2 ≠ 0
    · rw [if_pos h2] at h; cases h
    rw [if_neg h2] at h
    by_cases h3 : cmdB (rdec l).2 ≠ l
    · rw [if_pos h3] at h; cases h
    rw [if_neg h3] at h
    have hc := Option.some.inj h
    have h2' : checkN c = 0 := by rw [← hc]; exact Classical.not_not.1 h2
    have h3' : cmdB c = l := by rw [← hc]; exact Classical.not_not.1 h3
    refine ⟨h3'.symm, (checkN_ok c).1 h2', ?_⟩
    rw [← hc]
    unfold rdec
    exact ⟨getS_lt _ 8, wrap64_I64 _, wrap64_I64 _, wrap64_I64 _⟩
  · rintro ⟨rfl, hk, hf⟩
    unfold rdecC
    rw [rdec_cmdB c hk hf]
    dsimp only
    rw [if_neg (by unfold endS; simp), if_neg (by simpa using (checkN_ok c).2 hk), if_neg (by simp)]
theorem rdecC_eq (l : List UInt8) : rdecC l = decodeC l := by
  cases h : decodeC l with
  | some c => exact (rdecC_iff l c).2 ((decodeC_iff l c).1 h)
  | none =>
    cases h2 : rdecC l with
    | none => rfl
    | some c => rw [(decodeC_iff l c).2 ((rdecC_iff l c).1 h2)] at h; cases h

end Go.Proofs.Ytchejnnfbinclaa
end

section
/- Plain laws of chapter 29: answers are told back, and the documents' Parse tells what the program's does. No walk. -/
namespace Go.Proofs.Ytchejnnfbinclaa
open Go.RowKit Go.My

theorem namesP_append (ns : List (List UInt8)) (r : List UInt8) (h : ∀ t ∈ ns, t.length ≤ 120) : namesP ns.length (joinB ns ++ r) = some (ns, r) := by
  unfold joinB
  induction ns with
  | nil => rfl
  | cons t ns ih =>
    rw [List.length_cons, namesP_succ, List.map_cons, List.flatten_cons, List.append_assoc, bytesP_append _ _ _ (h t (List.mem_cons_self ..)) (by have := h t (List.mem_cons_self ..); omega)]
    dsimp only
    rw [ih (fun g hg => h g (List.mem_cons_of_mem _ hg))]; rfl
theorem namesP_inv : ∀ (n : Nat) (l r : List UInt8) (ns : List (List UInt8)), namesP n l = some (ns, r) → l = joinB ns ++ r ∧ ns.length = n ∧ ∀ t ∈ ns, t.length ≤ 120 := by
  intro n
  induction n with
  | zero => intro l r ns h; rw [namesP_zero] at h; cases h; exact ⟨rfl, rfl, fun f hf => by cases hf⟩
  | succ n ih =>
    intro l r ns h
    rw [namesP_succ] at h
    cases hp : bytesP 120 l with
    | none => rw [hp] at h; cases h
    | some pr =>
      obtain ⟨p, q⟩ := pr
      rw [hp] at h
      dsimp only at h
      cases hf : namesP n q with
      | none => rw [hf] at h; cases h
      | some z =>
        obtain ⟨gs, q3⟩ := z
        rw [hf] at h
        simp only [Option.map_some, Option.some.injEq, Prod.mk.injEq] at h
        obtain ⟨rfl, rfl⟩ := h
        obtain ⟨h1, h2, h3⟩ := ih q q3 gs hf
        obtain ⟨p1, p2, -⟩ := bytesP_some hp
        refine ⟨by rw [p1, h1]; simp [joinB], by rw [List.length_cons, h2], fun f hf => ?_⟩
        rcases List.mem_cons.1 hf with rfl | hf
        · exact p2
        · exact h3 f hf
structure AnsOk (a : AnsI) : Prop where
  code : 0 ≤ a.code ∧ a.code ≤ 65535
  n : I64 a.n
  many : a.names.length < 4294967296
  names : ∀ t ∈ a.names, t.length ≤ 120
  files : a.files.length ≤ 512
  each : ∀ f ∈ a.files, fitF 1048576 f
theorem par0_append (a : AnsI) (h : AnsOk a) (r : List UInt8) : par0 (replyB a ++ r) = some (a, r) := by
  obtain ⟨code, names, files, done, n⟩ := a
  have h1 := h.code; have h2 := h.n; have h3 := h.many; have h4 := h.names; have h5 := h.files; have h6 := h.each
  dsimp only at h1 h2 h3 h4 h5 h6
  unfold replyB
  simp only [List.append_assoc]
  rw [par0_some (numP_append _ _ _), par1_some _ (isP_append _ _), par2_some _ _ (numP_append _ _ _), par3_some _ _ _ (numP_append _ _ _)]
  rw [show names.length % 256 ^ 4 = names.length from Nat.mod_eq_of_lt (by omega), par4_some _ _ _ _ (namesP_append names _ h4), parFin_some _ _ _ _ (getP_append 1048576 (by decide) files r h6 h5)]
  have e1 : u64N code % 256 ^ 2 = code.toNat := by rw [u64N_small (by omega) (by omega)]; omega
  have e5 : ∀ v, u64N v % 256 ^ 8 = u64N v := fun v => Nat.mod_eq_of_lt (by have := u64N_lt v; omega)
  rw [e1, e5]
  unfold parAns
  rw [wrap64_u64N h2, wrap64_small (n := code.toNat) (by omega), Int.toNat_of_nonneg h1.1]
theorem par0_inv {l r : List UInt8} {a : AnsI} (h : par0 l = some (a, r)) : l = replyB a ++ r ∧ AnsOk a := by
  cases p0 : numP 2 l with
  | none => rw [par0_none p0] at h; cases h
  | some x0 =>
  obtain ⟨code, l1⟩ := x0
  rw [par0_some p0] at h
  cases p1 : isP l1 with
  | none => rw [par1_none code p1] at h; cases h
  | some x1 =>
  obtain ⟨mark, l2⟩ := x1
  rw [par1_some code p1] at h
  cases p2 : numP 8 l2 with
  | none => rw [par2_none code mark p2] at h; cases h
  | some x2 =>
  obtain ⟨n, l3⟩ := x2
  rw [par2_some code mark p2] at h
  cases p3 : numP 4 l3 with
  | none => rw [par3_none code mark n p3] at h; cases h
  | some x3 =>
  obtain ⟨many, l4⟩ := x3
  rw [par3_some code mark n p3] at h
  cases p4 : namesP many l4 with
  | none => rw [par4_none code mark n many p4] at h; cases h
  | some x4 =>
  obtain ⟨names, l5⟩ := x4
  rw [par4_some code mark n many p4] at h
  cases p5 : getP 1048576 l5 with
  | none => rw [parFin_none code mark n names p5] at h; cases h
  | some x5 =>
  obtain ⟨files, l6⟩ := x5
  rw [parFin_some code mark n names p5] at h
  simp only [Option.some.injEq, Prod.mk.injEq] at h
  obtain ⟨rfl, rfl⟩ := h
  obtain ⟨q0, z0⟩ := numP_inv p0
  have q1 := isP_inv p1
  obtain ⟨q2, z2⟩ := numP_inv p2
  obtain ⟨q3, z3⟩ := numP_inv p3
  obtain ⟨q4, z4, y4⟩ := namesP_inv _ _ _ _ p4
  obtain ⟨q5, z5, y5⟩ := getP_inv p5
  refine ⟨?_, ?_⟩
  · unfold parAns replyB
    dsimp only
    rw [u64N_wrap64 (n := code) (by omega), u64N_wrap64 (n := n) (by omega), z4]
    simp only [List.append_assoc]
    rw [q0, q1, q2, q3, q4, q5]
  · unfold parAns
    exact ⟨by dsimp only; rw [wrap64_small (n := code) (by omega)]; omega, wrap64_I64 _, by dsimp only; omega, y4, z5, y5⟩
/-- an answer is told just if its bytes are these -/
theorem parseA_iff (l : List UInt8) (a : AnsI) : parseA l = some a ↔ l = replyB a ∧ AnsOk a := by
  constructor
  · intro h
    unfold parseA at h
    split at h
    · rename_i c' hd
      cases h
      obtain ⟨h1, h2⟩ := par0_inv hd
      exact ⟨by rw [h1, List.append_nil], h2⟩
    · cases h
  · rintro ⟨rfl, h1⟩
    have := par0_append a h1 []
    rw [List.append_nil] at this
    unfold parseA
    rw [this]
theorem parseA_more (a : AnsI) (h : AnsOk a) (x : UInt8) : parseA (replyB a ++ [x]) = none := by
  unfold parseA
  rw [par0_append a h [x]]
theorem parseA_less (a : AnsI) (h : AnsOk a) (l : List UInt8) (x : UInt8) (hl : l ++ [x] = replyB a) : parseA l = none := by
  cases hp : parseA l with
  | none => rfl
  | some b =>
    obtain ⟨h1, h2⟩ := (parseA_iff l b).1 hp
    have e1 := par0_append b h2 [x]
    rw [← h1, hl] at e1
    have e2 := par0_append a h []
    rw [List.append_nil, e1] at e2
    cases e2

theorem namesLoop_some : ∀ (n : Nat) (l r : List UInt8) (ms ns : List (List UInt8)), namesP n l = some (ms, r) → namesLoop n (l, 0) ns = ((r, 0), ns ++ ms) := by
  intro n
  induction n with
  | zero => intro l r ms ns h; rw [namesP_zero] at h; cases h; rw [List.append_nil]; rfl
  | succ n ih =>
    intro l r ms ns h
    rw [namesP_succ] at h
    cases hp : bytesP 120 l with
    | none => rw [hp] at h; cases h
    | some pr =>
      obtain ⟨p, q⟩ := pr
      rw [hp] at h
      dsimp only at h
      cases hf : namesP n q with
      | none => rw [hf] at h; cases h
      | some z =>
        obtain ⟨hs, q3⟩ := z
        rw [hf] at h
        simp only [Option.map_some, Option.some.injEq, Prod.mk.injEq] at h
        obtain ⟨rfl, rfl⟩ := h
        rw [namesLoop_go rfl, someS_some hp]
        dsimp only
        rw [ih q q3 hs _ hf, List.append_assoc]
        rfl
theorem namesLoop_bad {n : Nat} {s : RSt} {ns : List (List UInt8)} (h : s.2 ≠ 0) : (namesLoop n s ns).1.2 ≠ 0 := by
  rw [namesLoop_no h]; exact h
theorem namesLoop_none : ∀ (n : Nat) (l : List UInt8) (ns : List (List UInt8)), namesP n l = none → (namesLoop n (l, 0) ns).1.2 ≠ 0 := by
  intro n
  induction n with
  | zero => intro l ns h; rw [namesP_zero] at h; cases h
  | succ n ih =>
    intro l ns h
    rw [namesP_succ] at h
    rw [namesLoop_go rfl]
    cases hp : bytesP 120 l with
    | none => exact namesLoop_bad (someS_none hp)
    | some pr =>
      obtain ⟨p, q⟩ := pr
      rw [hp] at h
      dsimp only at h
      rw [someS_some hp]
      cases hf : namesP n q with
      | none => exact ih q _ hf
      | some z => rw [hf] at h; cases h
theorem someLoop_bad {most n : Nat} {s : RSt} {fs : List FileL} (h : s.2 ≠ 0) : (someLoop most n s fs).1.2 ≠ 0 := by
  rw [someLoop_no h]; exact h
theorem someLoop_none (most : Nat) : ∀ (n : Nat) (l : List UInt8) (fs : List FileL), filesP most n l = none → (someLoop most n (l, 0) fs).1.2 ≠ 0 := by
  intro n
  induction n with
  | zero => intro l fs h; rw [filesP_zero] at h; cases h
  | succ n ih =>
    intro l fs h
    rw [filesP_succ] at h
    rw [someLoop_go rfl]
    cases hp : bytesP 120 l with
    | none => exact someLoop_bad (someS_bad (someS_none hp))
    | some pr =>
      obtain ⟨p, q⟩ := pr
      rw [hp] at h
      dsimp only at h
      rw [someS_some hp]
      dsimp only
      cases hd : bytesP most q with
      | none => exact someLoop_bad (someS_none hd)
      | some dq =>
        obtain ⟨d, q2⟩ := dq
        rw [hd] at h
        dsimp only at h
        rw [someS_some hd]
        cases hf : filesP most n q2 with
        | none => exact ih q2 _ hf
        | some z => rw [hf] at h; cases h
theorem someF_bad {s : RSt} {most : Nat} (h : s.2 ≠ 0) : (someF s most).1.2 ≠ 0 := by
  unfold someF; exact someLoop_bad (getS_bad h)
theorem endS_bad {s : RSt} (h : s.2 ≠ 0) : endS s ≠ 0 := by
  unfold endS; rw [if_neg (fun hc => h hc.1)]; exact h
theorem rpar_fst (l : List UInt8) : (rpar l).1 = (someF (namesLoop (getS (getS (getS (getS (l, 0) 2).1 1).1 8).1 4).2 (getS (getS (getS (getS (l, 0) 2).1 1).1 8).1 4).1 []).1 1048576).1 := rfl
theorem rpar_snd (l : List UInt8) : (rpar l).2.1 = (getS (getS (l, 0) 2).1 1).2 := rfl
theorem rparA_bad {l : List UInt8} (h : (rpar l).1.2 ≠ 0) : rparA l = none := by
  unfold rparA; rw [if_pos (endS_bad h)]
theorem rpar_files (l : List UInt8) : (rpar l).2.2.files = (someF (namesLoop (getS (getS (getS (getS (l, 0) 2).1 1).1 8).1 4).2 (getS (getS (getS (getS (l, 0) 2).1 1).1 8).1 4).1 []).1 1048576).2 := rfl
theorem rparA_eq (l : List UInt8) : rparA l = parseA l := by
  cases p0 : numP 2 l with
  | none =>
    rw [rparA_bad (by rw [rpar_fst]; exact someF_bad (namesLoop_bad (getS_bad (getS_bad (getS_bad (getS_none p0))))))]
    unfold parseA; rw [par0_none p0]
  | some x0 =>
  obtain ⟨code, l1⟩ := x0
  have g0 := getS_some p0
  cases p1 : numP 1 l1 with
  | none =>
    rw [rparA_bad (by rw [rpar_fst, g0]; exact someF_bad (namesLoop_bad (getS_bad (getS_bad (getS_none p1)))))]
    unfold parseA; rw [par0_some p0, par1_none code (by unfold isP; rw [p1])]
  | some x1 =>
  obtain ⟨fl, l2⟩ := x1
  have g1 := getS_some p1
  by_cases hfl : fl ≤ 1
  case neg =>
    have h1 : isP l1 = none := by unfold isP; rw [p1]; dsimp only; rw [if_neg hfl]
    have h2 : rparA l = none := by
      unfold rparA
      split
      · rfl
      · rw [if_pos (by rw [rpar_snd, g0, g1]; show 1 < fl; omega)]
    rw [h2]
    unfold parseA; rw [par0_some p0, par1_none code h1]
  have i1 : isP l1 = some (decide (fl = 1), l2) := by unfold isP; rw [p1]; dsimp only; rw [if_pos hfl]
  cases p2 : numP 8 l2 with
  | none =>
    rw [rparA_bad (by rw [rpar_fst, g0, g1]; exact someF_bad (namesLoop_bad (getS_bad (getS_none p2))))]
    unfold parseA; rw [par0_some p0, par1_some code i1, par2_none code _ p2]
  | some x2 =>
  obtain ⟨n, l3⟩ := x2
  have g2 := getS_some p2
  cases p3 : numP 4 l3 with
  | none =>
    rw [rparA_bad (by rw [rpar_fst, g0, g1, g2]; exact someF_bad (namesLoop_bad (getS_none p3)))]
    unfold parseA; rw [par0_some p0, par1_some code i1, par2_some code _ p2, par3_none code _ n p3]
  | some x3 =>
  obtain ⟨many, l4⟩ := x3
  have g3 := getS_some p3
  cases p4 : namesP many l4 with
  | none =>
    rw [rparA_bad (by rw [rpar_fst, g0, g1, g2, g3]; exact someF_bad (namesLoop_none _ _ _ p4))]
    unfold parseA; rw [par0_some p0, par1_some code i1, par2_some code _ p2, par3_some code _ n p3, par4_none code _ n many p4]
  | some x4 =>
  obtain ⟨names, l5⟩ := x4
  have g4 := namesLoop_some many l4 l5 names [] p4
  have hpar : par0 l = parFin code (decide (fl = 1)) n names l5 := by rw [par0_some p0, par1_some code i1, par2_some code _ p2, par3_some code _ n p3, par4_some code _ n many p4]
  cases p5 : numP 4 l5 with
  | none =>
    rw [rparA_bad (by rw [rpar_fst, g0, g1, g2, g3]; dsimp only; rw [g4]; unfold someF; exact someLoop_bad (getS_none p5))]
    unfold parseA; rw [hpar, parFin_none _ _ _ _ (by unfold getP; rw [p5])]
  | some x5 =>
  obtain ⟨k, l6⟩ := x5
  have g5 := getS_some p5
  cases p6 : filesP 1048576 k l6 with
  | none =>
    rw [rparA_bad (by rw [rpar_fst, g0, g1, g2, g3]; dsimp only; rw [g4]; unfold someF; dsimp only; rw [g5]; exact someLoop_none _ _ _ _ p6)]
    unfold parseA; rw [hpar, parFin_none _ _ _ _ (by unfold getP; rw [p5]; dsimp only; rw [p6])]
  | some x6 =>
  obtain ⟨files, r⟩ := x6
  have g6 : someF (l5, 0) 1048576 = ((r, 0), files) := by
    unfold someF; rw [g5]; dsimp only; rw [someLoop_some _ _ _ _ _ [] p6]; rfl
  have hr : rpar l = ((r, 0), fl, ⟨wrap64 (code : Int), names, files, decide (fl = 1), wrap64 (n : Int)⟩) := by
    unfold rpar
    simp only [g0, g1, g2, g3, g4, g6, List.nil_append]
  unfold rparA
  rw [hr]
  dsimp only
  unfold parseA
  rw [hpar]
  by_cases hk : files.length ≤ 512
  · rw [parFin_some _ _ _ _ (show getP 1048576 l5 = some (files, r) by unfold getP; rw [p5]; dsimp only; rw [p6]; dsimp only; rw [if_pos hk])]
    cases r with
    | nil =>
      rw [if_neg (by unfold endS; simp), if_neg (by omega), if_neg (by omega)]
      rfl
    | cons c r =>
      rw [if_pos (by unfold endS; simp)]
  · rw [parFin_none _ _ _ _ (show getP 1048576 l5 = none by unfold getP; rw [p5]; dsimp only; rw [p6]; dsimp only; rw [if_neg hk])]
    split
    · rfl
    · rw [if_neg (by omega), if_pos (by omega)]

end Go.Proofs.Ytchejnnfbinclaa
end

section
/- Plain laws of chapter 29: the items of a script. No walk. -/
namespace Go.Proofs.Ytchejnnfbinclaa
open Go.RowKit Go.My

theorem nextL_append (x r : List UInt8) (hx : x.length < 4294967296) : nextL (bytesB x ++ r) = (x, r, true) := by
  unfold nextL
  rw [bytesP_append x r _ (by rw [List.length_append, bytesB_length]; omega) hx]
theorem bytesB_ne (x r : List UInt8) : bytesB x ++ r ≠ [] := by
  intro h
  have := congrArg List.length h
  rw [List.length_append, bytesB_length] at this
  simp at this
theorem joinB_cons (x : List UInt8) (ls : List (List UInt8)) : joinB (x :: ls) = bytesB x ++ joinB ls := rfl
theorem joinB_nil : joinB [] = [] := rfl
theorem joinB_append (a b : List (List UInt8)) : joinB (a ++ b) = joinB a ++ joinB b := by
  unfold joinB; simp
/-- whole items -/
def allW (ls : List (List UInt8)) : List (List UInt8 × Bool) := ls.map fun x => (x, true)
theorem itemsL_join (ls : List (List UInt8)) (r : List UInt8) (h : ∀ x ∈ ls, x.length < 4294967296) : itemsL (joinB ls ++ r) = allW ls ++ itemsL r := by
  induction ls with
  | nil => rfl
  | cons x ls ih =>
    have e : joinB (x :: ls) ++ r = bytesB x ++ (joinB ls ++ r) := by rw [joinB_cons, List.append_assoc]
    rw [e, itemsL_cons _ (bytesB_ne _ _), nextL_append _ _ (h x (List.mem_cons_self ..))]
    dsimp only
    rw [ih (fun y hy => h y (List.mem_cons_of_mem _ hy))]
    rfl
theorem itemsL_joinB (ls : List (List UInt8)) (h : ∀ x ∈ ls, x.length < 4294967296) : itemsL (joinB ls) = allW ls := by
  have := itemsL_join ls [] h
  rw [List.append_nil, itemsL_nil, List.append_nil] at this
  exact this
theorem bodies_allW (ls : List (List UInt8)) : bodies (allW ls) = ls := by
  unfold bodies allW; rw [List.map_map]; exact List.map_id' ls
theorem bodies_append (a b : List (List UInt8 × Bool)) : bodies (a ++ b) = bodies a ++ bodies b := by unfold bodies; simp
theorem wholes_append (a b : List (List UInt8 × Bool)) : wholes (a ++ b) = wholes a + wholes b := by unfold wholes; simp
theorem wholes_allW (ls : List (List UInt8)) : wholes (allW ls) = ls.length := by
  unfold wholes allW
  rw [List.filter_eq_self.2 (by intro p hp; simp only [List.mem_map] at hp; obtain ⟨x, -, rfl⟩ := hp; rfl), List.length_map]
theorem allW_length (ls : List (List UInt8)) : (allW ls).length = ls.length := by unfold allW; simp
/-- what is left of an item that was cut -/
theorem itemsL_cut (x : List UInt8) (k : Nat) (h0 : 0 < k) (hk : k < 4 + x.length) (hx : x.length < 4294967296) : itemsL ((bytesB x).take k) = [((bytesB x).take k, false)] := by
  have hl : ((bytesB x).take k).length = k := by rw [List.length_take, bytesB_length]; omega
  have hne : (bytesB x).take k ≠ [] := by intro h; rw [h] at hl; simp at hl; omega
  have hno : bytesP ((bytesB x).take k).length ((bytesB x).take k) = none := by
    unfold bytesP
    by_cases h4 : k < 4
    · have : numP 4 ((bytesB x).take k) = none := by unfold numP; rw [if_neg (by omega)]
      rw [this]
    · have e : (bytesB x).take k = numB x.length 4 ++ x.take (k - 4) := by
        unfold bytesB
        rw [List.take_append, numB_length, List.take_of_length_le (by rw [numB_length]; omega)]
      rw [hl, e, numP_append, show x.length % 256 ^ 4 = x.length from Nat.mod_eq_of_lt hx]
      dsimp only
      rw [if_neg (by rw [List.length_take]; omega)]
  rw [itemsL_cons _ hne]
  have hn : nextL ((bytesB x).take k) = ((bytesB x).take k, [], false) := by unfold nextL; rw [hno]
  rw [hn]
  rfl
theorem allW_whole (ls : List (List UInt8)) : ∀ p ∈ allW ls, p.2 = true := by
  intro p hp; unfold allW at hp; simp only [List.mem_map] at hp; obtain ⟨x, -, rfl⟩ := hp; rfl
/-- only the last item may not be whole -/
theorem itemsL_shape (l : List UInt8) : ∃ ls, itemsL l = allW ls ∨ ∃ r, itemsL l = allW ls ++ [(r, false)] := by
  suffices h : ∀ (n : Nat) (l : List UInt8), l.length ≤ n → ∃ ls, itemsL l = allW ls ∨ ∃ r, itemsL l = allW ls ++ [(r, false)] from h l.length l (Nat.le_refl _)
  intro n
  induction n with
  | zero => intro l hl; have : l = [] := List.length_eq_zero_iff.1 (by omega); subst this; exact ⟨[], .inl rfl⟩
  | succ n ih =>
    intro l hl
    by_cases h : l = []
    · subst h; exact ⟨[], .inl rfl⟩
    rw [itemsL_cons l h]
    have h1 := nextL_rest l h
    obtain ⟨ls, hls⟩ := ih (nextL l).2.1 (by omega)
    unfold nextL at hls h1 ⊢
    cases hb : bytesP l.length l with
    | none =>
      rw [hb] at hls h1
      exact ⟨[], .inr ⟨l, rfl⟩⟩
    | some xr =>
      obtain ⟨x, r⟩ := xr
      rw [hb] at hls h1
      dsimp only at hls ⊢
      rcases hls with e | ⟨q, e⟩
      · exact ⟨x :: ls, .inl (by rw [e]; rfl)⟩
      · exact ⟨x :: ls, .inr ⟨q, by rw [e]; rfl⟩⟩
theorem wholes_count (l : List UInt8) : ((∀ p ∈ itemsL l, p.2 = true) ∧ wholes (itemsL l) = (itemsL l).length) ∨ ((¬ ∀ p ∈ itemsL l, p.2 = true) ∧ wholes (itemsL l) + 1 = (itemsL l).length) := by
  obtain ⟨ls, h | ⟨r, h⟩⟩ := itemsL_shape l
  · rw [h]; exact .inl ⟨allW_whole ls, by rw [wholes_allW, allW_length]⟩
  · rw [h]
    refine .inr ⟨fun hall => ?_, ?_⟩
    · have := hall (r, false) (List.mem_append.2 (.inr (List.mem_singleton.2 rfl)))
      cases this
    · rw [wholes_append, wholes_allW, List.length_append, allW_length]; rfl
/-- a script that is cut -/
theorem itemsL_take (ls : List (List UInt8)) (n c : Nat) (hn : n ≤ ls.length) (h : ∀ x ∈ ls, x.length < 4294967296) (h1 : (joinB (ls.take n)).length ≤ c) (h2 : n < ls.length → c < (joinB (ls.take n)).length + 4 + (ls.getD n []).length) (hc : c ≤ (joinB ls).length) :
    itemsL ((joinB ls).take c) = allW (ls.take n) ++ (if c = (joinB (ls.take n)).length then [] else [(((joinB ls).take c).drop (joinB (ls.take n)).length, false)]) := by
  have hs : ls = ls.take n ++ ls.drop n := (List.take_append_drop n ls).symm
  have hj : joinB ls = joinB (ls.take n) ++ joinB (ls.drop n) := by rw [← joinB_append, ← hs]
  have ht : ∀ x ∈ ls.take n, x.length < 4294967296 := fun x hx => h x (List.mem_of_mem_take hx)
  generalize hp : joinB (ls.take n) = p at *
  have htk : (joinB ls).take c = p ++ (joinB (ls.drop n)).take (c - p.length) := by
    rw [hj, List.take_append, List.take_of_length_le h1]
  rw [htk, List.drop_left]
  rw [← hp, itemsL_join _ _ ht, hp]
  congr 1
  by_cases he : c = p.length
  · rw [if_pos he, he, Nat.sub_self, List.take_zero]; rfl
  rw [if_neg he]
  rcases Nat.lt_or_ge n ls.length with hlt | hge
  · have hd : ls.drop n = ls.getD n [] :: ls.drop (n + 1) := by
      rw [List.drop_eq_getElem_cons hlt]; simp [List.getD_eq_getElem?_getD, List.getElem?_eq_getElem hlt]
    have hmem : ls.getD n [] ∈ ls := by
      rw [List.getD_eq_getElem?_getD, List.getElem?_eq_getElem hlt]; exact List.getElem_mem _
    have h2' := h2 hlt
    rw [hd, joinB_cons, List.take_append, show c - p.length - (bytesB (ls.getD n [])).length = 0 by rw [bytesB_length]; omega, List.take_zero, List.append_nil]
    exact itemsL_cut _ _ (by omega) (by omega) (h _ hmem)
  · exfalso
    have : ls.drop n = [] := List.drop_eq_nil_of_le hge
    rw [this, joinB_nil, List.append_nil] at hj
    rw [hj] at hc
    omega

end Go.Proofs.Ytchejnnfbinclaa
end

section
/- The contract of the law's helper alive. -/
namespace Go.Proofs.Ytchejnnfbinclaa
open Go.RowKit Go.My

def aliveC : CmdI := ⟨2, -1, 3, false, [120], [], [([97], [98])], 0, 0, 0, 0, [], [true]⟩
def aliveA : AnsI := ⟨4, [[121]], [], false, 0⟩
def aliveN : CmdI := ⟨-1, 0, 0, false, [], [], [], 0, 0, 0, 0, [], []⟩
theorem alive_join : joinB [[7], []] = [1, 0, 0, 0, 7, 0, 0, 0, 0] := by decide +kernel
theorem alive_items : itemsL [1, 0, 0, 0, 7, 0, 0, 0, 0, 9] = [([7], true), ([], true), ([9], false)] := by decide +kernel
theorem alive_len : (cmdB aliveC).length = 74 := by decide +kernel
theorem alive_check : checkN aliveC = 0 := by decide +kernel
theorem alive_fit : CmdFit aliveC := ⟨by decide, by unfold I64; decide, by unfold I64; decide, by unfold I64; decide⟩
theorem alive_dec : decodeC (cmdB aliveC) = some aliveC := (decodeC_iff _ _).2 ⟨rfl, (checkN_ok _).1 alive_check, alive_fit⟩
theorem alive_nil : decodeC [] = none := by decide +kernel
theorem alive_no : checkN aliveN = 23 := by decide +kernel
theorem alive_alen : (replyB aliveA).length = 24 := by decide +kernel
theorem alive_ok : AnsOk aliveA := ⟨by decide, by unfold I64; decide, by decide, by decide, by decide, by intro f hf; cases hf⟩
theorem alive_par : parseA (replyB aliveA) = some aliveA := (parseA_iff _ _).2 ⟨rfl, alive_ok⟩
theorem alive_cut : parseA ((replyB aliveA).take 3) = none := by decide +kernel

theorem rows_two {w : World} {b : Nat} {l k : List UInt8} {x y : Value} {T : TypeId} (hb : Blk w b #[x, y] T) (hx : IsBytes w l x ∧ NilOk x) (hy : IsBytes w k y ∧ NilOk y) : IsRowsN w [l, k] (.slice (some ⟨b, 0, none⟩) 2 2) := by
  refine ⟨fun i => if i = 0 then x else y, ⟨some ⟨b, 0, none⟩, 2, rfl, Nat.le_refl 2, by decide, Rd.of_blk hb (fun i hi => ?_)⟩, fun i hi => ?_⟩
  · have : i = 0 ∨ i = 1 := by simp at hi; omega
    rcases this with rfl | rfl <;> rfl
  · have : i = 0 ∨ i = 1 := by simp at hi; omega
    rcases this with rfl | rfl
    · exact hx
    · exact hy
theorem bytes_one {w : World} {b : Nat} {c : UInt8} {T : TypeId} (hb : Blk w b #[.int .u8 (c.toNat : Int)] T) : IsBytes w [c] (.slice (some ⟨b, 0, none⟩) 1 1) := by
  refine ⟨some ⟨b, 0, none⟩, 1, rfl, Nat.le_refl 1, by decide, Rd.of_blk hb (fun i hi => ?_)⟩
  have : i = 0 := by simp at hi; omega
  subst this; rfl
theorem files_one {w : World} {b : Nat} {p d : List UInt8} {a : Option Addr} {n c : Nat} {T : TypeId} (hb : Blk w b #[.string (strB p), .slice a n c] T) (hd : IsBytes w d (.slice a n c)) (hn : NilOk (.slice a n c)) : IsFiles w [(p, d)] (.slice (some ⟨b, 0, none⟩) 1 1) := by
  refine ⟨_, 1, rfl, Nat.le_refl 1, by decide, fun i hi => ?_⟩
  have : i = 0 := by simp at hi; omega
  subst this
  exact ⟨b, 0, _, rfl, hb.cell 0, hb.cell 1, hd, hn⟩
theorem bools_one {w : World} {b : Nat} {t : Bool} {T : TypeId} (hb : Blk w b #[.bool t] T) : IsBools w [t] (.slice (some ⟨b, 0, none⟩) 1 1) := by
  refine ⟨some ⟨b, 0, none⟩, 1, rfl, Nat.le_refl 1, by decide, Rd.of_blk hb (fun i hi => ?_)⟩
  have : i = 0 := by simp at hi; omega
  subst this; rfl
theorem strs_one {w : World} {b : Nat} {s : List UInt8} {T : TypeId} (hb : Blk w b #[.string (strB s)] T) : IsStrs w [s] (.slice (some ⟨b, 0, none⟩) 1 1) := by
  refine ⟨some ⟨b, 0, none⟩, 1, rfl, Nat.le_refl 1, by decide, Rd.of_blk hb (fun i hi => ?_)⟩
  have : i = 0 := by simp at hi; omega
  subst this; rfl
theorem alive_rows (w : World) : IsRowsN ((w.alloc (.cells #[.int .u8 7] 5)).alloc (.cells #[.slice (some ⟨w.heap.size, 0, none⟩) 1 1, .slice none 0 0] 31)) [[7], []] (.slice (some ⟨w.heap.size + 1, 0, none⟩) 2 2) := by
  have h := Blk.new (w.alloc (.cells #[.int .u8 7] 5)) #[.slice (some ⟨w.heap.size, 0, none⟩) 1 1, .slice none 0 0] 31
  rw [World.size_alloc] at h
  exact rows_two h ⟨bytes_one ((Blk.new w #[.int .u8 7] 5).alloc _), NilOk.some _ _ _⟩ ⟨IsRow.nil _ _, fun n c h => by simp at h; exact h.2.symm⟩

def litF (w : World) : World := ((w.alloc (.cells #[.bool true] 4)).alloc (.cells #[.int .u8 98] 5 (1, 2))).alloc (.cells #[.string ⟨#[97]⟩, .slice (some ⟨w.heap.size + 1, 0, none⟩) 1 1] 76)
def litW (w : World) : World := (litF w).alloc (.cells #[.int .i64 2, .int .i64 (-1), .int .u64 3, .bool false, .string ⟨#[120]⟩, .string ⟨#[]⟩, .slice (some ⟨w.heap.size + 1 + 1, 0, none⟩) 1 1, .int .i64 0, .int .i64 0, .int .i64 0, .int .i64 0, .string ⟨#[]⟩, .slice (some ⟨w.heap.size, 0, none⟩) 1 1] 28)
theorem litW_ext (w : World) : Ext No w (litW w) := by unfold litW litF; exact ((((Ext.refl No w).alloc _).alloc _).alloc _).alloc _
theorem litW_bools (w : World) : IsBools (litW w) [true] (.slice (some ⟨w.heap.size, 0, none⟩) 1 1) := by
  unfold litW litF
  exact bools_one ((((Blk.new w #[.bool true] 4).alloc _).alloc _).alloc _)
theorem litW_files (w : World) : IsFiles (litW w) [([97], [98])] (.slice (some ⟨w.heap.size + 1 + 1, 0, none⟩) 1 1) := by
  have h := Blk.new ((w.alloc (.cells #[.bool true] 4)).alloc (.cells #[.int .u8 98] 5 (1, 2))) #[.string ⟨#[97]⟩, .slice (some ⟨w.heap.size + 1, 0, none⟩) 1 1] 76
  rw [World.size_alloc, World.size_alloc] at h
  have hb : IsBytes ((w.alloc (.cells #[.bool true] 4)).alloc (.cells #[.int .u8 98] 5 (1, 2))) [98] (.slice (some ⟨w.heap.size + 1, 0, none⟩) 1 1) := by
    refine ⟨some ⟨w.heap.size + 1, 0, none⟩, 1, rfl, Nat.le_refl 1, by decide, fun i hi => ⟨_, 0, rfl, ?_⟩⟩
    have : i = 0 := by simp at hi; omega
    subst this
    exact Go.Joins.cell_alloc_mark_at _ _ _ _ _ _ (by simp)
  have h2 : Blk (litW w) (w.heap.size + 1 + 1) #[.string (strB [97]), .slice (some ⟨w.heap.size + 1, 0, none⟩) 1 1] 76 := by unfold litW litF; exact h.alloc _
  have hx : Ext No ((w.alloc (.cells #[.bool true] 4)).alloc (.cells #[.int .u8 98] 5 (1, 2))) (litW w) := by unfold litW litF; exact ((Ext.refl No _).alloc _).alloc _
  exact files_one h2 (hb.ext0 hx) (NilOk.some _ _ _)
theorem enc_alive (vf vb : Value) (w : World) (hf : IsFiles w [([97], [98])] vf) (hb : IsBools w [true] vb) :
    Calls Try.prog 12 #[.agg #[.int .i64 2, .int .i64 (-1), .int .u64 3, .bool false, .string ⟨#[120]⟩, .string ⟨#[]⟩, vf, .int .i64 0, .int .i64 0, .int .i64 0, .int .i64 0, .string ⟨#[]⟩, vb]] w (EncTold aliveC w) :=
  encode_any aliveC vf vb w hf hb (by decide) (by decide +kernel)
theorem enc_none (w : World) :
    Calls Try.prog 12 #[.agg #[.int .i64 (-1), .int .i64 0, .int .u64 0, .bool false, .string ⟨#[]⟩, .string ⟨#[]⟩, .slice none 0 0, .int .i64 0, .int .i64 0, .int .i64 0, .int .i64 0, .string ⟨#[]⟩, .slice none 0 0]] w (EncTold aliveN w) :=
  encode_any aliveN (.slice none 0 0) (.slice none 0 0) w ⟨none, 0, rfl, Nat.le_refl 0, by decide, fun i hi => by simp [aliveN] at hi⟩ (IsRow.nil _ _) (by decide) (by decide +kernel)
theorem reply_alive (vn : Value) (w : World) (hn : IsStrs w [[121]] vn) :
    Calls Try.prog 31 #[.agg #[.int .i64 4, vn, .slice none 0 0, .bool false, .int .i64 0]] w fun e w' => ∃ x, e = .returned x ∧ OwnB w' 5 w.heap.size (replyB aliveA) x ∧ Ext No w w' :=
  reply_any aliveA vn (.slice none 0 0) w hn ⟨none, 0, rfl, Nat.le_refl 0, by decide, fun i hi => by simp [aliveA] at hi⟩ (by decide +kernel)
/-- the decoded command, in the flat -/
def DecA2 (w : World) (e : Ending) (w' : World) : Prop := Ext No w w' ∧ ∃ af cf ab cb, e = .returned (.tuple #[.agg #[.int .i64 2, .int .i64 (-1), .int .u64 3, .bool false, .string ⟨#[120]⟩, .string ⟨#[]⟩, .slice af 1 cf, .int .i64 0, .int .i64 0, .int .i64 0, .int .i64 0, .string ⟨#[]⟩, .slice ab 1 cb], .int .i64 0])
theorem dec_alive (a : Option Addr) (c : Nat) (w : World) (h : IsBytes w (cmdB aliveC) (.slice a 74 c)) : Calls Try.prog 17 #[.slice a 74 c] w (DecA2 w) := by
  refine (decode29_any (cmdB aliveC) a 74 c w h (by rw [alive_len]; decide)).mono ?_
  rintro e w' ⟨hE, ⟨cm, vf, vb, hd, rfl, hf, hb⟩ | ⟨hd, -⟩⟩
  · rw [alive_dec] at hd
    have hc := Option.some.inj hd
    subst hc
    obtain ⟨af, cf, rfl⟩ := hf.len
    obtain ⟨ab, cb, rfl⟩ := own_form hb
    exact ⟨hE, af, cf, ab, cb, rfl⟩
  · rw [alive_dec] at hd; cases hd
theorem dec_none (w : World) : Calls Try.prog 17 #[.slice none 0 0] w fun e w' => Ext No w w' ∧ e = .returned (.tuple #[.agg zeroCells, .int .i64 39]) := by
  refine (decode29_any [] none 0 0 w (IsRow.nil _ _) (by decide)).mono ?_
  rintro e w' ⟨hE, ⟨cm, vf, vb, hd, -⟩ | ⟨-, he⟩⟩
  · rw [alive_nil] at hd; cases hd
  · exact ⟨hE, he⟩
def ParA2 (w : World) (e : Ending) (w' : World) : Prop := Ext No w w' ∧ ∃ an cn af cf, e = .returned (.tuple #[.agg #[.int .i64 4, .slice an 1 cn, .slice af 0 cf, .bool false, .int .i64 0], .int .i64 0])
theorem par_alive (a : Option Addr) (c : Nat) (w : World) (h : IsBytes w (replyB aliveA) (.slice a 24 c)) : Calls Try.prog 18 #[.slice a 24 c] w (ParA2 w) := by
  refine (parse29_any (replyB aliveA) a 24 c w h (by rw [alive_alen]; decide)).mono ?_
  rintro e w' ⟨hE, ⟨an, vn, vf, hd, rfl, hf, hb⟩ | ⟨hd, -⟩⟩
  · rw [alive_par] at hd
    have hc := Option.some.inj hd
    subst hc
    obtain ⟨af, cf, rfl⟩ := hf.len
    obtain ⟨ab, cb, rfl⟩ := own_form hb
    exact ⟨hE, ab, cb, af, cf, rfl⟩
  · rw [alive_par] at hd; cases hd
theorem par_none (a : Option Addr) (c : Nat) (w : World) (h : IsBytes w ((replyB aliveA).take 3) (.slice a 3 c)) : Calls Try.prog 18 #[.slice a 3 c] w fun e w' => Ext No w w' ∧ e = .returned (.tuple #[.agg zeroAns, .int .i64 39]) := by
  refine (parse29_any _ a 3 c w h (by rw [List.length_take, alive_alen]; decide)).mono ?_
  rintro e w' ⟨hE, ⟨an, vn, vf, hd, -⟩ | ⟨-, he⟩⟩
  · rw [alive_cut] at hd; cases hd
  · exact ⟨hE, he⟩

set_option maxRecDepth 100000 in
set_option maxHeartbeats 20000000 in
theorem alive_any (w : World) : Calls Try.prog 10 #[] w fun e w' => e = .returned (.bool true) ∧ Ext No w w' := by
  go_enter Try.func10, Try.ntmps10
  go_wp2_with fail
  refine (join29_any [[7], []] (some ⟨w.heap.size + 1, 0, none⟩) 2 2 _ (alive_rows w) (by decide +kernel)).mono ?_
  rintro e w1 ⟨x, rfl, hx, hE⟩
  rw [alive_join] at hx
  obtain ⟨a1, c1, rfl⟩ := own_form hx
  have hE1 : Ext No w w1 := (((Ext.refl No w).alloc _).alloc _).trans' hE
  have hx1 : w1.ownsRow w.heap.size 5 1 (.slice a1 9 c1) 9 (byts [1, 0, 0, 0, 7, 0, 0, 0, 0]) := own_le hx (by simp; omega)
  have hcv := conv_bytes [1, 0, 0, 0, 7, 0, 0, 0, 0] a1 9 c1 w1 hx.bytes
  have hstr : strB [1, 0, 0, 0, 7, 0, 0, 0, 0] = ⟨#[1, 0, 0, 0, 7, 0, 0, 0, 0]⟩ := rfl
  rw [hstr] at hcv
  have HO := Lib.hid (hx1.alloc (.cells #[.int .u8 9] 5)); have HE1 := Lib.hid hE1
  have HZ := Lib.hid (show w.heap.size ≤ (w1.alloc (.cells #[.int .u8 9] 5)).heap.size by have := hE1.size; rw [World.size_alloc]; omega)
  clear hx hE hE1 hx1 hstr
  dsimp only
  go_wp2_with (at_builtin; refine wpList_app1 _ _ rfl _ _ 31 rfl w.heap.size 5 _ _ u8_infoJ Try.underlying31 rfl _ 9 _ rfl HO.out _ rfl (cell_new _ _ _ rfl) rfl (by decide) (by decide) HZ.out ?_; intro v' w2 hown2 hg; obtain ⟨a2, c2, rfl⟩ := own_form hown2; have HO2 := Lib.hid hown2; have HG2 := Lib.hid hg; clear hown2 hg)
  have hE2 : Ext No w w2 := (HE1.out.alloc _).grown HG2.out (fun k hk hlt => absurd hlt (by have := (World.ownsRow.lt HO.out k hk).1; omega))
  have hb2 : IsBytes w2 [1, 0, 0, 0, 7, 0, 0, 0, 0, 9] (.slice a2 10 c2) := OwnB.bytes (show OwnB w2 5 w.heap.size [1, 0, 0, 0, 7, 0, 0, 0, 0, 9] (.slice a2 10 c2) from HO2.out)
  refine (itemsS_any _ a2 10 c2 9 w2 hb2 (NilOk.own HO2.out) (by decide)).mono ?_
  have HE2 := Lib.hid hE2
  clear hE2 hb2 HO HE1 HZ HO2 HG2
  rintro e w3 ⟨x, rfl, hx3, hE3⟩
  rw [alive_items] at hx3
  have hw : wholes (List.take (Int.toNat 9) (itemsL [1, 0, 0, 0, 7, 0, 0, 0, 0, 9])) = 2 := by rw [alive_items]; decide
  rw [hw]
  have hl3 : ∃ a c, x = .slice a 3 c := by obtain ⟨xs, h, -⟩ := hx3; exact own_form h
  obtain ⟨a3, c3, rfl⟩ := hl3
  have HE3 := Lib.hid (HE2.out.trans' hE3)
  clear hx3 hE3 HE2 hw
  have kc := Go.Joins.run_convert_bytes_const_at (P := Try.prog) (w3.alloc (.cells #[.bool true] 4)) 31 5 #[.int .u8 98] 1 1 (w3.heap.size + 1) (by simp) Try.underlying31 Try.underlying5
  dsimp only
  go_wp2_with fail
  refine (enc_alive (.slice (some ⟨w3.heap.size + 1 + 1, 0, none⟩) 1 1) (.slice (some ⟨w3.heap.size, 0, none⟩) 1 1) (litW w3) (litW_files w3) (litW_bools w3)).mono ?_
  rintro e w4 ⟨hE4, ⟨-, x, rfl, hx4⟩ | ⟨hck, -⟩⟩
  case inr => exact absurd alive_check hck
  have hx5 : w4.ownsRow (litW w3).heap.size 5 1 x 74 (byts (cmdB aliveC)) := by rw [← alive_len]; exact hx4
  have hb5 := hx4.bytes
  obtain ⟨a5, c5, rfl⟩ := own_form hx5
  have HB5 := Lib.hid hb5
  have HE4 := Lib.hid ((HE3.out.trans' (litW_ext w3)).trans' hE4)
  clear hx4 hx5 hb5 hE4 HE3 kc
  dsimp only
  go_wp2_with fail
  refine (dec_alive a5 c5 w4 HB5.out).mono ?_
  rintro e w5 ⟨hE5, af, cf, ab, cb, rfl⟩
  have HE5 := Lib.hid (HE4.out.trans' hE5)
  clear HE4 hE5 HB5
  dsimp only
  go_wp2_with fail
  have HB7 := Lib.hid (Blk.new w5 #[.int .i64 2, .int .i64 (-1), .int .u64 3, .bool false, .string ⟨#[120]⟩, .string ⟨#[]⟩, .slice af 1 cf, .int .i64 0, .int .i64 0, .int .i64 0, .int .i64 0, .string ⟨#[]⟩, .slice ab 1 cb] 28)
  refine (dec_none _).mono ?_
  rintro e w6 ⟨hE6, rfl⟩
  have HB8 := Lib.hid (HB7.out.ext hE6 (fun s => s))
  have HE6 := Lib.hid ((HE5.out.alloc _).trans' hE6)
  generalize w5.heap.size = b7 at *
  clear HE5 hE6 HB7
  unfold zeroCells
  dsimp only
  go_wp2_with fail
  have HB9 := Lib.hid (HB8.out.alloc (.cells zeroCells 28))
  refine (enc_none _).mono ?_
  rintro e w7 ⟨hE7, ⟨hck, -⟩ | ⟨-, rfl⟩⟩
  case inl => rw [alive_no] at hck; exact absurd hck (by decide)
  rw [alive_no]
  have HB10 := Lib.hid (HB9.out.ext hE7 (fun s => s))
  have HE7 := Lib.hid ((HE6.out.alloc _).trans' hE7)
  clear HE6 hE7 HB9 HB8
  dsimp only
  go_wp2_with fail
  have hs8 : IsStrs (w7.alloc (.cells #[.string ⟨#[121]⟩] 9)) [[121]] (.slice (some ⟨w7.heap.size, 0, none⟩) 1 1) := strs_one (Blk.new w7 #[.string ⟨#[121]⟩] 9)
  have HB11 := Lib.hid (HB10.out.alloc (.cells #[.string ⟨#[121]⟩] 9))
  refine (reply_alive _ _ hs8).mono ?_
  rintro e w8 ⟨x, rfl, hx8, hE8⟩
  have hy8 : w8.ownsRow (w7.alloc (.cells #[.string ⟨#[121]⟩] 9)).heap.size 5 1 x 24 (byts (replyB aliveA)) := by rw [← alive_alen]; exact hx8
  have hb8 := hx8.bytes
  obtain ⟨a8, c8, rfl⟩ := own_form hy8
  have hle8 : 24 ≤ c8 := (IsRow.len hb8).2.1
  have HP8 := Lib.hid hb8
  have HB12 := Lib.hid (HB11.out.ext hE8 (fun s => s))
  have HE8 := Lib.hid ((HE7.out.alloc _).trans' hE8)
  clear hs8 HB11 HB10 HE7 hx8 hE8 hy8 hb8
  dsimp only
  go_wp2_with fail
  refine (par_alive a8 c8 w8 HP8.out).mono ?_
  rintro e w9 ⟨hE9, an, cn, af9, cf9, rfl⟩
  have HP9 := Lib.hid (HP8.out.ext0 hE9)
  have HB13 := Lib.hid (HB12.out.ext hE9 (fun s => s))
  have HE9 := Lib.hid (HE8.out.trans' hE9)
  clear HP8 HB12 HE8 hE9
  have h3 : (3 : Int) ≤ c8 := by omega
  dsimp only
  go_wp2_with fail
  have HB14 := Lib.hid (HB13.out.alloc (.cells #[.int .i64 4, .slice an 1 cn, .slice af9 0 cf9, .bool false, .int .i64 0] 46))
  have HBa := Lib.hid (Blk.new w9 #[.int .i64 4, .slice an 1 cn, .slice af9 0 cf9, .bool false, .int .i64 0] 46)
  refine (par_none a8 c8 _ ((IsBytes.take HP9.out 3 (by decide)).ext0 ((Ext.refl No w9).alloc _))).mono ?_
  rintro e w10 ⟨hE10, rfl⟩
  have HB15 := Lib.hid (HB14.out.ext hE10 (fun s => s))
  have HBb := Lib.hid (HBa.out.ext hE10 (fun s => s))
  have HE10 := Lib.hid ((HE9.out.alloc _).trans' hE10)
  generalize w9.heap.size = b14 at *
  clear HP9 HB13 HB14 HBa HE9 hE10
  unfold zeroAns
  have hA := HB15.out.alloc (.cells zeroAns 46)
  have hB := HBb.out.alloc (.cells zeroAns 46)
  unfold zeroAns at hA hB
  have q1 := hA.cell 1; have q2 := hA.cell 2; have q6 := hA.cell 6; have q8 := hA.cell 12; have r0 := hB.cell 0; have r1 := hB.cell 1
  simp only [List.getElem?_toArray, List.getElem?_cons_succ, List.getElem?_cons_zero] at q1 q2 q6 q8 r0 r1
  clear hA hB HB15 HBb
  dsimp only
  go_wp2_with fail
  go_ret
  exact ⟨rfl, HE10.out.alloc _⟩

end Go.Proofs.Ytchejnnfbinclaa
end
