/-
  JOINED (2): the contracts of the package script: items, checks, files, Encode.
-/
import Derived.Test.YtchejnnfbinclaaZA
import Derived.RangeFuncNested
import Derived.RangeFuncBound
import Derived.RangeFuncCalls
import Derived.RangeFuncLeaves
import Derived.Shelf.Abstract
import Derived.Shelf.RegionOpen
import Derived.WalkKit
import Derived.OwnWalkIn
import Derived.TacticsInMore
import Derived.LoopNIn
import Derived.LoopIn
set_option linter.unusedVariables false
set_option linter.unusedSimpArgs false

section
/- The contracts of script.next, Items and its iterator. -/
namespace Go.Proofs.Ytchejnnfbinclaa
open Go.RowKit Go.My

/-- a row of bytes that is new -/
def NewB (w : World) (B : Nat) (l : List UInt8) (v : Value) : Prop := IsBytes w l v ∧ (∀ j, v.ownBlock = some j → B ≤ j ∧ ∃ cs, Blk w j cs 5) ∧ NilOk v
theorem nilok_nn {w : World} {x : List UInt8} {a : Option Addr} {n : Nat} (h : IsBytes w x (.slice a n n)) : NilOk (.slice a n n) := by
  intro n' c' he
  simp only [Value.slice.injEq] at he
  obtain ⟨rfl, rfl, rfl⟩ := he
  rcases Nat.eq_zero_or_pos n with h0 | h0
  · exact h0
  · obtain ⟨b, o, hb, -⟩ := h.get 0 h0; cases hb
theorem NewB.ext {w w' : World} {B : Nat} {l : List UInt8} {v : Value} {S : Nat → Prop} (h : NewB w B l v) (x : Ext S w w') (hs : ∀ j cs, B ≤ j → Blk w j cs 5 → ¬ S j) : NewB w' B l v := by
  obtain ⟨h1, h2, h3⟩ := h
  refine ⟨h1.ext x (fun j hj s => ?_), fun j hj => ?_, h3⟩
  · obtain ⟨hB, cs, hb⟩ := h2 j hj; exact hs j cs hB hb s
  · obtain ⟨hB, cs, hb⟩ := h2 j hj
    exact ⟨hB, cs, hb.ext x (hs j cs hB hb)⟩

/-- the first item, and what is behind it -/
def parseN (l : List UInt8) : Option ((List UInt8 × List UInt8) × List UInt8) := (bytesP l.length l).map fun a => (a, [])
def NextR (ib sb B : Nat) (a : List UInt8 × List UInt8) (w : World) : Prop := ∃ vx vr, Blk w ib #[vx] 31 ∧ NewB w B a.1 vx ∧ Blk w sb #[vr] 31 ∧ NewB w B a.2 vr

def NextX (ib sb : Nat) (w : World) : Prop := (∃ x, Blk w ib #[x] 31) ∧ ∃ x, Blk w sb #[x] 31

set_option maxRecDepth 100000 in
set_option maxHeartbeats 2000000 in
theorem next1_reads (l : List UInt8) (a : Option Addr) (m c : Nat) (bb ib sb : Nat) (w : World) (hl : l.length ≤ 1099511627776) (hm : m = l.length) (hb : Blk w bb #[.slice a m c] 31) (hi : ∃ x, Blk w ib #[x] 31) (hs : ∃ x, Blk w sb #[x] 31) (hne : bb ≠ ib ∧ bb ≠ sb ∧ ib ≠ sb) :
    Reads 79 #[.pointer (some ⟨bb, 0, none⟩), .pointer (some ⟨ib, 0, none⟩), .pointer (some ⟨sb, 0, none⟩)] (fun j => j = ib ∨ j = sb) l parseN (NextR ib sb w.heap.size) (NextX ib sb) w := by
  intro rb v w1 hx hrb hr hv
  obtain ⟨xi, hi⟩ := hi
  obtain ⟨xs, hs⟩ := hs
  have hlt := hi.lt; have hlt2 := hs.lt; have hlt3 := hb.lt
  have hb1 := hb.ext hx (fun s => s); have hi1 := hi.ext hx (fun s => s); have hs1 := hs.ext hx (fun s => s)
  have hcb := hb1.cell 0
  simp only [List.getElem?_toArray, List.getElem?_cons_zero] at hcb
  have HR := Lib.hid hr; have HV := Lib.hid hv; have HL := Lib.hid hl; have HM := Lib.hid hm
  have HB := Lib.hid (And.intro hb1 (And.intro hi1 hs1)); have HNE := Lib.hid hne; have HLT := Lib.hid (show ib < w.heap.size ∧ sb < w.heap.size ∧ bb < w.heap.size ∧ w.heap.size ≤ rb from ⟨hlt, hlt2, hlt3, hrb⟩)
  clear hr hv hl hm hb hi hs hne hb1 hi1 hs1 hlt hlt2 hlt3 hrb hx
  have hm63 : m ≤ 9223372036854775807 := by have := HL.out; have := HM.out; omega
  show Calls Try.prog _ #[.pointer (some ⟨rb, 0, none⟩), .pointer (some ⟨bb, 0, none⟩), .pointer (some ⟨ib, 0, none⟩), .pointer (some ⟨sb, 0, none⟩)] w1 _
  go_enter Try.func79, Try.ntmps79
  go_wp2_with fail
  cases hp : bytesP l.length l with
  | none =>
    rw [← HM.out] at hp
    refine (rbytes_no m hm63 rb l v w1 HR.out (by have := HL.out; omega) hp).mono ?_
    rintro e w2 ⟨n, rfl, hn, hx2⟩
    dsimp only
    go_wp2_with fail
    refine ⟨rfl, hx2.mono (fun _ _ s => .inl s), .inr ⟨?_, ⟨⟨_, HB.out.2.1.ext hx2 (by have := HLT.out; omega)⟩, ⟨_, HB.out.2.2.ext hx2 (by have := HLT.out; omega)⟩⟩, n, rfl, hn⟩⟩
    unfold parseN; rw [← HM.out, hp]; rfl
  | some xr =>
    obtain ⟨x, r⟩ := xr
    have hpn : parseN l = some ((x, r), []) := by unfold parseN; rw [hp]; rfl
    rw [← HM.out] at hp
    have HPN := Lib.hid hpn; clear hpn
    refine (rbytes_ok m hm63 rb l x r v w1 HR.out hp).mono ?_
    rintro e w2 ⟨ax, n, rfl, hn, hx2, v2, hr2, he2, hi2, hi3⟩
    obtain ⟨hb1, hi1, hs1⟩ := HB.out
    have hib2 := hi1.ext he2 (by have := HLT.out; omega)
    have hsb2 := hs1.ext he2 (by have := HLT.out; omega)
    have hci := hib2.cell 0; have hfi := hib2.free 0
    simp only [List.getElem?_toArray, List.getElem?_cons_zero] at hci
    have hnew : NewB w2 w.heap.size x (.slice ax n n) := ⟨hx2, fun j hj => by
      obtain ⟨hB, cs, hbk⟩ := HV.out j (hi2 j hj)
      exact ⟨hB, cs, hbk.ext he2 (fun s => by subst s; exact Blk.ne_type hbk HR.out.box (by decide) rfl)⟩, nilok_nn hx2⟩
    obtain ⟨w3, hw3⟩ : ∃ w3, w2.setCell ⟨ib, 0, none⟩ (.slice ax n n) = w3 := ⟨_, rfl⟩
    have hx3 : Ext (fun j => j = ib) w2 w3 := by rw [← hw3]; exact (Ext.refl _ w2).setCell _ _ (fun _ => rfl)
    have hib3 : Blk w3 ib #[.slice ax n n] 31 := by rw [← hw3]; exact hib2.set 0 _
    have hsb3 : Blk w3 sb _ 31 := hsb2.ext hx3 (fun s => HNE.out.2.2 s.symm)
    have hr3 : RdS w3 rb r v2 := ⟨hr2.box.ext hx3 (by have := HLT.out; omega), hr2.row.ext hx3 (fun j hj s => by have := (HV.out j (hi3 j hj)).1; have := HLT.out; omega), hr2.apart⟩
    have hnew3 : NewB w3 w.heap.size x (.slice ax n n) := hnew.ext hx3 (fun j cs hB _ s => by have := HLT.out; omega)
    have HRR := Lib.hid hr3; have HNEW := Lib.hid hnew3; have HI3 := Lib.hid hib3; have HS3 := Lib.hid hsb3
    have HX3 := Lib.hid (show Ext (fun j => j = rb ∨ (j = ib ∨ j = sb)) w1 w3 from (he2.mono (T := fun j => j = rb ∨ (j = ib ∨ j = sb)) (fun _ _ s => .inl s)).trans hx3 (fun _ _ s => s) (fun _ _ s => .inr (.inl s)))
    have HV3 := Lib.hid (show ∀ j, v2.ownBlock = some j → w.heap.size ≤ j ∧ ∃ cs, Blk w3 j cs 5 from fun j hj => by
      obtain ⟨hB, cs, hbk⟩ := HV.out j (hi3 j hj)
      exact ⟨hB, cs, (hbk.ext he2 (fun s => by subst s; exact Blk.ne_type hbk HR.out.box (by decide) rfl)).ext hx3 (fun s => by have := HLT.out; omega)⟩)
    have HW3 := Lib.hid hw3
    have hrl : r.length ≤ 9223372036854775807 := by obtain ⟨_, _, he, h1, h2, -⟩ := hr2.row; omega
    clear hx2 hr2 he2 hi2 hi3 hb1 hi1 hs1 hib2 hsb2 hnew hw3 hx3 hib3 hsb3 hr3 hnew3 hn hp
    dsimp only
    go_wp2_with fail
    rw [HW3.out]
    refine (left_any rb r v2 w3 HRR.out).mono ?_
    rintro e w4 ⟨rfl, rfl⟩
    dsimp only
    go_wp2_with fail
    refine (rraw_ok r.length rb r v2 w3 HRR.out (Nat.le_refl _)).mono ?_
    rintro e w5 ⟨ay, rfl, hx5, v5, hr5, he5, hi5, -⟩
    rw [List.take_length] at hx5
    rw [List.drop_length] at hr5
    have hib5 := HI3.out.ext he5 (by have := HLT.out; omega)
    have hsb5 := HS3.out.ext he5 (by have := HLT.out; omega)
    have hcs := hsb5.cell 0; have hfs := hsb5.free 0
    simp only [List.getElem?_toArray, List.getElem?_cons_zero] at hcs
    have hn5 : NewB w5 w.heap.size x (.slice ax n n) := HNEW.out.ext he5 (fun j cs hB hb s => by subst s; exact Blk.ne_type hb HRR.out.box (by decide) rfl)
    have hm5 : NewB w5 w.heap.size r (.slice ay r.length r.length) := ⟨hx5, fun j hj => by
      obtain ⟨hB, cs, hbk⟩ := HV3.out j (hi5 j hj)
      exact ⟨hB, cs, hbk.ext he5 (fun s => by subst s; exact Blk.ne_type hbk HRR.out.box (by decide) rfl)⟩, nilok_nn hx5⟩
    generalize hrn : r.length = rn at *
    have hxs : Ext (fun j => j = sb) w5 (w5.setCell ⟨sb, 0, none⟩ (.slice ay rn rn)) := (Ext.refl _ w5).setCell _ _ (fun _ => rfl)
    have hfin : NextR ib sb w.heap.size (x, r) (w5.setCell ⟨sb, 0, none⟩ (.slice ay rn rn)) :=
      ⟨_, _, hib5.ext hxs (fun s => HNE.out.2.2 s), hn5.ext hxs (fun j cs hB _ s => by have := HLT.out; omega), hsb5.set 0 _, hm5.ext hxs (fun j cs hB _ s => by have := HLT.out; omega)⟩
    have hr6 : RdS (w5.setCell ⟨sb, 0, none⟩ (.slice ay rn rn)) rb [] v5 := ⟨hr5.box.ext hxs (by have := HLT.out; omega), IsRow.extP hr5.row hxs (fun h0 => absurd h0 (by simp)), hr5.apart⟩
    have HFIN := Lib.hid hfin; have HR6 := Lib.hid hr6
    have HX6 := Lib.hid ((HX3.out.trans (he5.mono (T := fun j => j = rb ∨ (j = ib ∨ j = sb)) (fun _ _ s => .inl s)) (fun _ _ s => s) (fun _ _ s => s)).trans hxs (fun _ _ s => s) (fun _ _ s => .inr (.inr s)) : Ext (fun j => j = rb ∨ (j = ib ∨ j = sb)) w1 _)
    clear hx5 hr5 he5 hi5 hib5 hsb5 hn5 hm5 hxs hfin hr6
    dsimp only
    go_wp2_with fail
    go_end0
    exact ⟨HX6.out, .inl ⟨(x, r), [], v5, HPN.out, rfl, HR6.out, HFIN.out⟩⟩


def nextL (l : List UInt8) : List UInt8 × List UInt8 × Bool :=
  match bytesP l.length l with
  | some (x, r) => (x, r, true)
  | none => (l, [], false)

set_option maxRecDepth 100000 in
set_option maxHeartbeats 2000000 in
theorem next_any (l : List UInt8) (a : Option Addr) (m c : Nat) (w : World) (hv : IsBytes w l (.slice a m c)) (hn : NilOk (.slice a m c)) (hl : l.length ≤ 1099511627776) :
    Calls Try.prog 77 #[.slice a m c] w fun e w' => ∃ vx vr, e = .returned (.tuple #[vx, vr, .bool (nextL l).2.2]) ∧ NewB w' w.heap.size (nextL l).1 vx ∧ NewB w' w.heap.size (nextL l).2.1 vr ∧ Ext No w w' := by
  have hmf := mkf
  obtain ⟨w0, hw0⟩ : ∃ w0, lay w [(#[.slice a m c], 31), (#[.slice none 0 0], 31), (#[.slice none 0 0], 31)] = w0 := ⟨_, rfl⟩
  have hx0 : Ext No w w0 := by rw [← hw0]; exact lay_ext _ (Ext.refl _ _)
  have hsz : w0.heap.size = w.heap.size + 3 := by rw [← hw0]; exact lay_size _ w
  have hb0 := lay_at hw0 0 _ _ rfl
  have hb1 := lay_at hw0 1 _ _ rfl
  have hb2 := lay_at hw0 2 _ _ rfl
  rw [Nat.add_zero] at hb0
  have hcb := hb0.cell 0
  simp only [List.getElem?_toArray, List.getElem?_cons_zero] at hcb
  simp only [lay] at hw0
  have HW0 := Lib.hid hw0; have HX0 := Lib.hid hx0; have HB := Lib.hid (And.intro hb0 (And.intro hb1 hb2)); have HSZ := Lib.hid hsz; have HV := Lib.hid hv; have HN := Lib.hid hn; have HL := Lib.hid hl; have HM := Lib.hid hv.len
  clear hw0 hx0 hb0 hb1 hb2 hsz hv hn hl hcb
  go_enter Try.func77, Try.ntmps77
  go_wp2_with fail
  rw [HW0.out]; clear HW0
  have hrd := next1_reads l a m c w.heap.size (w.heap.size + 1) (w.heap.size + 2) w0 HL.out HM.out HB.out.1 ⟨_, HB.out.2.1⟩ ⟨_, HB.out.2.2⟩ (by omega)
  have hxE : ∀ A B, NextX (w.heap.size + 1) (w.heap.size + 2) A → ErrExt A B → NextX (w.heap.size + 1) (w.heap.size + 2) B := fun A B ⟨⟨x, h1⟩, ⟨y, h2⟩⟩ hE =>
    ⟨⟨x, h1.ext hE (fun ⟨cs, hb⟩ => Blk.ne_type h1 hb (by decide) rfl)⟩, ⟨y, h2.ext hE (fun ⟨cs, hb⟩ => Blk.ne_type h2 hb (by decide) rfl)⟩⟩
  have hRx : ∀ a A, NextR (w.heap.size + 1) (w.heap.size + 2) w0.heap.size a A → NextX (w.heap.size + 1) (w.heap.size + 2) A := fun a A ⟨vx, vr, h1, _, h3, _⟩ => ⟨⟨_, h1⟩, ⟨_, h3⟩⟩
  refine (decode_any 79 #[.pointer (some ⟨w.heap.size, 0, none⟩), .pointer (some ⟨w.heap.size + 1, 0, none⟩), .pointer (some ⟨w.heap.size + 2, 0, none⟩)] (fun j => j = w.heap.size + 1 ∨ j = w.heap.size + 2) l parseN (NextR (w.heap.size + 1) (w.heap.size + 2) w0.heap.size) (NextX (w.heap.size + 1) (w.heap.size + 2)) hRx hxE a m c w0
    (fun args w => by kernel_rfl) hrd (fun j hj => by have := HSZ.out; omega) (HV.out.ext0 HX0.out) HL.out ?_).mono ?_
  · rintro ⟨x, r⟩ A B ⟨vx, vr, h1, h2, h3, h4⟩ hE
    exact ⟨vx, vr, h1.ext hE (fun ⟨cs, hb⟩ => Blk.ne_type h1 hb (by decide) rfl), h2.ext hE (fun j cs _ hb ⟨cs', hb'⟩ => Blk.ne_type hb hb' (by decide) rfl), h3.ext hE (fun ⟨cs, hb⟩ => Blk.ne_type h3 hb (by decide) rfl), h4.ext hE (fun j cs _ hb ⟨cs', hb'⟩ => Blk.ne_type hb hb' (by decide) rfl)⟩
  · rintro e w1 ⟨n, rfl, ht, hx1⟩
    have HX1 := Lib.hid (HX0.out.trans hx1 (fun _ _ s => s) (fun j hj s => by omega))
    clear hrd hRx hxE
    rcases ht with ⟨rfl, ⟨x, r⟩, hp, vx, vr, h1, h2, h3, h4⟩ | ⟨hn0, hp, ⟨⟨x, h1⟩, ⟨y, h2⟩⟩⟩
    · have hnl : nextL l = (x, r, true) := by
        unfold parseN at hp; unfold nextL
        cases hb : bytesP l.length l with
        | none => rw [hb] at hp; cases hp
        | some xr => rw [hb] at hp; simp at hp; rw [hp]
      have h3' : Blk w1 (w.heap.size + 1 + 1) #[vr] 31 := h3
      have hz2 : w.heap.size ≤ w0.heap.size := by have := HSZ.out; omega
      have HE := Lib.hid (show NewB w1 w.heap.size x vx ∧ NewB w1 w.heap.size r vr from ⟨⟨h2.1, fun j hj => ⟨Nat.le_trans hz2 (h2.2.1 j hj).1, (h2.2.1 j hj).2⟩, h2.2.2⟩, ⟨h4.1, fun j hj => ⟨Nat.le_trans hz2 (h4.2.1 j hj).1, (h4.2.1 j hj).2⟩, h4.2.2⟩⟩)
      obtain ⟨ax, nx, cx, hxf⟩ : ∃ a n c, vx = .slice a n c := by obtain ⟨a, c, h, -⟩ := h2.1; exact ⟨a, _, c, h⟩
      obtain ⟨ar, nr, cr, hrf⟩ : ∃ a n c, vr = .slice a n c := by obtain ⟨a, c, h, -⟩ := h4.1; exact ⟨a, _, c, h⟩
      subst hxf; subst hrf
      have hc1 := h1.cell 0; have hf1 := h1.free 0; have hc3 := h3'.cell 0; have hf3 := h3'.free 0
      simp only [List.getElem?_toArray, List.getElem?_cons_zero] at hc1 hc3
      have HNL := Lib.hid hnl; have HB1 := Lib.hid (And.intro h1 h3')
      clear h1 h2 h3 h3' h4 hp hnl hx1
      dsimp only
      go_wp2_with fail
      go_region_with (fail)
      all_goals
        go_wp2_with fail
        refine bodyPost_ret (v := .tuple #[.slice ax nx cx, .slice ar nr cr, .bool true]) (by simp [results, Try.results77, go_sem, hc1, hc3, hf1, hf3]) rfl ?_
        have hx : Ext (fun j => j = w.heap.size + 1 ∨ j = w.heap.size + 1 + 1) w1 ((w1.setCell ⟨w.heap.size + 1, 0, none⟩ (.slice ax nx cx)).setCell ⟨w.heap.size + 1 + 1, 0, none⟩ (.slice ar nr cr)).drew :=
          (((Ext.refl _ w1).setCell _ _ (fun _ => .inl rfl)).setCell _ _ (fun _ => .inr rfl)).drew
        have hs : ∀ j cs, w.heap.size ≤ j → Blk w1 j cs 5 → ¬ (j = w.heap.size + 1 ∨ j = w.heap.size + 1 + 1) := fun j cs _ hb s => by
          rcases s with s | s
          · subst s; exact Blk.ne_type hb HB1.out.1 (by decide) rfl
          · subst s; exact Blk.ne_type hb HB1.out.2 (by decide) rfl
        rw [HNL.out]
        exact ⟨_, _, rfl, HE.out.1.ext hx hs, HE.out.2.ext hx hs, HX1.out.trans hx (fun _ _ s => s) (fun j hj s => by omega)⟩
    · have hnl : nextL l = (l, [], false) := by
        unfold nextL
        cases hb : bytesP l.length l with
        | none => rfl
        | some xr => exact absurd (by unfold parseN; rw [hb]; rfl : parseN l = some (xr, [])) (hp xr)
      have h2' : Blk w1 (w.heap.size + 1 + 1) #[y] 31 := h2
      have hbb := HB.out.1.ext hx1 (by omega)
      have hcb := hbb.cell 0
      have hc1 := h1.cell 0; have hf1 := h1.free 0; have hc2 := h2'.cell 0; have hf2 := h2'.free 0
      simp only [List.getElem?_toArray, List.getElem?_cons_zero] at hcb hc1 hc2
      have hrow : IsRow w1 (byt l) m (.slice a m c) := by have h := HV.out.ext0 HX1.out; unfold IsBytes at h; rw [← HM.out] at h; exact h
      have HROW := Lib.hid hrow; have HNL := Lib.hid hnl; have HB1 := Lib.hid (And.intro h1 h2')
      have HNN := Lib.hid HN.out.none
      have H1a := Lib.hid (show ∀ i, i < m → (byt l i).oneCell' = true from fun _ _ => rfl)
      have HNM := Lib.hid (show 0 + m ≤ 9223372036854775807 ∧ (0 + m) * 1 ≤ 140737488355328 by have := HL.out; have := HM.out; omega)
      have HZ := Lib.hid (Nat.le_refl w1.heap.size)
      have HNB := Lib.hid (show ∀ b, (Value.slice none 0 0).ownBlock ≠ some b from fun b h => by cases h)
      have hfn : ((n : Int) == 0) = false := by simpa using hn0
      have hn0' : ¬ n = 0 := hn0
      clear h1 h2 h2' hbb hrow hp hnl hx1
      dsimp only
      go_wp2_with (at_builtin; refine wpList_appN_at _ rfl _ _ 31 rfl w1.heap.size 5 _ _ u8_info Try.underlying31 rfl (.slice none 0 0) 0 [] rfl (World.ownsRow_nil _ _ _ _) _ _ _ (byt l) rfl HROW.out HNN.out H1a.out HNM.out.1 HNM.out.2 HZ.out ?_; intro v' w2 hown hg hat; obtain ⟨a6, c6, rfl⟩ := own_form hown; have hi2 := HB1.out.1.grown hg (HNB.out _); have hs2 := HB1.out.2.grown hg (HNB.out _); have hc12 := hi2.cell 0; have hf12 := hi2.free 0; have hc22 := hs2.cell 0; have hf22 := hs2.free 0; simp only [List.getElem?_toArray, List.getElem?_cons_zero] at hc12 hc22)
      refine bodyPost_ret (v := .tuple #[.slice a6 m c6, .slice none 0 0, .bool false]) (by simp [results, Try.results77, go_sem, hc12, hc22, hf12, hf22]) rfl ?_
      rw [Nat.zero_add, List.nil_append] at hown
      have hob : OwnB w2 5 w1.heap.size l (.slice a6 m c6) := by
        unfold OwnB
        have h := hown
        rw [HM.out, byts_range] at h
        rw [HM.out]; exact h
      have hz1 : w.heap.size ≤ w1.heap.size := HX1.out.size
      have hnb : NewB w2 w.heap.size l (.slice a6 m c6) := ⟨hob.bytes, fun j hj => ⟨Nat.le_trans hz1 (hob.lt j hj).1, own_blk hob hj⟩, NilOk.own hob⟩
      have hx : Ext (fun j => j = w.heap.size + 1 ∨ j = w.heap.size + 1 + 1) w2 ((w2.setCell ⟨w.heap.size + 1, 0, none⟩ (.slice a6 m c6)).setCell ⟨w.heap.size + 1 + 1, 0, none⟩ (.slice none 0 0)) :=
        ((Ext.refl _ w2).setCell _ _ (fun _ => .inl rfl)).setCell _ _ (fun _ => .inr rfl)
      have hs : ∀ j cs, w.heap.size ≤ j → Blk w2 j cs 5 → ¬ (j = w.heap.size + 1 ∨ j = w.heap.size + 1 + 1) := fun j cs _ hb s => by
        rcases s with s | s
        · subst s; exact Blk.ne_type hb hi2 (by decide) rfl
        · subst s; exact Blk.ne_type hb hs2 (by decide) rfl
      have hxg : Ext No w w2 := HX1.out.grown hg (fun j hj _ => absurd hj (HNB.out j))
      rw [HNL.out]
      exact ⟨_, _, rfl, hnb.ext hx hs, ⟨IsRow.nil _ _, fun j hj => (by cases hj), fun n c h => (by simp at h; exact h.2.symm)⟩, hxg.trans hx (fun _ _ s => s) (fun j hj s => by omega)⟩

end Go.Proofs.Ytchejnnfbinclaa
end

section
/- A range over a function, as in 'Range', where what the body may turn hangs on the world. No program in sight. -/
namespace Go.My
open Go.RowKit

/-- WHAT AN ITERATOR OWES: N elements; of the k-th handed to yield 'A k' is known; it turns the blocks of S; a round that goes on turns those of T. -/
def SeqW (P : Program) (g : Nat) (lb : Array Value) (N : Nat) (A : Nat → Array Value → World → Prop) (S : Nat → Prop) (T : World → Nat → Prop) (Fin : World → Prop) (w : World) : Prop :=
  ∀ (l : Nat) (J Jx : Nat → World → Prop) (W : World), Ext No w W → w.heap.size + 2 ≤ W.heap.size →
    (∀ k A B, J k A → Ext S A B → J k B) → (∀ k A B, Jx k A → Ext S A B → Jx k B) →
    (∀ k args W1, k < N → J k W1 → A k args W1 → YieldAt Fence.wide 0 P l args W1 fun e W' => (e = .returned (.bool true) ∧ J (k + 1) W' ∧ Ext (T W1) W1 W') ∨ (e = .returned (.bool false) ∧ Jx (k + 1) W' ∧ Ext (T W1) W1 W')) →
    J 0 W →
    Calls P g (#[.func (.yield l) #[] #[]] ++ lb) W fun e W' => (∃ v, e = .returned v) ∧ (J N W' ∨ ∃ k, k ≤ N ∧ Jx k W') ∧ Fin W'

/-- how a round's body is left -/
def rPostW (U : World → Nat → Prop) (I : Nat → World → Prop) (Ix : Code → Nat → World → Prop) (k : Nat) (W : World) : Exit → Act → World → Prop
  | .normal, _, W' => Ext (U W) W W' ∧ I k W'
  | .ret, _, W' => Ext (U W) W W' ∧ Ix .ret k W'
  | .exit id, _, W' => Ext (U W) W W' ∧ Ix (.exit id) k W'
  | .goto t, _, W' => Ext (U W) W W' ∧ Ix (.goto t) k W'
  | .panic _, _, _ => False
  | .outgrown, _, _ => False

variable {P : Program}

theorem wpIn_rangeW {g : Operand} {ps : Array Tmp} {assign body : Code} {Q : Exit → Act → World → Prop} {a : Act} {w : World}
    {gf : Nat} {lb : Array Value} (hg : a.eval g = .func (.func gf) #[] lb) (eg : ∀ args w, (callFunc gf args).run P w = .ok (.enter gf args) w)
    (U : World → Nat → Prop) (S : Nat → Prop) {N : Nat} {A : Nat → Array Value → World → Prop} {Fin : World → Prop}
    (hseq : SeqW P gf lb N A S (fun W k => U W k ∨ k = w.heap.size ∨ k = w.heap.size + 1) Fin w)
    (hUp : ∀ (W : World) (o : Obj) (r : Loop) (k : Nat), W.heap[w.heap.size + 1]? = some (.loop r) → U (W.putObj (w.heap.size + 1) o) k → U W k ∨ k = w.heap.size ∨ k = w.heap.size + 1)
    (hFin : ∀ A B, Fin A → Ext (fun j => False ∨ (j = w.heap.size + 1 ∧ NC A j)) A B → Fin B)
    (hps : ∀ k args W, A k args W → args.size = ps.size)
    (hA : ∀ k args W r o, A k args W → W.heap[w.heap.size + 1]? = some (.loop r) → A k args (W.putObj (w.heap.size + 1) o))
    (hU0 : ∀ W, ¬ U W w.heap.size) (hU1 : ∀ W, ¬ U W (w.heap.size + 1)) (hS0 : ¬ S w.heap.size) (hS1 : ¬ S (w.heap.size + 1))
    (I : Nat → World → Prop) (Ix : Code → Nat → World → Prop)
    (hI : ∀ k A B, I k A → Ext (fun j => S j ∨ (j = w.heap.size + 1 ∧ NC A j)) A B → I k B)
    (hIx : ∀ c k A B, Ix c k A → Ext (fun j => S j ∨ (j = w.heap.size + 1 ∧ NC A j)) A B → Ix c k B)
    (h0 : I 0 w) (a₁ : Array Value → Act)
    (hassign : ∀ (l k : Nat) (args : Array Value) (W : World) (K : Act → World → Prop), A k args W → K (a₁ args) W →
      assign.wpIn (Fence.wide.inRound l) 0 P (Exit.then K (fun _ _ _ => False)) { tmps := (ps.zip args).foldl (fun t (p, v) => t.setIfInBounds p v) a.tmps, defers := [] } W)
    (hbody : ∀ (l k : Nat) (args : Array Value) (W : World), k < N → I k W → A k args W → w.heap.size + 2 ≤ W.heap.size → body.wpIn (Fence.wide.inRound l) 0 P (rPostW U I Ix (k + 1) W) (a₁ args) W)
    (hdone : ∀ W : World, I N W → Fin W → W.heap[w.heap.size]? = some (.deferred (some [])) → Q .normal { a with defers := { target := .collected w.heap.size, args := #[] } :: a.defers } W)
    (hstop : ∀ (c : Code) (k : Nat) (W : World), k ≤ N → Ix c k W → Fin W → W.heap[w.heap.size]? = some (.deferred (some [])) → c.wpIn Fence.wide 0 P Q { a with defers := { target := .collected w.heap.size, args := #[] } :: a.defers } W) :
    (Code.rangeFunc g ps assign body).wpIn Fence.wide 0 P Q a w := by
  refine wpIn_rangeFunc ?_
  intro fn hfn
  rw [show Fence.wide.round = none from rfl]
  obtain ⟨D, hD⟩ : ∃ D, w.heap.size = D := ⟨_, rfl⟩
  obtain ⟨rec, hrec⟩ : ∃ rec : LoopState → Option Code → Loop, rec = fun st pe => { state := st, pending := pe, fn, tmps := a.tmps, params := ps, assign, body, defers := D } := ⟨_, rfl⟩
  obtain ⟨W1, hW1⟩ : ∃ W1, (w.alloc (.deferred (some []))).alloc (.loop (rec .ready none)) = W1 := ⟨_, rfl⟩
  have hL1 : W1.heap[D + 1]? = some (.loop (rec .ready none)) := by
    rw [← hW1]; have := World.alloc_heap_new (w.alloc (.deferred (some []))) (.loop (rec .ready none)); rwa [World.size_alloc, hD] at this
  have hK1 : W1.heap[D]? = some (.deferred (some [])) := by
    rw [← hW1, ← hD]; exact (Below.heap_alloc _ _ _ (by simp)).trans (World.alloc_heap_new w _)
  have hx1 : Ext No w W1 := by rw [← hW1]; exact ((Ext.refl No w).alloc _).alloc _
  have hI1 : I 0 W1 := hI _ _ _ h0 (hx1.mono (fun _ _ h => h.elim))
  have hsz1 : D + 2 ≤ W1.heap.size := by rw [← hW1]; simp; omega
  refine ⟨D + 1, [{ target := .collected D, args := #[] }], W1, { target := .fn (.func gf) lb, args := #[.func (.yield (D + 1)) #[] #[]] }, W1, gf,
    #[.func (.yield (D + 1)) #[] #[]] ++ lb, W1, ?_, ?_, ?_, ?_, fun h => by simp [Fence.wide] at h, ?_⟩
  · rw [← hW1, hrec, ← hD]; exact run_enterLoop_outer _ _ _ _ _
  · simp only [resolve, hg]
    simp [go_sem]
  · intro f' hf'; trivial
  · simp [invoke, go_sem, eg]
  · rw [hD] at hseq hUp hFin hA hU0 hU1 hS0 hS1 hI hIx hbody hdone hstop
    refine callsIn_wide.2 ((hseq (D + 1)
      (fun k W => I k W ∧ W.heap[D + 1]? = some (.loop (rec .ready none)) ∧ W.heap[D]? = some (.deferred (some [])) ∧ D + 2 ≤ W.heap.size)
      (fun k W => ∃ c, Ix c k W ∧ W.heap[D + 1]? = some (.loop (rec .done (some c))) ∧ W.heap[D]? = some (.deferred (some [])) ∧ D + 2 ≤ W.heap.size)
      W1 hx1 (by rw [hD]; exact hsz1) ?_ ?_ ?_ ⟨hI1, hL1, hK1, hsz1⟩).mono ?_)
    · rintro k A B ⟨h1, h2, h3, h4⟩ hx
      exact ⟨hI k A B h1 (hx.mono (fun _ _ h => .inl h)), (hx.block _ (by omega) hS1).trans h2, (hx.block _ (by omega) hS0).trans h3, Nat.le_trans h4 hx.size⟩
    · rintro k A B ⟨c, h1, h2, h3, h4⟩ hx
      exact ⟨c, hIx c k A B h1 (hx.mono (fun _ _ h => .inl h)), (hx.block _ (by omega) hS1).trans h2, (hx.block _ (by omega) hS0).trans h3, Nat.le_trans h4 hx.size⟩
    · -- ONE ROUND
      rintro k args W hkN ⟨hi, hl, hk, hs⟩ hAk
      have hy := run_yield (P := P) (args := args) hl (by rw [hrec]; exact hps k args W hAk)
      rw [hrec] at hy
      refine ⟨fn, _, assign, body, hy, roundIn_of_wpIn hfn (hassign _ k args W _ hAk ⟨_, run_beginRound hl (by rw [hrec]), ?_⟩)⟩
      have hl2 : (W.putObj (D + 1) (.loop { rec .ready none with state := .busy })).heap[D + 1]? = some (.loop { rec .ready none with state := .busy }) := World.putObj_heap_same (by omega)
      have hk2 : (W.putObj (D + 1) (.loop { rec .ready none with state := .busy })).heap[D]? = some (.deferred (some [])) := (World.putObj_heap_other (by omega)).trans hk
      have hx2 : ∀ {S' : Nat → Prop} (W : World) (o : Obj), S' (D + 1) → Ext S' W (W.putObj (D + 1) o) := fun W o h => (Ext.refl _ W).putObj _ _ (fun _ => h)
      refine wpIn_mono (hbody _ k args _ hkN (hI _ _ _ hi (Ext.putObjN _ _ _ (NC.loop hl))) (hA k args W _ _ hAk hl) (by rw [World.putObj_size]; exact hs)) ?_
      have fin : ∀ (jump : Option Code) (W3 : World), Ext (U (W.putObj (D + 1) (.loop { rec .ready none with state := .busy }))) (W.putObj (D + 1) (.loop { rec .ready none with state := .busy })) W3 →
          (Instr.endRound (D + 1) jump).run P W3 = .ok (.bool jump.isNone) (W3.putObj (D + 1) (.loop (rec (if jump.isNone then .ready else .done) jump))) ∧
          (W3.putObj (D + 1) (.loop (rec (if jump.isNone then .ready else .done) jump))).heap[D + 1]? = some (.loop (rec (if jump.isNone then .ready else .done) jump)) ∧
          (W3.putObj (D + 1) (.loop (rec (if jump.isNone then .ready else .done) jump))).heap[D]? = some (.deferred (some [])) ∧ D + 2 ≤ (W3.putObj (D + 1) (.loop (rec (if jump.isNone then .ready else .done) jump))).heap.size := fun jump W3 hk3 => by
        have hl3 := (hk3.block (D + 1) (by rw [World.putObj_size]; omega) (hU1 _)).trans hl2
        have hd3 := (hk3.block D (by rw [World.putObj_size]; omega) (hU0 _)).trans hk2
        have hs3 : D + 2 ≤ W3.heap.size := Nat.le_trans (by rw [World.putObj_size]; exact hs) hk3.size
        have := run_endRound (P := P) jump hl3
        rw [hrec] at this ⊢
        exact ⟨this, World.putObj_heap_same (by omega), (World.putObj_heap_other (by omega)).trans hd3, by rw [World.putObj_size]; exact hs3⟩
      have ext3 : ∀ (W3 : World) (o o' : Obj), Ext (U (W.putObj (D + 1) o)) (W.putObj (D + 1) o) W3 → Ext (fun k => U W k ∨ k = D ∨ k = D + 1) W (W3.putObj (D + 1) o') := fun W3 o o' hx3 =>
        (((hx2 W o (.inr (.inr rfl))).trans hx3 (fun _ _ h => h) (fun k _ h => hUp W o _ k hl h)).trans (hx2 W3 _ (.inr (.inr rfl))) (fun _ _ h => h) (fun _ _ h => h))
      have ncl : ∀ (W3 : World), Ext (U (W.putObj (D + 1) (.loop { rec .ready none with state := .busy }))) (W.putObj (D + 1) (.loop { rec .ready none with state := .busy })) W3 → NC W3 (D + 1) := fun W3 hk3 => NC.loop ((hk3.block (D + 1) (by rw [World.putObj_size]; omega) (hU1 _)).trans hl2)
      rintro e a3 W3 hp
      cases e with
      | normal =>
        obtain ⟨hx3, hi3⟩ := hp
        obtain ⟨hr, h4⟩ := fin none W3 hx3
        refine ⟨_, _, hr, .inl ⟨rfl, ⟨hI _ _ _ hi3 (Ext.putObjN _ _ _ (ncl _ hx3)), h4⟩, ext3 _ _ _ hx3⟩⟩
      | ret =>
        obtain ⟨hx3, hi3⟩ := hp
        obtain ⟨hr, h4⟩ := fin (some .ret) W3 hx3
        exact ⟨_, _, hr, .inr ⟨rfl, ⟨.ret, hIx _ _ _ _ hi3 (Ext.putObjN _ _ _ (ncl _ hx3)), h4⟩, ext3 _ _ _ hx3⟩⟩
      | exit id =>
        obtain ⟨hx3, hi3⟩ := hp
        obtain ⟨hr, h4⟩ := fin (some (.exit id)) W3 hx3
        exact ⟨_, _, hr, .inr ⟨rfl, ⟨.exit id, hIx _ _ _ _ hi3 (Ext.putObjN _ _ _ (ncl _ hx3)), h4⟩, ext3 _ _ _ hx3⟩⟩
      | goto t =>
        obtain ⟨hx3, hi3⟩ := hp
        obtain ⟨hr, h4⟩ := fin (some (.goto t)) W3 hx3
        exact ⟨_, _, hr, .inr ⟨rfl, ⟨.goto t, hIx _ _ _ _ hi3 (Ext.putObjN _ _ _ (ncl _ hx3)), h4⟩, ext3 _ _ _ hx3⟩⟩
      | panic ch => exact hp.elim
      | outgrown => exact hp.elim
    · -- BEHIND THE ITERATOR
      rintro e W2 ⟨⟨v, rfl⟩, (⟨hi, hl, hk, hs⟩ | ⟨k, hkN, c, hi, hl, hk, hs⟩), hfin⟩
      · exact ⟨none, _, by have := run_endLoop (P := P) hl (by rw [hrec]; simp); rw [hrec] at this; exact this, hdone _ (hI _ _ _ hi (Ext.putObjN _ _ _ (NC.loop hl))) (hFin _ _ hfin (Ext.putObjN _ _ _ (NC.loop hl))) ((World.putObj_heap_other (by omega)).trans hk)⟩
      · exact ⟨some c, _, by have := run_endLoop (P := P) hl (by rw [hrec]; simp); rw [hrec] at this; exact this, hstop c k _ hkN (hIx _ _ _ _ hi (Ext.putObjN _ _ _ (NC.loop hl))) (hFin _ _ hfin (Ext.putObjN _ _ _ (NC.loop hl))) ((World.putObj_heap_other (by omega)).trans hk)⟩

end Go.My
end

section
/- The iterator over a script's items. -/
namespace Go.Proofs.Ytchejnnfbinclaa
open Go.RowKit Go.My Go.Shelf

attribute [local go_sem] Oper.semAt_some

theorem nextL_rest (l : List UInt8) (h : l ≠ []) : (nextL l).2.1.length < l.length := by
  have h0 : 0 < l.length := List.length_pos_iff.2 h
  unfold nextL
  cases hb : bytesP l.length l with
  | none => exact h0
  | some xr =>
    obtain ⟨x, r⟩ := xr
    have := (bytesP_some hb).1
    have e := congrArg List.length this
    rw [List.length_append, bytesB_length] at e
    show r.length < l.length
    omega
/-- the items of a script, and whether each is whole -/
def itemsF : Nat → List UInt8 → List (List UInt8 × Bool)
  | 0, _ => []
  | d + 1, l => if l = [] then [] else ((nextL l).1, (nextL l).2.2) :: itemsF d (nextL l).2.1
def itemsL (l : List UInt8) : List (List UInt8 × Bool) := itemsF l.length l
theorem itemsF_more : ∀ (a b : Nat) (r : List UInt8), r.length ≤ a → r.length ≤ b → itemsF a r = itemsF b r := by
  intro a
  induction a with
  | zero => intro b r h1 h2; have : r = [] := List.length_eq_zero_iff.1 (by omega); subst this; cases b <;> rfl
  | succ a iha =>
    intro b r h1 h2
    cases b with
    | zero => have : r = [] := List.length_eq_zero_iff.1 (by omega); subst this; rfl
    | succ b =>
      rw [itemsF, itemsF]
      by_cases hr : r = []
      · rw [if_pos hr, if_pos hr]
      · have := nextL_rest r hr
        rw [if_neg hr, if_neg hr, iha b _ (by omega) (by omega)]
theorem itemsL_nil : itemsL [] = [] := rfl
theorem itemsL_cons (l : List UInt8) (h : l ≠ []) : itemsL l = ((nextL l).1, (nextL l).2.2) :: itemsL (nextL l).2.1 := by
  have h0 := nextL_rest l h
  unfold itemsL
  cases l with
  | nil => exact absurd rfl h
  | cons c t =>
    rw [List.length_cons, itemsF, if_neg h]
    congr 1
    exact itemsF_more _ _ _ (by rw [List.length_cons] at h0; omega) (Nat.le_refl _)

def HandedI (B : Nat) (l : List UInt8) (k : Nat) (args : Array Value) (W : World) : Prop :=
  ∃ x, args = #[x, .bool ((itemsL l).getD k ([], false)).2] ∧ NewB W B ((itemsL l).getD k ([], false)).1 x

set_option maxRecDepth 100000 in
set_option maxHeartbeats 8000000 in
theorem items1_seq (l : List UInt8) (a : Option Addr) (m c bb : Nat) (w : World) (hb : Blk w bb #[.slice a m c] 31) (hv : IsBytes w l (.slice a m c)) (hn : NilOk (.slice a m c)) (hl : l.length ≤ 1099511627776) (T : World → Nat → Prop)
    (hT : ∀ W j cs, w.heap.size + 2 ≤ j → T W j → ¬ Blk W j cs 5) :
    SeqW Try.prog 76 #[.pointer (some ⟨bb, 0, none⟩)] (itemsL l).length (HandedI (w.heap.size + 2) l) No T (fun _ => True) w := by
  intro y J Jx W hW hsz hJ hJx hY h0
  have hb1 := hb.ext hW (fun s => s)
  have hcb := hb1.cell 0
  simp only [List.getElem?_toArray, List.getElem?_cons_zero] at hcb
  have HV := Lib.hid (hv.ext0 hW); have HN := Lib.hid hn; have HT := Lib.hid hT; have H0 := Lib.hid h0; have HSZ := Lib.hid hsz; have HL := Lib.hid hl
  clear hb hv hn hl hT h0 hsz hW hb1
  refine (callsIn_wide (n := 0)).1 ?_
  show CallsIn Fence.wide 0 Try.prog _ #[.func (.yield y) #[] #[], .pointer (some ⟨bb, 0, none⟩)] W _
  refine callsIn_of_wp Try.func76 rfl trivial ?_ rfl
  simp only [Try.ntmps76, List.size_toArray, List.length_cons, List.length_nil, Nat.reduceAdd, Nat.reduceSub, Array.replicate_succ, Array.replicate_zero, List.push_toArray, List.append_toArray, List.nil_append, List.cons_append]
  gi_wp2_with fail
  gi_loopw [3] (fun v wr => ∃ (k : Nat) (r : List UInt8) (a' : Option Addr) (m' c' : Nat), v = .slice a' m' c' ∧ k ≤ (itemsL l).length ∧ itemsL r = (itemsL l).drop k ∧ r.length ≤ l.length ∧ IsBytes wr r (.slice a' m' c') ∧ NilOk (.slice a' m' c') ∧ J k wr ∧ w.heap.size + 2 ≤ wr.heap.size) (fun v _ => lenOf v)
  case atStart => exact ⟨0, l, a, m, c, rfl, by omega, by simp, Nat.le_refl _, HV.out, HN.out, H0.out, HSZ.out⟩
  case round =>
    obtain ⟨k, r, a', m', c', rfl, hk, hd, hrl, hr, hrn, hj, hz⟩ := hrel
    have hm := hr.len
    by_cases h0 : 0 < m'
    · have hne : r ≠ [] := by intro h; rw [h] at hm; simp at hm; omega
      have hcons := itemsL_cons r hne
      have hrest := nextL_rest r hne
      have hkN : k < (itemsL l).length := by
        rcases Nat.lt_or_ge k (itemsL l).length with h | h
        · exact h
        · rw [List.drop_eq_nil_of_le h, hcons] at hd; cases hd
      have hget : (itemsL l).getD k ([], false) = ((nextL r).1, (nextL r).2.2) := by
        have e := hd
        rw [hcons, List.drop_eq_getElem_cons hkN] at e
        have := (List.cons.inj e).1
        simp [List.getD_eq_getElem?_getD, List.getElem?_eq_getElem hkN, ← this]
      have hnd : itemsL (nextL r).2.1 = (itemsL l).drop (k + 1) := by
        have e := hd
        rw [hcons, List.drop_eq_getElem_cons hkN] at e
        exact (List.cons.inj e).2
      have HR := Lib.hid hr; have HRN := Lib.hid hrn; have HJ := Lib.hid hj; have HZ := Lib.hid hz; have HK := Lib.hid (And.intro hkN (And.intro hget (And.intro hnd (And.intro hrest hrl)))); have HM := Lib.hid hm
      have hm63 : m' ≤ 9223372036854775807 := by have := HL.out; omega
      have hd0 : decide (0 < (m' : Int)) = true := by simpa using h0
      clear hr hrn hj hz hkN hget hnd hrest hrl hm hd hcons hne hk
      gi_wp2_with fail
      refine ⟨trivial, rfl, (callsIn_wide.2 (next_any r a' m' c' wr HR.out HRN.out (by have := HL.out; have := HK.out.2.2.2.2; omega))).mono ?_⟩
      rintro e w2 ⟨vx, vr, rfl, hx, hvr, hx2⟩
      obtain ⟨ax, nx, cx, hxf⟩ : ∃ a n c, vx = .slice a n c := by obtain ⟨a, c, h, -⟩ := hx.1; exact ⟨a, _, c, h⟩
      obtain ⟨ar, nr, cr, hrf⟩ : ∃ a n c, vr = .slice a n c := by obtain ⟨a, c, h, -⟩ := hvr.1; exact ⟨a, _, c, h⟩
      subst hxf; subst hrf
      have hj2 : J k w2 := hJ _ _ _ HJ.out hx2
      have hh : HandedI (w.heap.size + 2) l k #[.slice ax nx cx, .bool (nextL r).2.2] w2 := by
        refine ⟨_, by rw [HK.out.2.1], ?_⟩
        rw [HK.out.2.1]
        exact ⟨hx.1, fun j hj => ⟨Nat.le_trans HZ.out (hx.2.1 j hj).1, (hx.2.1 j hj).2⟩, hx.2.2⟩
      have HVR := Lib.hid hvr; have HX2 := Lib.hid hx2
      have HNR := Lib.hid (show nr = (nextL r).2.1.length from hvr.1.len)
      generalize hnt : (nextL r).2.2 = t at *
      obtain ⟨fn, tmps, assign, body, hy, hR⟩ := hY k _ w2 HK.out.1 hj2 hh
      clear hx hvr hx2 hh hj2 hnt
      dsimp only
      gi_wp2_with fail
      refine ⟨rfl, hR.mono ?_⟩
      clear hR hy
      rintro e w4 (⟨rfl, hj4, hx4⟩ | ⟨rfl, hj4, hx4⟩)
      · have hnew := HVR.out.ext hx4 (fun j cs hB hb s => HT.out _ _ _ (Nat.le_trans HZ.out hB) s hb)
        have HNEW := Lib.hid hnew; have HJ4 := Lib.hid hj4; have HZ4 := Lib.hid (show w.heap.size + 2 ≤ w4.heap.size by have := HZ.out; have := HX2.out.size; have := hx4.size; omega)
        clear hnew hj4 hx4
        dsimp only
        gi_wp2_with fail
        go_roundw
        case rel => exact ⟨k + 1, (nextL r).2.1, ar, nr, cr, rfl, HK.out.1, HK.out.2.2.1, by have := HK.out.2.2.2; omega, HNEW.out.1, HNEW.out.2.2, HJ4.out, HZ4.out⟩
        case measure => show nr < m'; have := HK.out.2.2.2.1; have := HNR.out; have := HM.out; omega
      · have HJ4 := Lib.hid hj4; clear hj4 hx4
        dsimp only
        gi_wp2_with fail
        refine bodyPost_ret (results_none rfl _ _ _) rfl ?_
        exact ⟨⟨_, rfl⟩, .inr ⟨k + 1, HK.out.1, HJ4.out⟩, trivial⟩
    · have hm0 : m' = 0 := by omega
      have hr0 : r = [] := List.length_eq_zero_iff.1 (by omega)
      have hkN : k = (itemsL l).length := by
        rw [hr0, itemsL_nil] at hd
        have := List.drop_eq_nil_iff.1 hd.symm; omega
      have HJ := Lib.hid hj; have HKN := Lib.hid hkN
      subst hm0
      clear hj hr hrn hd hkN hk hm hr0 hrl
      gi_wp2_with fail
      go_end0
      exact ⟨⟨_, rfl⟩, .inl (HKN.out ▸ HJ.out), trivial⟩

end Go.Proofs.Ytchejnnfbinclaa
end

section
/- The contracts of script.Items and of the statements' own items. -/
namespace Go.Proofs.Ytchejnnfbinclaa
open Go.RowKit Go.My Go.Shelf

attribute [local go_sem] Oper.semAt_some

theorem sl_info : (Try.prog.info? 31).map (fun i => (i.zero, i.size, i.bytes)) = some (some (.slice none 0 0), 1, 24) := by kernel_rfl

set_option maxRecDepth 100000 in
set_option maxHeartbeats 1000000 in
theorem items0_any (a : Option Addr) (m c : Nat) (w : World) :
    Calls Try.prog 62 #[.slice a m c] w fun e w' => ∃ bb, e = .returned (.func (.func 76) #[] #[.pointer (some ⟨bb, 0, none⟩)]) ∧
      Blk w' bb #[.slice a m c] 31 ∧ Ext No w w' ∧ w.heap.size ≤ bb := by
  have hx : Ext No w (w.alloc (.cells #[.slice a m c] 31)) := (Ext.refl No w).alloc _
  have hb := Blk.new w #[.slice a m c] 31
  have HX := Lib.hid hx; have HB := Lib.hid hb; clear hx hb
  go_enter Try.func62, Try.ntmps62
  go_wp2_with fail
  go_ret
  exact ⟨_, rfl, HB.out, HX.out, Nat.le_refl _⟩

/-- a row of new rows of bytes -/
def NewBs (w : World) (B : Nat) (ls : List (List UInt8)) (v : Value) : Prop :=
  ∃ xs, w.ownsRow B 31 1 v ls.length xs ∧ ∀ i, i < ls.length → NewB w B (ls.getD i []) (xs.getD i undef)
theorem NewBs.ext {w w' : World} {B : Nat} {ls : List (List UInt8)} {v : Value} {S : Nat → Prop} (h : NewBs w B ls v) (x : Ext S w w') (hs : ∀ j cs, B ≤ j → Blk w j cs 5 → ¬ S j) (hs2 : ∀ j cs, B ≤ j → Blk w j cs 31 → ¬ S j) : NewBs w' B ls v := by
  obtain ⟨xs, h1, h2⟩ := h
  refine ⟨xs, own_ext h1 x (fun k hk s => ?_), fun i hi => (h2 i hi).ext x hs⟩
  obtain ⟨cs, hb⟩ := own_blk h1 hk
  exact hs2 k cs (World.ownsRow.lt h1 k hk).1 hb s
theorem NewBs.app {w w' : World} {B : Nat} {ls : List (List UInt8)} {v v' x : Value} {xs : List Value} {c : List UInt8} (h1 : w.ownsRow B 31 1 v ls.length xs) (h2 : ∀ i, i < ls.length → NewB w B (ls.getD i []) (xs.getD i undef))
    (hx : NewB w B c x) (h3 : w'.ownsRow B 31 1 v' (ls.length + 1) (xs ++ [x])) (g : w.grownBy w' v.ownBlock) : NewBs w' B (ls ++ [c]) v' := by
  have hl : xs.length = ls.length := by have := h1.1; omega
  have hE : Ext (fun j => v.ownBlock = some j) w w' := (Ext.refl _ w).grown g (fun j hj _ => hj)
  have kept : ∀ {l : List UInt8} {y : Value}, NewB w B l y → NewB w' B l y := fun h => h.ext hE (fun j cs _ hb s => own_ne_type h1 hb (by decide) s)
  refine ⟨xs ++ [x], by rw [List.length_append]; exact h3, fun i hi => ?_⟩
  rw [List.length_append, List.length_singleton] at hi
  by_cases hi' : i < ls.length
  · have e1 : (ls ++ [c]).getD i [] = ls.getD i [] := by simp [List.getD_eq_getElem?_getD, List.getElem?_append_left hi']
    have e2 : (xs ++ [x]).getD i undef = xs.getD i undef := by simp [List.getD_eq_getElem?_getD, List.getElem?_append_left (show i < xs.length by omega)]
    rw [e1, e2]; exact kept (h2 i hi')
  · have : i = ls.length := by omega
    subst this
    have e1 : (ls ++ [c]).getD ls.length [] = c := by simp [List.getD_eq_getElem?_getD]
    have e2 : (xs ++ [x]).getD ls.length undef = x := by rw [← hl]; simp [List.getD_eq_getElem?_getD]
    rw [e1, e2]; exact kept hx

/-- the items themselves, and how many are whole -/
def bodies (is : List (List UInt8 × Bool)) : List (List UInt8) := is.map (·.1)
def wholes (is : List (List UInt8 × Bool)) : Nat := (is.filter (·.2)).length
theorem bodies_take (is : List (List UInt8 × Bool)) (k : Nat) (hk : k < is.length) : bodies (is.take (k + 1)) = bodies (is.take k) ++ [(is.getD k ([], false)).1] := by
  unfold bodies
  rw [List.take_add_one, List.map_append, List.getElem?_eq_getElem hk]
  simp [List.getD_eq_getElem?_getD, List.getElem?_eq_getElem hk]
theorem wholes_take (is : List (List UInt8 × Bool)) (k : Nat) (hk : k < is.length) : wholes (is.take (k + 1)) = wholes (is.take k) + (if (is.getD k ([], false)).2 then 1 else 0) := by
  unfold wholes
  rw [List.take_add_one, List.filter_append, List.length_append, List.getElem?_eq_getElem hk]
  simp only [List.getD_eq_getElem?_getD, List.getElem?_eq_getElem hk, Option.getD_some, Option.toList_some]
  cases h : is[k].2 <;> simp [h]
theorem itemsF_len : ∀ (d : Nat) (l : List UInt8), (itemsF d l).length ≤ l.length := by
  intro d
  induction d with
  | zero => intro l; simp [itemsF]
  | succ d ih =>
    intro l
    rw [itemsF]
    split
    · simp
    · rename_i h
      have := nextL_rest l h
      have h2 := ih (nextL l).2.1
      rw [List.length_cons]; omega
theorem itemsL_len (l : List UInt8) : (itemsL l).length ≤ l.length := itemsF_len _ l


/-- what items has gathered -/
structure GathI (w W : World) (bm b4 b5 b6 b7 D0 D : Nat) (most : Int) (l : List UInt8) (k : Nat) : Prop where
  out : ∃ a c, Blk W b6 #[.slice a k c] 59 ∧ NewBs W w.heap.size (bodies ((itemsL l).take k)) (.slice a k c) ∧ ∀ j, (Value.slice a k c).ownBlock = some j → j < D0 ∨ D + 2 ≤ j
  cnt : Blk W b7 #[.int .i64 (wholes ((itemsL l).take k) : Nat)] 3
  mst : Blk W bm #[.int .i64 most] 3
  r4 : Blk W b4 #[.slice none 0 0] 59
  r5 : Blk W b5 #[.int .i64 0] 3
  lt : (k : Int) < most
  ext : Ext No w W
/-- and where it ends early -/
structure GathIX (w W : World) (b4 b5 : Nat) (most : Int) (l : List UInt8) (k : Nat) : Prop where
  out : ∃ x, Blk W b4 #[x] 59 ∧ NewBs W w.heap.size (bodies ((itemsL l).take k)) x
  r5 : Blk W b5 #[.int .i64 (wholes ((itemsL l).take k) : Nat)] 3
  eq : (k : Int) = most
  ext : Ext No w W
theorem NewBs.extN {A B' : World} {B D' : Nat} {ls : List (List UInt8)} {v : Value} (h : NewBs A B ls v) (x : Ext (fun j => No j ∨ (j = D' ∧ NC A j)) A B') : NewBs B' B ls v :=
  h.ext x (fun _ _ _ hb s => s.elim id (fun n => n.2 _ _ _ hb)) (fun _ _ _ hb s => s.elim id (fun n => n.2 _ _ _ hb))
theorem GathI.turn {w W W' : World} {bm b4 b5 b6 b7 D0 D : Nat} {most : Int} {l : List UInt8} {k : Nat} {D' : Nat} (h : GathI w W bm b4 b5 b6 b7 D0 D most l k) (hD : w.heap.size ≤ D')
    (x : Ext (fun j => No j ∨ (j = D' ∧ NC W j)) W W') : GathI w W' bm b4 b5 b6 b7 D0 D most l k := by
  obtain ⟨⟨a, c, h8, ho, hj⟩, h9, hm, h6, h7, hlt, he⟩ := h
  exact ⟨⟨a, c, h8.extN x (fun s => s), ho.extN x, hj⟩, h9.extN x (fun s => s), hm.extN x (fun s => s), h6.extN x (fun s => s), h7.extN x (fun s => s), hlt,
    he.trans x (fun _ _ h => h) (fun k hk h => h.elim id (fun h => absurd hk (by omega)))⟩
theorem GathIX.turn {w W W' : World} {b4 b5 : Nat} {most : Int} {l : List UInt8} {k : Nat} {D' : Nat} (h : GathIX w W b4 b5 most l k) (hD : w.heap.size ≤ D')
    (x : Ext (fun j => No j ∨ (j = D' ∧ NC W j)) W W') : GathIX w W' b4 b5 most l k := by
  obtain ⟨⟨y, h6, ho⟩, h7, hlt, he⟩ := h
  exact ⟨⟨y, h6.extN x (fun s => s), ho.extN x⟩, h7.extN x (fun s => s), hlt, he.trans x (fun _ _ h => h) (fun k hk h => h.elim id (fun h => absurd hk (by omega)))⟩

end Go.Proofs.Ytchejnnfbinclaa
end

section
/- The contract of items (the statements' own function). -/
namespace Go.Proofs.Ytchejnnfbinclaa
open Go.RowKit Go.My Go.Shelf

attribute [local go_sem] Oper.semAt_some

/-- which blocks a round may turn -/
def UI (B B0 D : Nat) (W : World) (j : Nat) : Prop := (B ≤ j ∧ j < B0) ∨ (D + 2 ≤ j ∧ ∃ cs, Blk W j cs 31)

set_option maxRecDepth 100000 in
set_option maxHeartbeats 4000000 in
theorem itemsS_any (l : List UInt8) (a : Option Addr) (m cap : Nat) (most : Int) (w : World) (hv : IsBytes w l (.slice a m cap)) (hn : NilOk (.slice a m cap)) (hl : l.length ≤ 1099511627776) :
    Calls Try.prog 25 #[.slice a m cap, .int .i64 most] w fun e w' => ∃ x, e = .returned (.tuple #[x, .int .i64 (wholes ((itemsL l).take most.toNat) : Nat)]) ∧ NewBs w' w.heap.size (bodies ((itemsL l).take most.toNat)) x ∧ Ext No w w' := by
  have HV := Lib.hid hv; have HNN := Lib.hid hn; have HL := Lib.hid hl
  clear hv hn hl
  refine (callsIn_wide (n := 0)).1 ?_
  refine callsIn_of_wp_marks Try.func25 rfl trivial ?_ rfl
  simp only [Try.ntmps25, List.size_toArray, List.length_cons, List.length_nil, Nat.reduceAdd, Nat.reduceSub, Array.replicate_succ, Array.replicate_zero, List.push_toArray, List.append_toArray, List.nil_append, List.cons_append]
  by_cases hm : most ≤ 0
  · obtain ⟨w0, hw0⟩ : ∃ w0, lay w [(#[.int .i64 most], 3), (#[.slice none 0 0], 59), (#[.int .i64 0], 3), (#[], 31), (#[.slice (some ⟨w.heap.size + 3, 0, none⟩) 0 0], 59), (#[.int .i64 0], 3)] = w0 := ⟨_, rfl⟩
    have hx : Ext No w w0 := by rw [← hw0]; exact lay_ext _ (Ext.refl _ _)
    have hb1 := lay_at hw0 1 _ _ rfl
    have hb2 := lay_at hw0 2 _ _ rfl
    have hb3 := lay_at hw0 3 _ _ rfl
    have hb4 := lay_at hw0 4 _ _ rfl
    have hb5 := lay_at hw0 5 _ _ rfl
    simp only [lay] at hw0; have HW0 := Lib.hid hw0; clear hw0
    have HX := Lib.hid hx; have HB := Lib.hid (And.intro hb1 (And.intro hb2 hb3)); clear hx hb3
    have hmxo : Try.prog.follows .mixedOrders = true := by kernel_rfl
    have HB1 := Lib.hid hb1; have HB2 := Lib.hid hb2; have HB4 := Lib.hid hb4; have HB5 := Lib.hid hb5
    clear hb1 hb2 hb4 hb5
    gi_wp2_with fail
    rw [HW0.out]; clear HW0
    generalize h7 : w.heap.size + 1 + 1 + 1 + 1 + 1 = b7
    generalize h6 : w.heap.size + 1 + 1 + 1 + 1 = b6
    generalize h3 : w.heap.size + 1 + 1 + 1 = b3
    generalize h5 : w.heap.size + 1 + 1 = b5
    generalize h4 : w.heap.size + 1 = b4
    have hb4 : Blk w0 b4 #[.slice none 0 0] 59 := by subst h4; exact HB1.out
    have hb5 : Blk w0 b5 #[.int .i64 0] 3 := by subst h5; exact HB2.out
    have hb6 : Blk w0 b6 #[.slice (some ⟨b3, 0, none⟩) 0 0] 59 := by subst h6 h3; exact HB4.out
    have hb7 : Blk w0 b7 #[.int .i64 0] 3 := by subst h7; exact HB5.out
    have hb3 : Blk w0 b3 #[] 31 := by subst h3; exact HB.out.2.2
    have hc4 := hb4.cell 0; have hf4 := hb4.free 0; have hc5 := hb5.cell 0; have hf5 := hb5.free 0; have hc6 := hb6.cell 0; have hc7 := hb7.cell 0
    simp only [List.getElem?_toArray, List.getElem?_cons_zero] at hc4 hc5 hc6 hc7
    have hn45 : b4 ≠ b5 := by omega
    have hn46 : b4 ≠ b6 := by omega
    have hn47 : b4 ≠ b7 := by omega
    have hn56 : b5 ≠ b6 := by omega
    have hn57 : b5 ≠ b7 := by omega
    have HH := Lib.hid (And.intro hb4 (And.intro hb5 hb3)); have HLT := Lib.hid (show w.heap.size ≤ b3 ∧ w.heap.size ≤ b4 ∧ w.heap.size ≤ b5 by omega)
    clear hb4 hb5 hb6 hb7 hb3 h7 h6 h3 h5 h4 HB HB1 HB2 HB4 HB5
    gi_region_with_o (fail)
    all_goals gi_wp2_with fail
    all_goals
      obtain ⟨hb4, hb5, hb3⟩ := HH.out
      obtain ⟨l3, l4, l5⟩ := HLT.out
      have hs : Ext (fun j => j = b4 ∨ j = b5) w0 (((w0.setCell ⟨b4, 0, none⟩ (.slice (some ⟨b3, 0, none⟩) 0 0)).setCell ⟨b5, 0, none⟩ (.int .i64 0)).drew) :=
        (((Ext.refl _ w0).setCell _ _ (fun _ => .inl rfl)).setCell _ _ (fun _ => .inr rfl)).drew
      have hr4 := (((hb4.set 0 (.slice (some ⟨b3, 0, none⟩) 0 0)).set_other ⟨b5, 0, none⟩ (.int .i64 0) (fun h => hn45 h)).drew).cell 0
      have hr5 := (((hb5.set_other ⟨b4, 0, none⟩ (.slice (some ⟨b3, 0, none⟩) 0 0) (fun h => hn45 h.symm)).set 0 (.int .i64 0)).drew).cell 0
      have ho : NewBs w0 w.heap.size [] (.slice (some ⟨b3, 0, none⟩) 0 0) := ⟨[], ⟨rfl, .inr ⟨b3, 0, #[], rfl, l3, hb3, by simp, by decide, by simp, by simp⟩⟩, fun i hi => by simp at hi⟩
      have ho2 := ho.ext hs (fun j cs _ hb s => by
          rcases s with s | s
          · subst s; exact Blk.ne_type hb hb4 (by decide) rfl
          · subst s; exact Blk.ne_type hb hb5 (by decide) rfl) (fun j cs _ hb s => by
          rcases s with s | s
          · subst s; exact Blk.ne_type hb hb4 (by decide) rfl
          · subst s; exact Blk.ne_type hb hb5 (by decide) rfl)
      have hE : Ext No w _ := HX.out.trans hs (fun _ _ s => s) (fun j hj s => by omega)
      generalize (((w0.setCell ⟨b4, 0, none⟩ (.slice (some ⟨b3, 0, none⟩) 0 0)).setCell ⟨b5, 0, none⟩ (.int .i64 0)).drew) = W4 at *
      simp at hr4 hr5
      rw [show most.toNat = 0 by omega, List.take_zero]
      exact ⟨.tuple #[.slice (some ⟨b3, 0, none⟩) 0 0, .int .i64 0], by simp [results, Try.func25, Try.f25, go_sem, hr4, hr5], _, rfl, ho2, hE⟩
  · have hm' : decide (most ≤ 0) = false := by simp; omega
    obtain ⟨w0, hw0⟩ : ∃ w0, lay w [(#[.int .i64 most], 3), (#[.slice none 0 0], 59), (#[.int .i64 0], 3), (#[], 31), (#[.slice (some ⟨w.heap.size + 3, 0, none⟩) 0 0], 59), (#[.int .i64 0], 3)] = w0 := ⟨_, rfl⟩
    have hx : Ext No w w0 := by rw [← hw0]; exact lay_ext _ (Ext.refl _ _)
    have hsz : w0.heap.size = w.heap.size + 6 := by rw [← hw0]; exact lay_size _ w
    have hb0 := lay_at hw0 0 _ _ rfl
    have hb1 := lay_at hw0 1 _ _ rfl
    have hb2 := lay_at hw0 2 _ _ rfl
    have hb3 := lay_at hw0 3 _ _ rfl
    have hb4 := lay_at hw0 4 _ _ rfl
    have hb5 := lay_at hw0 5 _ _ rfl
    simp only [lay] at hw0; have HW0 := Lib.hid hw0; clear hw0
    have HX := Lib.hid hx; have HSZ := Lib.hid hsz; have HB := Lib.hid (And.intro hb0 (And.intro hb1 (And.intro hb2 (And.intro hb3 (And.intro hb4 hb5))))); clear hx hb3 hb1 hb2 hb4 hb5 hsz hb0
    gi_wp2_with fail
    rw [HW0.out]; clear HW0
    refine ⟨trivial, rfl, (callsIn_wide.2 (items0_any a m cap _)).mono ?_⟩
    rintro e w1 ⟨bb, rfl, hbb, hx1, h1⟩
    have hx2 := HX.out.trans' hx1
    have hnn : NewBs w0 w.heap.size [] (.slice (some ⟨w.heap.size + 3, 0, none⟩) 0 0) :=
      ⟨[], ⟨rfl, .inr ⟨_, 0, #[], rfl, by omega, HB.out.2.2.2.1, by simp, by decide, by simp, by simp⟩⟩, fun i hi => by simp at hi⟩
    have hg0 : GathI w w1 (w.heap.size + 0) (w.heap.size + 1) (w.heap.size + 2) (w.heap.size + 4) (w.heap.size + 5) w0.heap.size w1.heap.size most l 0 := by
      obtain ⟨hb0, hb1, hb2, hb3, hb4, hb5⟩ := HB.out
      refine ⟨⟨_, _, hb4.ext hx1 (fun x => x), ?_, ?_⟩, hb5.ext hx1 (fun x => x), hb0.ext hx1 (fun x => x), hb1.ext hx1 (fun x => x), hb2.ext hx1 (fun x => x), by omega, hx2⟩
      · rw [List.take_zero]; exact hnn.ext hx1 (fun _ _ _ _ x => x) (fun _ _ _ _ x => x)
      · intro j hj
        have : w.heap.size + 3 = j := Option.some.inj hj
        have := HSZ.out; omega
    have l1 := hbb.lt
    have l7 := HSZ.out
    have l8 := hx1.size
    dsimp only
    generalize h7 : w.heap.size + 1 + 1 + 1 + 1 + 1 = b7
    generalize h6 : w.heap.size + 1 + 1 + 1 + 1 = b6
    generalize h3 : w.heap.size + 1 + 1 + 1 = b3
    generalize h5 : w.heap.size + 1 + 1 = b5
    generalize h4 : w.heap.size + 1 = b4
    have hg1 : GathI w w1 w.heap.size b4 b5 b6 b7 w0.heap.size w1.heap.size most l 0 := by subst h4 h5 h6 h7; exact hg0
    have hseq := items1_seq l a m cap bb w1 hbb (HV.out.ext0 hx2) HNN.out HL.out (fun W k => UI w.heap.size w0.heap.size w1.heap.size W k ∨ k = w1.heap.size ∨ k = w1.heap.size + 1) (fun W j cs hj hU hb => by
      rcases hU with (hU | ⟨_, cs', hb'⟩) | hU
      · omega
      · exact Blk.ne_type hb hb' (by decide) rfl
      · omega)
    have HG0 := Lib.hid hg1; have HSEQ := Lib.hid hseq
    have HLT := Lib.hid (And.intro (show b4 = w.heap.size + 1 ∧ b5 = w.heap.size + 2 ∧ b6 = w.heap.size + 4 ∧ b7 = w.heap.size + 5 by omega) (And.intro h1 (And.intro l1 (And.intro l7 l8))))
    clear hg0 hg1 hseq hnn hx1 hx2 hbb h1 l1 l7 l8 h7 h6 h3 h5 h4 HX HB HSZ HV HNN
    gi_wp2_with fail
    refine wpIn_rangeW (gf := 76) (lb := #[.pointer (some ⟨bb, 0, none⟩)]) rfl (enters_of Try.func76 (by kernel_rfl) rfl)
      (UI w.heap.size w0.heap.size w1.heap.size) No (N := (itemsL l).length) HSEQ.out ?hUp ?hFin ?hps ?hA ?hU0 ?hU1 (fun s => s) (fun s => s)
      (fun k W => GathI w W w.heap.size b4 b5 b6 b7 w0.heap.size w1.heap.size most l k) (fun c k W => c = .ret ∧ GathIX w W b4 b5 most l k) ?hI ?hIx HG0.out
      (fun args => { tmps := #[.slice a m cap, .int .i64 most, undef, .pointer (some ⟨w.heap.size, 0, none⟩), .pointer (some ⟨b4, 0, none⟩), .pointer (some ⟨b5, 0, none⟩), .pointer (some ⟨b6, 0, none⟩), .pointer (some ⟨b7, 0, none⟩),
        args.getD 0 undef, args.getD 1 undef, .slice (some ⟨b3, 0, none⟩) 0 0, .int .i64 most, .bool false, undef, undef, .slice a m cap, .func (.func 76) #[] #[.pointer (some ⟨bb, 0, none⟩)], args.getD 0 undef, args.getD 1 undef, undef, undef, undef, undef, undef, undef, undef, undef, undef, undef, undef, undef, undef, undef, undef], defers := [] })
      ?assign ?body ?done ?stop
    case hUp =>
      intro W o r k hr hU
      rcases hU with hU | ⟨hk, cs, hb⟩
      · exact .inl (.inl hU)
      · refine .inl (.inr ⟨hk, cs, ?_⟩)
        unfold Blk at hb ⊢
        rw [World.putObj_heap_other (by omega)] at hb; exact hb
    case hFin => intro A B _ _; trivial
    case hps => rintro k args W ⟨x, rfl, -⟩; rfl
    case hA =>
      rintro k args W r o ⟨x, rfl, hx⟩ hl
      exact ⟨x, rfl, hx.ext ((Ext.refl _ W).putObj _ _ (fun _ => rfl)) (fun j cs _ hb s => by subst s; unfold Blk at hb; rw [hl] at hb; cases hb)⟩
    case hU0 => obtain ⟨h0, h1, l1, l7, l8⟩ := HLT.out; rintro W (h | ⟨h, -⟩) <;> omega
    case hU1 => obtain ⟨h0, h1, l1, l7, l8⟩ := HLT.out; rintro W (h | ⟨h, -⟩) <;> omega
    case hI =>
      obtain ⟨h0, h1, l1, l7, l8⟩ := HLT.out
      intro k A B h hx
      exact h.turn (by omega) hx
    case hIx =>
      obtain ⟨h0, h1, l1, l7, l8⟩ := HLT.out
      rintro c k A B ⟨rfl, h⟩ hx
      exact ⟨rfl, h.turn (by omega) hx⟩
    case assign =>
      rintro y k args W K ⟨x, rfl, -⟩ hK
      gi_wp2_with fail
      exact hK
    case body =>
      rintro y k args W hkN hg ⟨x, rfl, hx⟩ hsz
      obtain ⟨h0, h1, l1, l7, l8⟩ := HLT.out
      have hkl := itemsL_len l
      have hll := HL.out
      have htk : (bodies ((itemsL l).take k)).length = k := by unfold bodies; rw [List.length_map, List.length_take]; omega
      have hbt := bodies_take (itemsL l) k hkN
      have hwt := wholes_take (itemsL l) k hkN
      obtain ⟨⟨a5, c5, hb6, ⟨xs, ho5, he5⟩, hj⟩, hb7, hbm, hb4, hb5, hlt, hext⟩ := hg
      rw [htk] at ho5 he5
      have hwk : wholes ((itemsL l).take k) ≤ k := by unfold wholes; have := List.length_filter_le (fun x : List UInt8 × Bool => x.2) ((itemsL l).take k); rw [List.length_take] at this; omega
      generalize hit : (itemsL l).getD k ([], false) = it at *
      obtain ⟨cl, t⟩ := it
      generalize hwh : wholes ((itemsL l).take k) = wh at *
      obtain ⟨ax, nx, cx, hxf⟩ : ∃ a n c, x = .slice a n c := by obtain ⟨a, c, h, -⟩ := hx.1; exact ⟨a, _, c, h⟩
      subst hxf
      have hxB : NewB W w.heap.size cl (.slice ax nx cx) := ⟨hx.1, fun j hj => ⟨by have := (hx.2.1 j hj).1; omega, (hx.2.1 j hj).2⟩, hx.2.2⟩
      have hx9 : Ext No W (W.alloc (.cells #[.slice ax nx cx] 31)) := (Ext.refl No W).alloc _
      have HX := Lib.hid (hxB.ext hx9 (fun _ _ _ _ s => s)); have HO5 := Lib.hid (ho5.alloc (.cells #[.slice ax nx cx] 31))
      have HE5 := Lib.hid (show ∀ i, i < k → NewB (W.alloc (.cells #[.slice ax nx cx] 31)) w.heap.size ((bodies ((itemsL l).take k)).getD i []) (xs.getD i undef) from fun i hi => (he5 i (by omega)).ext hx9 (fun _ _ _ _ s => s))
      have HB6 := Lib.hid (hb6.alloc (.cells #[.slice ax nx cx] 31)); have HB7 := Lib.hid (hb7.alloc (.cells #[.slice ax nx cx] 31)); have HBM := Lib.hid (hbm.alloc (.cells #[.slice ax nx cx] 31)); have HB4 := Lib.hid (hb4.alloc (.cells #[.slice ax nx cx] 31)); have HB5 := Lib.hid (hb5.alloc (.cells #[.slice ax nx cx] 31))
      have HN6 := Lib.hid (own_ne_type HO5.out HB6.out (by decide)); have HN7 := Lib.hid (own_ne_type HO5.out HB7.out (by decide)); have HNM := Lib.hid (own_ne_type HO5.out HBM.out (by decide)); have HN4 := Lib.hid (own_ne_type HO5.out HB4.out (by decide)); have HN5 := Lib.hid (own_ne_type HO5.out HB5.out (by decide))
      have HN := Lib.hid (show k + 1 ≤ 9223372036854775807 ∧ (k + 1) * 24 ≤ 140737488355328 by omega)
      have HZ := Lib.hid (show w.heap.size ≤ (W.alloc (.cells #[.slice ax nx cx] 31)).heap.size by rw [World.size_alloc]; omega)
      have HSZ := Lib.hid hsz; have HTK := Lib.hid htk; have HBT := Lib.hid hbt; have HWT := Lib.hid hwt; have HEX := Lib.hid hext; have HJ := Lib.hid hj; have HLT5 := Lib.hid hlt
      have hc6 := hb6.cell 0; have hf6 := hb6.free 0
      simp only [List.getElem?_toArray, List.getElem?_cons_zero] at hc6
      have hwh2 : wh ≤ 1099511627776 := by omega
      have hn67 : b6 ≠ b7 := by omega
      have hn6m : b6 ≠ w.heap.size := by omega
      have hn7m : b7 ≠ w.heap.size := by omega
      have hn45 : b4 ≠ b5 := by omega
      have hn46 : b4 ≠ b6 := by omega
      have hn47 : b4 ≠ b7 := by omega
      have hn56 : b5 ≠ b6 := by omega
      have hn57 : b5 ≠ b7 := by omega
      have hn76 : b7 ≠ b6 := by omega
      have hmxo : Try.prog.follows .mixedOrders = true := by kernel_rfl
      clear hb6 hb7 hbm hb4 hb5 ho5 he5 hj hlt hext hx hxB hx9 hkl hll htk hbt hwt hsz hwk hwh hit h0 h1 l1 l7 l8
      by_cases hme : (k : Int) + 1 = most
      · have hd1 : decide ((k : Int) + 1 = most) = true := by simpa using hme
        have hd2 : ((k : Int) + 1 == most) = true := by simpa using hme
        have HME := Lib.hid hme; clear hme
        cases t with
        | false =>
          gi_wp2_with (gi_at_builtin; refine wpListIn_app1 _ _ rfl _ _ 59 rfl w.heap.size 31 _ _ sl_info Try.underlying59 rfl _ _ _ rfl HO5.out _ rfl (cell_new _ _ _ rfl) rfl HN.out.1 HN.out.2 HZ.out ?_; intro v' w2 hown hgrow hat; obtain ⟨a6, c6, rfl⟩ := own_form hown; have hd6 := (HB6.out.grown hgrow HN6.out).cell 0; have hg6 := (HB6.out.grown hgrow HN6.out).free 0; have hd7 := (HB7.out.grown hgrow HN7.out).cell 0; have hg7 := (HB7.out.grown hgrow HN7.out).free 0; have hdm := (HBM.out.grown hgrow HNM.out).cell 0; have hd4 := (HB4.out.grown hgrow HN4.out).cell 0; have hg4 := (HB4.out.grown hgrow HN4.out).free 0; have hd5 := (HB5.out.grown hgrow HN5.out).cell 0; have hg5 := (HB5.out.grown hgrow HN5.out).free 0; simp only [List.getElem?_toArray, List.getElem?_cons_zero] at hd6 hd7 hdm hd4 hd5)
          gi_region_with_o (fail)
          all_goals gi_wp2_with fail
          all_goals
            obtain ⟨h0, h1, l1, l7, l8⟩ := HLT.out
            have hz := HSZ.out
            have hb6 := HB6.out.grown hgrow HN6.out; have hb7 := HB7.out.grown hgrow HN7.out; have hbm := HBM.out.grown hgrow HNM.out; have hb4 := HB4.out.grown hgrow HN4.out; have hb5 := HB5.out.grown hgrow HN5.out
            have hap := NewBs.app (ls := bodies ((itemsL l).take k)) (v := .slice a5 k c5) (v' := .slice a6 (k + 1) c6) (by rw [HTK.out]; exact HO5.out) (fun i hi => HE5.out i (by rw [HTK.out] at hi; exact hi)) HX.out (by rw [HTK.out]; exact hown) hgrow
            rw [← HBT.out] at hap
            have hrow : ∀ j, (Value.slice a5 k c5).ownBlock = some j → w.heap.size ≤ j := fun j hj => (World.ownsRow.lt HO5.out j hj).1
            have hU : Ext (UI w.heap.size w0.heap.size w1.heap.size W) W w2 := ((Ext.refl _ W).alloc _).grown hgrow (fun j hj hjW => by
              rcases HJ.out j hj with h | h
              · exact .inl ⟨hrow j hj, h⟩
              · obtain ⟨cs, hb⟩ := own_blk HO5.out hj
                refine .inr ⟨h, cs, ?_⟩
                unfold Blk at hb ⊢
                rw [Below.heap_alloc _ _ _ hjW] at hb; exact hb)
            have hE : Ext No w w2 := (HEX.out.alloc _).grown hgrow (fun j hj h => absurd h (by have := hrow j hj; omega))
            have hU6 : w.heap.size ≤ b6 ∧ b6 < w0.heap.size := by omega
            have hU7 : w.heap.size ≤ b7 ∧ b7 < w0.heap.size := by omega
            have hrowN : ∀ j, (Value.slice a6 (k + 1) c6).ownBlock = some j → j < w0.heap.size ∨ w1.heap.size + 2 ≤ j := fun j hj => by
              rcases hat with h | h
              · rw [h] at hj; exact HJ.out j hj
              · rw [h] at hj
                have hj' := Option.some.inj hj
                rw [World.size_alloc] at hj'
                omega
            have hwt : wholes ((itemsL l).take (k + 1)) = wh := by rw [HWT.out]; simp
            have hs : Ext (fun j => j = b6 ∨ j = b4 ∨ j = b5) w2 ((((w2.setCell ⟨b6, 0, none⟩ (.slice a6 (k + 1) c6)).setCell ⟨b4, 0, none⟩ (.slice a6 (k + 1) c6)).setCell ⟨b5, 0, none⟩ (.int .i64 (wh : Nat))).drew) :=
              ((((Ext.refl _ w2).setCell _ _ (fun _ => .inl rfl)).setCell _ _ (fun _ => .inr (.inl rfl))).setCell _ _ (fun _ => .inr (.inr rfl))).drew
            have hsT : ∀ j cs, w.heap.size ≤ j → Blk w2 j cs 5 → ¬ (j = b6 ∨ j = b4 ∨ j = b5) := fun j cs _ hb s => by
              rcases s with s | s | s
              · subst s; exact Blk.ne_type hb hb6 (by decide) rfl
              · subst s; exact Blk.ne_type hb hb4 (by decide) rfl
              · subst s; exact Blk.ne_type hb hb5 (by decide) rfl
            have hsT2 : ∀ j cs, w.heap.size ≤ j → Blk w2 j cs 31 → ¬ (j = b6 ∨ j = b4 ∨ j = b5) := fun j cs _ hb s => by
              rcases s with s | s | s
              · subst s; exact Blk.ne_type hb hb6 (by decide) rfl
              · subst s; exact Blk.ne_type hb hb4 (by decide) rfl
              · subst s; exact Blk.ne_type hb hb5 (by decide) rfl
            refine ⟨hU.trans hs (fun _ _ s => s) (fun j _ s => .inl (by omega)), rfl, ⟨_, (((hb4.set_other ⟨b6, 0, none⟩ _ (fun h => hn46 h)).set 0 _).set_other ⟨b5, 0, none⟩ _ (fun h => hn45 h)).drew, hap.ext hs hsT hsT2⟩, ?_, by have := HME.out; omega, hE.trans hs (fun _ _ s => s) (fun j _ s => by omega)⟩
            rw [hwt]
            exact (((hb5.set_other ⟨b6, 0, none⟩ _ (fun h => hn56 h)).set_other ⟨b4, 0, none⟩ _ (fun h => hn45 h.symm)).set 0 _).drew
        | true =>
          gi_wp2_with (gi_at_builtin; refine wpListIn_app1 _ _ rfl _ _ 59 rfl w.heap.size 31 _ _ sl_info Try.underlying59 rfl _ _ _ rfl HO5.out _ rfl (cell_new _ _ _ rfl) rfl HN.out.1 HN.out.2 HZ.out ?_; intro v' w2 hown hgrow hat; obtain ⟨a6, c6, rfl⟩ := own_form hown; have hd6 := (HB6.out.grown hgrow HN6.out).cell 0; have hg6 := (HB6.out.grown hgrow HN6.out).free 0; have hd7 := (HB7.out.grown hgrow HN7.out).cell 0; have hg7 := (HB7.out.grown hgrow HN7.out).free 0; have hdm := (HBM.out.grown hgrow HNM.out).cell 0; have hd4 := (HB4.out.grown hgrow HN4.out).cell 0; have hg4 := (HB4.out.grown hgrow HN4.out).free 0; have hd5 := (HB5.out.grown hgrow HN5.out).cell 0; have hg5 := (HB5.out.grown hgrow HN5.out).free 0; simp only [List.getElem?_toArray, List.getElem?_cons_zero] at hd6 hd7 hdm hd4 hd5)
          gi_region_with_o (fail)
          all_goals gi_wp2_with fail
          all_goals
            obtain ⟨h0, h1, l1, l7, l8⟩ := HLT.out
            have hz := HSZ.out
            have hb6 := HB6.out.grown hgrow HN6.out; have hb7 := HB7.out.grown hgrow HN7.out; have hbm := HBM.out.grown hgrow HNM.out; have hb4 := HB4.out.grown hgrow HN4.out; have hb5 := HB5.out.grown hgrow HN5.out
            have hap := NewBs.app (ls := bodies ((itemsL l).take k)) (v := .slice a5 k c5) (v' := .slice a6 (k + 1) c6) (by rw [HTK.out]; exact HO5.out) (fun i hi => HE5.out i (by rw [HTK.out] at hi; exact hi)) HX.out (by rw [HTK.out]; exact hown) hgrow
            rw [← HBT.out] at hap
            have hrow : ∀ j, (Value.slice a5 k c5).ownBlock = some j → w.heap.size ≤ j := fun j hj => (World.ownsRow.lt HO5.out j hj).1
            have hU : Ext (UI w.heap.size w0.heap.size w1.heap.size W) W w2 := ((Ext.refl _ W).alloc _).grown hgrow (fun j hj hjW => by
              rcases HJ.out j hj with h | h
              · exact .inl ⟨hrow j hj, h⟩
              · obtain ⟨cs, hb⟩ := own_blk HO5.out hj
                refine .inr ⟨h, cs, ?_⟩
                unfold Blk at hb ⊢
                rw [Below.heap_alloc _ _ _ hjW] at hb; exact hb)
            have hE : Ext No w w2 := (HEX.out.alloc _).grown hgrow (fun j hj h => absurd h (by have := hrow j hj; omega))
            have hU6 : w.heap.size ≤ b6 ∧ b6 < w0.heap.size := by omega
            have hU7 : w.heap.size ≤ b7 ∧ b7 < w0.heap.size := by omega
            have hrowN : ∀ j, (Value.slice a6 (k + 1) c6).ownBlock = some j → j < w0.heap.size ∨ w1.heap.size + 2 ≤ j := fun j hj => by
              rcases hat with h | h
              · rw [h] at hj; exact HJ.out j hj
              · rw [h] at hj
                have hj' := Option.some.inj hj
                rw [World.size_alloc] at hj'
                omega
            have hwt : wholes ((itemsL l).take (k + 1)) = wh + 1 := by rw [HWT.out]; simp
            have hs : Ext (fun j => j = b6 ∨ j = b4 ∨ j = b5 ∨ j = b7) w2 (((((w2.setCell ⟨b6, 0, none⟩ (.slice a6 (k + 1) c6)).setCell ⟨b7, 0, none⟩ (.int .i64 ((wh : Int) + 1))).setCell ⟨b4, 0, none⟩ (.slice a6 (k + 1) c6)).setCell ⟨b5, 0, none⟩ (.int .i64 ((wh : Int) + 1))).drew) :=
              (((((Ext.refl _ w2).setCell _ _ (fun _ => .inl rfl)).setCell _ _ (fun _ => .inr (.inr (.inr rfl)))).setCell _ _ (fun _ => .inr (.inl rfl))).setCell _ _ (fun _ => .inr (.inr (.inl rfl)))).drew
            have hsT : ∀ j cs, w.heap.size ≤ j → Blk w2 j cs 5 → ¬ (j = b6 ∨ j = b4 ∨ j = b5 ∨ j = b7) := fun j cs _ hb s => by
              rcases s with s | s | s | s
              · subst s; exact Blk.ne_type hb hb6 (by decide) rfl
              · subst s; exact Blk.ne_type hb hb4 (by decide) rfl
              · subst s; exact Blk.ne_type hb hb5 (by decide) rfl
              · subst s; exact Blk.ne_type hb hb7 (by decide) rfl
            have hsT2 : ∀ j cs, w.heap.size ≤ j → Blk w2 j cs 31 → ¬ (j = b6 ∨ j = b4 ∨ j = b5 ∨ j = b7) := fun j cs _ hb s => by
              rcases s with s | s | s | s
              · subst s; exact Blk.ne_type hb hb6 (by decide) rfl
              · subst s; exact Blk.ne_type hb hb4 (by decide) rfl
              · subst s; exact Blk.ne_type hb hb5 (by decide) rfl
              · subst s; exact Blk.ne_type hb hb7 (by decide) rfl
            refine ⟨hU.trans hs (fun _ _ s => s) (fun j _ s => .inl (by omega)), rfl, ⟨_, ((((hb4.set_other ⟨b6, 0, none⟩ _ (fun h => hn46 h)).set_other ⟨b7, 0, none⟩ _ (fun h => hn47 h)).set 0 _).set_other ⟨b5, 0, none⟩ _ (fun h => hn45 h)).drew, hap.ext hs hsT hsT2⟩, ?_, by have := HME.out; omega, hE.trans hs (fun _ _ s => s) (fun j _ s => by omega)⟩
            rw [hwt, show (((wh + 1 : Nat)) : Int) = (wh : Int) + 1 by omega]
            exact ((((hb5.set_other ⟨b6, 0, none⟩ _ (fun h => hn56 h)).set_other ⟨b7, 0, none⟩ _ (fun h => hn57 h)).set_other ⟨b4, 0, none⟩ _ (fun h => hn45 h.symm)).set 0 _).drew
      · have hd1 : decide ((k : Int) + 1 = most) = false := by simpa using hme
        have hd2 : ((k : Int) + 1 == most) = false := by simpa using hme
        have HME := Lib.hid hme; clear hme
        cases t with
        | false =>
          gi_wp2_with (gi_at_builtin; refine wpListIn_app1 _ _ rfl _ _ 59 rfl w.heap.size 31 _ _ sl_info Try.underlying59 rfl _ _ _ rfl HO5.out _ rfl (cell_new _ _ _ rfl) rfl HN.out.1 HN.out.2 HZ.out ?_; intro v' w2 hown hgrow hat; obtain ⟨a6, c6, rfl⟩ := own_form hown; have hd6 := (HB6.out.grown hgrow HN6.out).cell 0; have hg6 := (HB6.out.grown hgrow HN6.out).free 0; have hd7 := (HB7.out.grown hgrow HN7.out).cell 0; have hg7 := (HB7.out.grown hgrow HN7.out).free 0; have hdm := (HBM.out.grown hgrow HNM.out).cell 0; simp only [List.getElem?_toArray, List.getElem?_cons_zero] at hd6 hd7 hdm)
          obtain ⟨h0, h1, l1, l7, l8⟩ := HLT.out
          have hz := HSZ.out
          have hb6 := HB6.out.grown hgrow HN6.out; have hb7 := HB7.out.grown hgrow HN7.out; have hbm := HBM.out.grown hgrow HNM.out; have hb4 := HB4.out.grown hgrow HN4.out; have hb5 := HB5.out.grown hgrow HN5.out
          have hap := NewBs.app (ls := bodies ((itemsL l).take k)) (v := .slice a5 k c5) (v' := .slice a6 (k + 1) c6) (by rw [HTK.out]; exact HO5.out) (fun i hi => HE5.out i (by rw [HTK.out] at hi; exact hi)) HX.out (by rw [HTK.out]; exact hown) hgrow
          rw [← HBT.out] at hap
          have hrow : ∀ j, (Value.slice a5 k c5).ownBlock = some j → w.heap.size ≤ j := fun j hj => (World.ownsRow.lt HO5.out j hj).1
          have hU : Ext (UI w.heap.size w0.heap.size w1.heap.size W) W w2 := ((Ext.refl _ W).alloc _).grown hgrow (fun j hj hjW => by
            rcases HJ.out j hj with h | h
            · exact .inl ⟨hrow j hj, h⟩
            · obtain ⟨cs, hb⟩ := own_blk HO5.out hj
              refine .inr ⟨h, cs, ?_⟩
              unfold Blk at hb ⊢
              rw [Below.heap_alloc _ _ _ hjW] at hb; exact hb)
          have hE : Ext No w w2 := (HEX.out.alloc _).grown hgrow (fun j hj h => absurd h (by have := hrow j hj; omega))
          have hU6 : w.heap.size ≤ b6 ∧ b6 < w0.heap.size := by omega
          have hU7 : w.heap.size ≤ b7 ∧ b7 < w0.heap.size := by omega
          have hrowN : ∀ j, (Value.slice a6 (k + 1) c6).ownBlock = some j → j < w0.heap.size ∨ w1.heap.size + 2 ≤ j := fun j hj => by
            rcases hat with h | h
            · rw [h] at hj; exact HJ.out j hj
            · rw [h] at hj
              have hj' := Option.some.inj hj
              rw [World.size_alloc] at hj'
              omega
          have hs : Ext (fun j => j = b6) w2 (w2.setCell ⟨b6, 0, none⟩ (.slice a6 (k + 1) c6)) := (Ext.refl _ w2).setCell _ _ (fun _ => rfl)
          have hwt : wholes ((itemsL l).take (k + 1)) = wh := by rw [HWT.out]; simp
          refine ⟨hU.setCell ⟨b6, 0, none⟩ _ (fun _ => .inl hU6), ⟨a6, c6, hb6.set 0 _, hap.ext hs (fun j cs _ hb s => by subst s; exact Blk.ne_type hb hb6 (by decide) rfl) (fun j cs _ hb s => by subst s; exact Blk.ne_type hb hb6 (by decide) rfl), hrowN⟩, ?_, hbm.set_other ⟨b6, 0, none⟩ _ (fun h => hn6m h.symm), hb4.set_other ⟨b6, 0, none⟩ _ (fun h => hn46 h), hb5.set_other ⟨b6, 0, none⟩ _ (fun h => hn56 h), by have := HME.out; have := HLT5.out; omega, hE.setCell ⟨b6, 0, none⟩ _ (fun h => absurd h (Nat.not_lt_of_le hU6.1))⟩
          rw [hwt]
          exact hb7.set_other ⟨b6, 0, none⟩ _ (fun h => hn76 h)
        | true =>
          gi_wp2_with (gi_at_builtin; refine wpListIn_app1 _ _ rfl _ _ 59 rfl w.heap.size 31 _ _ sl_info Try.underlying59 rfl _ _ _ rfl HO5.out _ rfl (cell_new _ _ _ rfl) rfl HN.out.1 HN.out.2 HZ.out ?_; intro v' w2 hown hgrow hat; obtain ⟨a6, c6, rfl⟩ := own_form hown; have hd6 := (HB6.out.grown hgrow HN6.out).cell 0; have hg6 := (HB6.out.grown hgrow HN6.out).free 0; have hd7 := (HB7.out.grown hgrow HN7.out).cell 0; have hg7 := (HB7.out.grown hgrow HN7.out).free 0; have hdm := (HBM.out.grown hgrow HNM.out).cell 0; simp only [List.getElem?_toArray, List.getElem?_cons_zero] at hd6 hd7 hdm)
          obtain ⟨h0, h1, l1, l7, l8⟩ := HLT.out
          have hz := HSZ.out
          have hb6 := HB6.out.grown hgrow HN6.out; have hb7 := HB7.out.grown hgrow HN7.out; have hbm := HBM.out.grown hgrow HNM.out; have hb4 := HB4.out.grown hgrow HN4.out; have hb5 := HB5.out.grown hgrow HN5.out
          have hap := NewBs.app (ls := bodies ((itemsL l).take k)) (v := .slice a5 k c5) (v' := .slice a6 (k + 1) c6) (by rw [HTK.out]; exact HO5.out) (fun i hi => HE5.out i (by rw [HTK.out] at hi; exact hi)) HX.out (by rw [HTK.out]; exact hown) hgrow
          rw [← HBT.out] at hap
          have hrow : ∀ j, (Value.slice a5 k c5).ownBlock = some j → w.heap.size ≤ j := fun j hj => (World.ownsRow.lt HO5.out j hj).1
          have hU : Ext (UI w.heap.size w0.heap.size w1.heap.size W) W w2 := ((Ext.refl _ W).alloc _).grown hgrow (fun j hj hjW => by
            rcases HJ.out j hj with h | h
            · exact .inl ⟨hrow j hj, h⟩
            · obtain ⟨cs, hb⟩ := own_blk HO5.out hj
              refine .inr ⟨h, cs, ?_⟩
              unfold Blk at hb ⊢
              rw [Below.heap_alloc _ _ _ hjW] at hb; exact hb)
          have hE : Ext No w w2 := (HEX.out.alloc _).grown hgrow (fun j hj h => absurd h (by have := hrow j hj; omega))
          have hU6 : w.heap.size ≤ b6 ∧ b6 < w0.heap.size := by omega
          have hU7 : w.heap.size ≤ b7 ∧ b7 < w0.heap.size := by omega
          have hrowN : ∀ j, (Value.slice a6 (k + 1) c6).ownBlock = some j → j < w0.heap.size ∨ w1.heap.size + 2 ≤ j := fun j hj => by
            rcases hat with h | h
            · rw [h] at hj; exact HJ.out j hj
            · rw [h] at hj
              have hj' := Option.some.inj hj
              rw [World.size_alloc] at hj'
              omega
          have hs : Ext (fun j => j = b6 ∨ j = b7) w2 ((w2.setCell ⟨b6, 0, none⟩ (.slice a6 (k + 1) c6)).setCell ⟨b7, 0, none⟩ (.int .i64 ((wh : Int) + 1))) := ((Ext.refl _ w2).setCell _ _ (fun _ => .inl rfl)).setCell _ _ (fun _ => .inr rfl)
          have hwt : wholes ((itemsL l).take (k + 1)) = wh + 1 := by rw [HWT.out]; simp
          have hsT : ∀ j cs, w.heap.size ≤ j → Blk w2 j cs 5 → ¬ (j = b6 ∨ j = b7) := fun j cs _ hb s => by
            rcases s with s | s
            · subst s; exact Blk.ne_type hb hb6 (by decide) rfl
            · subst s; exact Blk.ne_type hb hb7 (by decide) rfl
          have hsT2 : ∀ j cs, w.heap.size ≤ j → Blk w2 j cs 31 → ¬ (j = b6 ∨ j = b7) := fun j cs _ hb s => by
            rcases s with s | s
            · subst s; exact Blk.ne_type hb hb6 (by decide) rfl
            · subst s; exact Blk.ne_type hb hb7 (by decide) rfl
          refine ⟨(hU.setCell ⟨b6, 0, none⟩ _ (fun _ => .inl hU6)).setCell ⟨b7, 0, none⟩ _ (fun _ => .inl hU7), ⟨a6, c6, (hb6.set 0 _).set_other ⟨b7, 0, none⟩ _ (fun h => hn67 h), hap.ext hs hsT hsT2, hrowN⟩, ?_, (hbm.set_other ⟨b6, 0, none⟩ _ (fun h => hn6m h.symm)).set_other ⟨b7, 0, none⟩ _ (fun h => hn7m h.symm), (hb4.set_other ⟨b6, 0, none⟩ _ (fun h => hn46 h)).set_other ⟨b7, 0, none⟩ _ (fun h => hn47 h), (hb5.set_other ⟨b6, 0, none⟩ _ (fun h => hn56 h)).set_other ⟨b7, 0, none⟩ _ (fun h => hn57 h), by have := HME.out; have := HLT5.out; omega, (hE.setCell ⟨b6, 0, none⟩ _ (fun h => absurd h (Nat.not_lt_of_le hU6.1))).setCell ⟨b7, 0, none⟩ _ (fun h => absurd h (Nat.not_lt_of_le hU7.1))⟩
          rw [hwt, show (((wh + 1 : Nat)) : Int) = (wh : Int) + 1 by omega]
          exact (hb7.set_other ⟨b6, 0, none⟩ _ (fun h => hn76 h)).set 0 _
    case done =>
      intro W hg _ hK
      obtain ⟨h0, h1, l1, l7, l8⟩ := HLT.out
      obtain ⟨⟨a5, c5, hb6, ho5, hj⟩, hb7, hbm, hb4, hb5, hlt, hext⟩ := hg
      rw [List.take_length] at ho5 hb7
      have hc6 := hb6.cell 0; have hc7 := hb7.cell 0; have hc4 := hb4.cell 0; have hf4 := hb4.free 0; have hc5 := hb5.cell 0; have hf5 := hb5.free 0
      simp only [List.getElem?_toArray, List.getElem?_cons_zero] at hc6 hc7 hc4 hc5
      generalize hwh : wholes (itemsL l) = wh at *
      have hn45 : b4 ≠ b5 := by omega
      have hn46 : b4 ≠ b6 := by omega
      have hn47 : b4 ≠ b7 := by omega
      have hn56 : b5 ≠ b6 := by omega
      have hn57 : b5 ≠ b7 := by omega
      have HW := Lib.hid (And.intro hb4 (And.intro hb5 (And.intro ho5 hext))); have HK := Lib.hid hK; have HLT5 := Lib.hid hlt; have HWH := Lib.hid hwh
      have hmxo : Try.prog.follows .mixedOrders = true := by kernel_rfl
      clear hb6 hb7 hbm hb4 hb5 ho5 hext hj hK h0 h1 l1 l7 l8 hlt hwh
      gi_wp2_with fail
      gi_region_with_o (fail)
      all_goals gi_wp2_with fail
      all_goals
        obtain ⟨hb4, hb5, ho5, hext⟩ := HW.out
        obtain ⟨h0, h1, l1, l7, l8⟩ := HLT.out
        have hb4' := (hb4.set 0 (.slice a5 (itemsL l).length c5)).set_other ⟨b5, 0, none⟩ (.int .i64 (wh : Nat)) (fun h => hn45 h)
        have hb5' := (hb5.set_other ⟨b4, 0, none⟩ (.slice a5 (itemsL l).length c5) (fun h => hn45 h.symm)).set 0 (.int .i64 (wh : Nat))
        have hs : Ext (fun j => j = b4 ∨ j = b5) W (((W.setCell ⟨b4, 0, none⟩ (.slice a5 (itemsL l).length c5)).setCell ⟨b5, 0, none⟩ (.int .i64 (wh : Nat))).drew) :=
          (((Ext.refl _ W).setCell _ _ (fun _ => .inl rfl)).setCell _ _ (fun _ => .inr rfl)).drew
        have ho := ho5.ext hs (fun j cs _ hb s => by
            rcases s with s | s
            · subst s; exact Blk.ne_type hb hb4 (by decide) rfl
            · subst s; exact Blk.ne_type hb hb5 (by decide) rfl) (fun j cs _ hb s => by
            rcases s with s | s
            · subst s; exact Blk.ne_type hb hb4 (by decide) rfl
            · subst s; exact Blk.ne_type hb hb5 (by decide) rfl)
        have hK1 := (hs.block w1.heap.size (by have := (Array.getElem?_eq_some_iff.1 HK.out).1; exact this) (by omega)).trans HK.out
        have hE : Ext No w _ := hext.trans hs (fun _ _ s => s) (fun j hj s => by omega)
        have hb4d : Blk _ b4 _ _ := hb4'.drew
        have hb5d : Blk _ b5 _ _ := hb5'.drew
        generalize (((W.setCell ⟨b4, 0, none⟩ (.slice a5 (itemsL l).length c5)).setCell ⟨b5, 0, none⟩ (.int .i64 (wh : Nat))).drew) = W4 at *
        refine ⟨by simp, .inl ⟨_, _, rfl, run_takeDeferred hK1, ?_⟩⟩
        have hxp : Ext (fun j => No j ∨ (j = w1.heap.size ∧ NC W4 j)) W4 (W4.putObj w1.heap.size (.deferred none)) := Ext.putObjN _ _ _ (NC.defs hK1)
        have hxq : Ext (fun j => j = w1.heap.size) W4 (W4.putObj w1.heap.size (.deferred none)) := hxp.mono (fun _ _ h => h.elim False.elim And.left)
        have hr4 := (hb4d.extN hxp (fun h => h)).cell 0
        have hr5 := (hb5d.extN hxp (fun h => h)).cell 0
        simp at hr4 hr5
        rw [List.take_of_length_le (by have := HLT5.out; omega), HWH.out]
        exact ⟨.tuple #[.slice a5 (itemsL l).length c5, .int .i64 (wh : Nat)], by simp [results, Try.func25, Try.f25, go_sem, hr4, hr5], _, rfl, ho.extN hxp, hE.trans hxq (fun _ _ h => h) (fun j hj h => by omega)⟩
    case stop =>
      rintro c k W hk ⟨rfl, hg⟩ _ hK
      obtain ⟨⟨x, hb4, ho⟩, hb5, heq, hext⟩ := hg
      have HW := Lib.hid (And.intro hb4 (And.intro hb5 (And.intro ho hext))); have HK := Lib.hid hK; have HEQ := Lib.hid heq
      clear hb4 hb5 ho hext hK heq
      gi_wp2_with fail
      refine ⟨by simp, .inl ⟨_, _, rfl, run_takeDeferred HK.out, ?_⟩⟩
      obtain ⟨hb4, hb5, ho, hext⟩ := HW.out
      obtain ⟨h0, h1, l1, l7, l8⟩ := HLT.out
      have hxp : Ext (fun j => No j ∨ (j = w1.heap.size ∧ NC W j)) W (W.putObj w1.heap.size (.deferred none)) := Ext.putObjN _ _ _ (NC.defs HK.out)
      have hxq : Ext (fun j => j = w1.heap.size) W (W.putObj w1.heap.size (.deferred none)) := hxp.mono (fun _ _ h => h.elim False.elim And.left)
      have hr4 := (hb4.extN hxp (fun h => h)).cell 0
      have hr5 := (hb5.extN hxp (fun h => h)).cell 0
      simp at hr4 hr5
      rw [show most.toNat = k by have := HEQ.out; omega]
      exact ⟨.tuple #[x, .int .i64 (wholes ((itemsL l).take k) : Nat)], by simp [results, Try.func25, Try.f25, go_sem, hr4, hr5], _, rfl, ho.extN hxp, hext.trans hxq (fun _ _ h => h) (fun j hj h => by omega)⟩

end Go.Proofs.Ytchejnnfbinclaa
end

section
/- The contracts of script's small checks. -/
namespace Go.Proofs.Ytchejnnfbinclaa
open Go.RowKit Go.My

set_option maxRecDepth 100000 in
set_option maxHeartbeats 400000 in
theorem within_ok (n most : Int) (w : World) (h1 : 0 ≤ n) (h2 : n ≤ most) : Calls Try.prog 65 #[.int .i64 n, .int .i64 most] w fun e w' => e = .returned (.tuple #[]) ∧ w = w' := by
  have hd1 : decide (n < 0) = false := by simp; omega
  have hd2 : decide (most < n) = false := by simp; omega
  go_enter Try.func65, Try.ntmps65
  go_wp2_with fail
  go_end0
  exact ⟨rfl, rfl⟩

set_option maxRecDepth 100000 in
set_option maxHeartbeats 400000 in
theorem within_no (n most : Int) (w : World) (h : n < 0 ∨ most < n) : Calls Try.prog 65 #[.int .i64 n, .int .i64 most] w fun e w' => e = .panicked (thrown 23) ∧ w = w' := by
  by_cases h1 : n < 0
  · have hd1 : decide (n < 0) = true := by simpa using h1
    clear h
    go_enter Try.func65, Try.ntmps65
    go_wp2_with fail
    refine (must_no 23 (by decide) w).mono ?_
    rintro e w' ⟨rfl, rfl⟩
    dsimp only
    go_wp2_with fail
    exact ⟨rfl, rfl, rfl⟩
  · have hd1 : decide (n < 0) = false := by simpa using h1
    have hd2 : decide (most < n) = true := by simp; omega
    clear h
    go_enter Try.func65, Try.ntmps65
    go_wp2_with fail
    refine (must_no 23 (by decide) w).mono ?_
    rintro e w' ⟨rfl, rfl⟩
    dsimp only
    go_wp2_with fail
    exact ⟨rfl, rfl, rfl⟩

set_option maxRecDepth 100000 in
set_option maxHeartbeats 400000 in
theorem short_ok (n most : Int) (w : World) (h2 : n ≤ most) : Calls Try.prog 66 #[.int .i64 n, .int .i64 most] w fun e w' => e = .returned (.tuple #[]) ∧ w = w' := by
  have hd2 : decide (most < n) = false := by simp; omega
  go_enter Try.func66, Try.ntmps66
  go_wp2_with fail
  go_end0
  exact ⟨rfl, rfl⟩
set_option maxRecDepth 100000 in
set_option maxHeartbeats 400000 in
theorem short_no (n most : Int) (w : World) (h : most < n) : Calls Try.prog 66 #[.int .i64 n, .int .i64 most] w fun e w' => e = .panicked (thrown 2) ∧ w = w' := by
  have hd2 : decide (most < n) = true := by simpa using h
  go_enter Try.func66, Try.ntmps66
  go_wp2_with fail
  refine (must_no 2 (by decide) w).mono ?_
  rintro e w' ⟨rfl, rfl⟩
  dsimp only
  go_wp2_with fail
  exact ⟨rfl, rfl, rfl⟩
set_option maxRecDepth 100000 in
set_option maxHeartbeats 400000 in
theorem few_ok (n : Int) (w : World) (h2 : n ≤ 512) : Calls Try.prog 67 #[.int .i64 n] w fun e w' => e = .returned (.tuple #[]) ∧ w = w' := by
  have hd2 : decide (512 < n) = false := by simp; omega
  go_enter Try.func67, Try.ntmps67
  go_wp2_with fail
  go_end0
  exact ⟨rfl, rfl⟩
set_option maxRecDepth 100000 in
set_option maxHeartbeats 400000 in
theorem few_no (n : Int) (w : World) (h : 512 < n) : Calls Try.prog 67 #[.int .i64 n] w fun e w' => e = .panicked (thrown 3) ∧ w = w' := by
  have hd2 : decide (512 < n) = true := by simpa using h
  go_enter Try.func67, Try.ntmps67
  go_wp2_with fail
  refine (must_no 3 (by decide) w).mono ?_
  rintro e w' ⟨rfl, rfl⟩
  dsimp only
  go_wp2_with fail
  exact ⟨rfl, rfl, rfl⟩

def flagN (b : Bool) : Nat := if b then 1 else 0
set_option maxRecDepth 100000 in
set_option maxHeartbeats 400000 in
theorem flag_any (b : Bool) (w : World) : Calls Try.prog 38 #[.bool b] w fun e w' => e = .returned (.int .u64 (flagN b : Nat)) ∧ w = w' := by
  cases b
  all_goals
    go_enter Try.func38, Try.ntmps38
    go_wp2_with fail
    go_ret
    exact ⟨rfl, rfl⟩


/-- a bool, read -/
def isP (l : List UInt8) : Option (Bool × List UInt8) :=
  match numP 1 l with
  | some (n, r) => if n ≤ 1 then some (decide (n = 1), r) else none
  | none => none
def IsTold (rb : Nat) (l : List UInt8) (v : Value) (e : Ending) (w' : World) : Prop :=
  (∃ t r v', isP l = some (t, r) ∧ e = .returned (.bool t) ∧ RdS w' rb r v' ∧ Inn v v') ∨ (isP l = none ∧ ∃ n : Int, e = .panicked (thrown n) ∧ n ≠ 0)
set_option maxRecDepth 100000 in
set_option maxHeartbeats 400000 in
theorem is_any (rb : Nat) (l : List UInt8) (v : Value) (w : World) (h : RdS w rb l v) :
    Calls Try.prog 51 #[.pointer (some ⟨rb, 0, none⟩)] w fun e w' => Ext (fun j => j = rb) w w' ∧ IsTold rb l v e w' := by
  have H := Lib.hid h; clear h
  by_cases h1 : 1 ≤ l.length
  · have H1 := Lib.hid h1
    have hn : numP 1 l = some (getN (l.take 1), l.drop 1) := by unfold numP; rw [if_pos h1]
    have hlt := getN_lt (l.take 1)
    rw [List.length_take, Nat.min_eq_left h1, Nat.pow_one] at hlt
    clear h1
    go_enter Try.func51, Try.ntmps51
    go_wp2_with fail
    refine (rnum_ok 1 (by decide) (by decide) rb l v w H.out H1.out).mono ?_
    rintro e w1 ⟨rfl, v1, hr, hx, hi⟩
    generalize getN (l.take 1) = q at *
    have HR := Lib.hid hr; have HX := Lib.hid hx; have HI := Lib.hid hi; have HN := Lib.hid hn; clear hr hx hi hn
    dsimp only
    by_cases hq : q ≤ 1
    · have hd : decide ((1 : Int) < q) = false := by simp; omega
      have hdn : decide (1 < q) = false := by simp; omega
      have hip : isP l = some (decide (q = 1), l.drop 1) := by unfold isP; rw [HN.out]; simp only; rw [if_pos hq]
      have HIP := Lib.hid hip; clear hip
      have hcs : q = 0 ∨ q = 1 := by omega
      rcases hcs with rfl | rfl
      all_goals
        go_wp2_with fail
        go_ret
        exact ⟨HX.out, .inl ⟨_, _, v1, HIP.out, rfl, HR.out, HI.out⟩⟩
    · have hd : decide ((1 : Int) < q) = true := by simp; omega
      have hdn : decide (1 < q) = true := by simp; omega
      have hip : isP l = none := by unfold isP; rw [HN.out]; simp only; rw [if_neg hq]
      have HIP := Lib.hid hip; clear hip
      go_wp2_with fail
      refine (must_no 39 (by decide) _).mono ?_
      rintro e w' ⟨rfl, rfl⟩
      dsimp only
      go_wp2_with fail
      exact ⟨rfl, HX.out, .inr ⟨HIP.out, 39, rfl, by decide⟩⟩
  · have hip : isP l = none := by unfold isP numP; rw [if_neg h1]
    have HIP := Lib.hid hip; have H1 := Lib.hid (show l.length < 1 by omega); clear hip h1
    go_enter Try.func51, Try.ntmps51
    go_wp2_with fail
    refine (rnum_no 1 (by decide) (by decide) rb l v w H.out H1.out).mono ?_
    rintro e w1 ⟨rfl, rfl⟩
    dsimp only
    go_wp2_with fail
    exact ⟨rfl, Ext.refl _ _, .inr ⟨HIP.out, 20, rfl, by decide⟩⟩

end Go.Proofs.Ytchejnnfbinclaa
end

section
/- Commands as values; files; the contract of script.check. -/
namespace Go.Proofs.Ytchejnnfbinclaa
open Go.RowKit Go.My

abbrev FileL := List UInt8 × List UInt8
/-- The value is a slice of files that read as fs. -/
def IsFiles (w : World) (fs : List FileL) (v : Value) : Prop :=
  ∃ a cap, v = .slice a fs.length cap ∧ fs.length ≤ cap ∧ cap ≤ 9223372036854775807 ∧
    ∀ i, i < fs.length → ∃ b off x, a = some ⟨b, off, none⟩ ∧ w.cell? ⟨b, off + i * 2, none⟩ = some (.string (strB (fs.getD i ([], [])).1)) ∧ w.cell? ⟨b, off + i * 2 + 1, none⟩ = some x ∧ IsBytes w (fs.getD i ([], [])).2 x ∧ NilOk x
theorem IsFiles.ext0 {w w' : World} {fs : List FileL} {v : Value} (h : IsFiles w fs v) (x : Ext No w w') : IsFiles w' fs v := by
  obtain ⟨a, cap, h1, h2, h3, h⟩ := h
  refine ⟨a, cap, h1, h2, h3, fun i hi => ?_⟩
  obtain ⟨b, off, y, ha, hp, hd, hy, hn⟩ := h i hi
  exact ⟨b, off, y, ha, by rw [x.cell (World.block_lt_of_cell? _ _ hp) (fun s => s)]; exact hp, by rw [x.cell (World.block_lt_of_cell? _ _ hd) (fun s => s)]; exact hd, hy.ext0 x, hn⟩
theorem IsFiles.len {w : World} {fs : List FileL} {a : Option Addr} {n c : Nat} (h : IsFiles w fs (.slice a n c)) : n = fs.length ∧ n ≤ c ∧ c ≤ 9223372036854775807 := by
  obtain ⟨a', cap, h1, h2, h3, h⟩ := h
  simp only [Value.slice.injEq] at h1
  obtain ⟨rfl, rfl, rfl⟩ := h1
  exact ⟨rfl, h2, h3⟩
theorem IsFiles.get {w : World} {fs : List FileL} {a : Option Addr} {n c : Nat} (h : IsFiles w fs (.slice a n c)) (i : Nat) (hi : i < n) :
    ∃ b off ax nx cx, a = some ⟨b, off, none⟩ ∧ w.cell? ⟨b, off + i * 2, none⟩ = some (.string (strB (fs.getD i ([], [])).1)) ∧ w.cell? ⟨b, off + i * 2 + 1, none⟩ = some (.slice ax nx cx) ∧ IsBytes w (fs.getD i ([], [])).2 (.slice ax nx cx) ∧ NilOk (.slice ax nx cx) ∧ nx = (fs.getD i ([], [])).2.length := by
  obtain ⟨a', cap, h1, h2, h3, h⟩ := h
  simp only [Value.slice.injEq] at h1
  obtain ⟨rfl, rfl, rfl⟩ := h1
  obtain ⟨b, off, x, ha, hp, hd, hy, hn⟩ := h i hi
  obtain ⟨ax, cx, rfl, -⟩ := id hy
  exact ⟨b, off, ax, _, cx, ha, hp, hd, hy, hn, rfl⟩

structure CmdI where
  kind : Int
  n : Int
  who : Nat
  flag : Bool
  name : List UInt8
  host : List UInt8
  files : List FileL
  last : Int
  days : Int
  day : Int
  within : Int
  tag : List UInt8
  bits : List Bool
def cmdVal (c : CmdI) (vf vb : Value) : Value := .agg #[.int .i64 c.kind, .int .i64 c.n, .int .u64 (c.who : Nat), .bool c.flag, .string (strB c.name), .string (strB c.host), vf,
  .int .i64 c.last, .int .i64 c.days, .int .i64 c.day, .int .i64 c.within, .string (strB c.tag), vb]
def boolV (l : List Bool) (i : Nat) : Value := .bool (l.getD i false)
def IsBools (w : World) (l : List Bool) (v : Value) : Prop := IsRow w (boolV l) l.length v
def IsCmd (w : World) (c : CmdI) (v : Value) : Prop := ∃ vf vb, v = cmdVal c vf vb ∧ IsFiles w c.files vf ∧ IsBools w c.bits vb

def badF (f : FileL) : Bool := decide (120 < f.1.length) || decide (65536 < f.2.length)
def checkN (c : CmdI) : Int :=
  if c.kind < 0 ∨ 255 < c.kind then 23
  else if c.last < 0 ∨ 2147483647 < c.last then 23
  else if c.days < 0 ∨ 2147483647 < c.days then 23
  else if 120 < c.name.length then 2
  else if 120 < c.host.length then 2
  else if 120 < c.tag.length then 2
  else if 512 < c.bits.length then 3
  else if 512 < c.files.length then 3
  else if c.files.any badF then 2 else 0
def CheckTold (n : Int) (e : Ending) : Prop := (n = 0 ∧ e = .returned (.tuple #[])) ∨ (n ≠ 0 ∧ e = .panicked (thrown n))
theorem strB_size (l : List UInt8) : (strB l).size = l.length := by simp [strB, ByteArray.size]

set_option maxRecDepth 100000 in
set_option maxHeartbeats 4000000 in
theorem check_any (c : CmdI) (vf vb : Value) (w : World) (hf : IsFiles w c.files vf) (hb : IsBools w c.bits vb) :
    Calls Try.prog 36 #[cmdVal c vf vb] w fun e w' => CheckTold (checkN c) e ∧ Ext No w w' := by
  obtain ⟨kind, n, who, flag, name, host, files, last, days, day, within, tag, bits⟩ := c
  simp only at hf hb
  obtain ⟨af, nf, cf, hvf⟩ : ∃ a n c, vf = .slice a n c := by obtain ⟨a, c, h, -⟩ := hf; exact ⟨a, _, c, h⟩
  obtain ⟨ab, nb, cb, hvb⟩ : ∃ a n c, vb = .slice a n c := by obtain ⟨a, c, h, -⟩ := hb; exact ⟨a, _, c, h⟩
  subst hvf; subst hvb
  unfold cmdVal
  simp only
  obtain ⟨hnf, hfl⟩ := hf.len
  have hnb : nb = bits.length := (IsRow.len hb).1
  obtain ⟨k, hk⟩ : ∃ k, checkN ⟨kind, n, who, flag, name, host, files, last, days, day, within, tag, bits⟩ = k := ⟨_, rfl⟩
  rw [hk]
  unfold checkN at hk
  simp only at hk
  rw [← hnf, ← hnb] at hk
  have hs1 := strB_size name; have hs2 := strB_size host; have hs3 := strB_size tag
  have HF := Lib.hid hf
  clear hf hb hnf hnb
  go_enter Try.func36, Try.ntmps36
  go_wp2_with fail
  by_cases h1 : kind < 0 ∨ 255 < kind
  · rw [if_pos h1] at hk; subst hk
    refine (within_no kind 255 _ h1).mono ?_
    rintro e w' ⟨rfl, rfl⟩
    dsimp only
    go_wp2_with fail
    exact ⟨rfl, .inr ⟨by decide, rfl⟩, (Ext.refl _ w).alloc _⟩
  rw [if_neg h1] at hk
  refine (within_ok kind 255 _ (by omega) (by omega)).mono ?_
  clear h1
  rintro e w' ⟨rfl, rfl⟩
  dsimp only
  go_wp2_with fail
  by_cases h1 : last < 0 ∨ 2147483647 < last
  · rw [if_pos h1] at hk; subst hk
    refine (within_no last 2147483647 _ h1).mono ?_
    rintro e w' ⟨rfl, rfl⟩
    dsimp only
    go_wp2_with fail
    exact ⟨rfl, .inr ⟨by decide, rfl⟩, (Ext.refl _ w).alloc _⟩
  rw [if_neg h1] at hk
  refine (within_ok last 2147483647 _ (by omega) (by omega)).mono ?_
  clear h1
  rintro e w' ⟨rfl, rfl⟩
  dsimp only
  go_wp2_with fail
  by_cases h1 : days < 0 ∨ 2147483647 < days
  · rw [if_pos h1] at hk; subst hk
    refine (within_no days 2147483647 _ h1).mono ?_
    rintro e w' ⟨rfl, rfl⟩
    dsimp only
    go_wp2_with fail
    exact ⟨rfl, .inr ⟨by decide, rfl⟩, (Ext.refl _ w).alloc _⟩
  rw [if_neg h1] at hk
  refine (within_ok days 2147483647 _ (by omega) (by omega)).mono ?_
  clear h1
  rintro e w' ⟨rfl, rfl⟩
  dsimp only
  go_wp2_with fail
  by_cases h1 : 120 < name.length
  · rw [if_pos h1] at hk; subst hk
    refine (short_no (name.length : Nat) 120 _ (by omega)).mono ?_
    rintro e w' ⟨rfl, rfl⟩
    dsimp only
    go_wp2_with fail
    exact ⟨rfl, .inr ⟨by decide, rfl⟩, (Ext.refl _ w).alloc _⟩
  rw [if_neg h1] at hk
  refine (short_ok (name.length : Nat) 120 _ (by omega)).mono ?_
  clear h1
  rintro e w' ⟨rfl, rfl⟩
  dsimp only
  go_wp2_with fail
  by_cases h1 : 120 < host.length
  · rw [if_pos h1] at hk; subst hk
    refine (short_no (host.length : Nat) 120 _ (by omega)).mono ?_
    rintro e w' ⟨rfl, rfl⟩
    dsimp only
    go_wp2_with fail
    exact ⟨rfl, .inr ⟨by decide, rfl⟩, (Ext.refl _ w).alloc _⟩
  rw [if_neg h1] at hk
  refine (short_ok (host.length : Nat) 120 _ (by omega)).mono ?_
  clear h1
  rintro e w' ⟨rfl, rfl⟩
  dsimp only
  go_wp2_with fail
  by_cases h1 : 120 < tag.length
  · rw [if_pos h1] at hk; subst hk
    refine (short_no (tag.length : Nat) 120 _ (by omega)).mono ?_
    rintro e w' ⟨rfl, rfl⟩
    dsimp only
    go_wp2_with fail
    exact ⟨rfl, .inr ⟨by decide, rfl⟩, (Ext.refl _ w).alloc _⟩
  rw [if_neg h1] at hk
  refine (short_ok (tag.length : Nat) 120 _ (by omega)).mono ?_
  clear h1
  rintro e w' ⟨rfl, rfl⟩
  dsimp only
  go_wp2_with fail
  by_cases h1 : 512 < nb
  · rw [if_pos h1] at hk; subst hk
    refine (few_no (nb : Nat) _ (by omega)).mono ?_
    rintro e w' ⟨rfl, rfl⟩
    dsimp only
    go_wp2_with fail
    exact ⟨rfl, .inr ⟨by decide, rfl⟩, (Ext.refl _ w).alloc _⟩
  rw [if_neg h1] at hk
  refine (few_ok (nb : Nat) _ (by omega)).mono ?_
  clear h1
  rintro e w' ⟨rfl, rfl⟩
  dsimp only
  go_wp2_with fail
  by_cases h1 : 512 < nf
  · rw [if_pos h1] at hk; subst hk
    refine (few_no (nf : Nat) _ (by omega)).mono ?_
    rintro e w' ⟨rfl, rfl⟩
    dsimp only
    go_wp2_with fail
    exact ⟨rfl, .inr ⟨by decide, rfl⟩, (Ext.refl _ w).alloc _⟩
  rw [if_neg h1] at hk
  refine (few_ok (nf : Nat) _ (by omega)).mono ?_
  clear h1
  rintro e w' ⟨rfl, rfl⟩
  dsimp only
  go_wp2_with fail
  obtain ⟨w0, hw0⟩ : ∃ w0, w.alloc (.cells #[.int .i64 kind, .int .i64 n, .int .u64 who, .bool flag, .string (strB name), .string (strB host), .slice af nf cf, .int .i64 last, .int .i64 days, .int .i64 day, .int .i64 within, .string (strB tag), .slice ab nb cb] 28) = w0 := ⟨_, rfl⟩
  have hx0 : Ext No w w0 := by rw [← hw0]; exact (Ext.refl No w).alloc _
  rw [hw0]
  clear hw0 hs1 hs2 hs3
  have hf0 := HF.out.ext0 hx0
  have HF0 := Lib.hid hf0; have HX0 := Lib.hid hx0; clear hf0 hx0
  have HK := Lib.hid hk; clear hk
  go_loopw [39] (fun i wr => ∃ k : Nat, i = .int .i64 k ∧ k ≤ nf ∧ (∀ j, j < k → badF (files.getD j ([], [])) = false) ∧ Ext No w0 wr) (fun i _ => nf - (intOf i).toNat)
  case atStart => exact ⟨0, rfl, by omega, fun j hj => by omega, Ext.refl _ _⟩
  case round =>
    obtain ⟨q, rfl, hq, hall, hx⟩ := hrel
    have HALL := Lib.hid hall; have HX := Lib.hid hx; clear hall hx
    by_cases hlt : q < nf
    · obtain ⟨b, off, ax, nx, cx, rfl, hp, hd, -, -, hnx⟩ := (HF0.out.ext0 HX.out).get q hlt
      have hsz := strB_size (files.getD q ([], [])).1
      have hbad : badF (files.getD q ([], [])) = (decide (120 < (files.getD q ([], [])).1.length) || decide (65536 < nx)) := by rw [hnx]; rfl
      have hmem : files.getD q ([], []) ∈ files := by
        have : q < files.length := by have := HF.out.len.1; omega
        rw [List.getD_eq_getElem?_getD, List.getElem?_eq_getElem this]; simp
      generalize hge : files.getD q ([], []) = f at *
      have HGE := Lib.hid hge; clear hge
      obtain ⟨path, data⟩ := f
      simp only at hp hd hsz hbad
      have HBAD := Lib.hid hbad; have HMEM := Lib.hid hmem
      clear hbad hmem hnx
      go_wp2_with fail
      have hx1 : ∀ o, Ext No w0 (wr.alloc o) := fun o => HX.out.alloc o
      have HX1 := Lib.hid hx1; clear hx1
      by_cases h1 : 120 < path.length
      · have hk1 : k = 2 := by
          rw [← HK.out, if_pos (List.any_eq_true.2 ⟨_, HMEM.out, by rw [HBAD.out]; simp [h1]⟩)]
        have HK1 := Lib.hid hk1; clear hk1
        refine (short_no (path.length : Nat) 120 _ (by omega)).mono ?_
        rintro e w' ⟨rfl, rfl⟩
        dsimp only
        go_wp2_with fail
        exact ⟨rfl, .inr ⟨by rw [HK1.out]; decide, by rw [HK1.out]⟩, HX0.out.trans' (HX1.out _)⟩
      refine (short_ok (path.length : Nat) 120 _ (by omega)).mono ?_
      rintro e w' ⟨rfl, rfl⟩
      dsimp only
      go_wp2_with fail
      by_cases h2 : 65536 < nx
      · have hk1 : k = 2 := by
          rw [← HK.out, if_pos (List.any_eq_true.2 ⟨_, HMEM.out, by rw [HBAD.out]; simp [h2]⟩)]
        have HK1 := Lib.hid hk1; clear hk1
        refine (short_no (nx : Nat) 65536 _ (by omega)).mono ?_
        rintro e w' ⟨rfl, rfl⟩
        dsimp only
        go_wp2_with fail
        exact ⟨rfl, .inr ⟨by rw [HK1.out]; decide, by rw [HK1.out]⟩, HX0.out.trans' (HX1.out _)⟩
      refine (short_ok (nx : Nat) 65536 _ (by omega)).mono ?_
      rintro e w' ⟨rfl, rfl⟩
      dsimp only
      go_wp2_with fail
      go_roundw
      case rel =>
        refine ⟨q + 1, by go_num, by omega, fun j hj => ?_, HX1.out _⟩
        rcases Nat.lt_succ_iff_lt_or_eq.1 hj with h | rfl
        · exact HALL.out j h
        · rw [HGE.out, HBAD.out]; simp [h1, h2]
      case measure => simp [intOf]; omega
    · have hqn : q = nf := by omega
      subst hqn
      have hk1 : k = 0 := by
        rw [← HK.out, if_neg]
        intro h
        obtain ⟨f, hf, hb⟩ := List.any_eq_true.1 h
        obtain ⟨j, hj, rfl⟩ := List.mem_iff_getElem.1 hf
        have := HALL.out j (by have := HF.out.len.1; omega)
        rw [List.getD_eq_getElem?_getD, List.getElem?_eq_getElem hj] at this
        simp only [Option.getD_some] at this
        rw [this] at hb; cases hb
      have HK1 := Lib.hid hk1; clear hk1
      go_wp2_with fail
      go_end0
      exact ⟨.inl ⟨HK1.out, rfl⟩, HX0.out.trans' HX.out⟩

end Go.Proofs.Ytchejnnfbinclaa
end

section
/- The contract of script.put. -/
namespace Go.Proofs.Ytchejnnfbinclaa
open Go.RowKit Go.My

def fileB (f : FileL) : List UInt8 := bytesB f.1 ++ bytesB f.2
def filesB (fs : List FileL) : List UInt8 := numB fs.length 4 ++ (fs.map fileB).flatten
theorem filesB_take (fs : List FileL) (k : Nat) (hk : k < fs.length) : ((fs.take (k + 1)).map fileB).flatten = ((fs.take k).map fileB).flatten ++ (bytesB (fs.getD k ([], [])).1 ++ bytesB (fs.getD k ([], [])).2) := by
  rw [List.take_add_one, List.map_append, List.flatten_append, List.getElem?_eq_getElem hk]
  simp [List.getD_eq_getElem?_getD, List.getElem?_eq_getElem hk, fileB]
theorem filesB_take_le (fs : List FileL) (k : Nat) : ((fs.take k).map fileB).flatten.length + 4 ≤ (filesB fs).length := by
  unfold filesB
  rw [List.length_append, numB_length]
  conv => rhs; rw [← List.take_append_drop k fs, List.map_append, List.flatten_append, List.length_append]
  omega

theorem _root_.Go.My.Wrote.no {w0 w w' : World} {wb : Nat} {v v' : Value} (hx : Ext No w0 w) (ht : Wrote wb w w' v v') (hwb : w0.heap.size ≤ wb) (hv : ∀ j, v.ownBlock = some j → w0.heap.size ≤ j) : Ext No w0 w' :=
  hx.trans ht.ext (fun _ _ s => s) (fun j hj s => by
    rcases s with s | s
    · exact absurd hwb (by omega)
    · exact absurd (hv j s) (by omega))
theorem _root_.Go.My.WrS.alloc {w : World} {tw u8 : TypeId} {wb base : Nat} {l : List UInt8} {v : Value} (h : WrS w tw u8 wb base l v) (o : Obj) : WrS (w.alloc o) tw u8 wb base l v :=
  ⟨h.box.alloc o, h.own.ext ((Ext.refl No w).alloc o) (fun _ _ s => s)⟩
theorem _root_.Go.My.WrS.ext0 {w w' : World} {tw u8 : TypeId} {wb base : Nat} {l : List UInt8} {v : Value} (h : WrS w tw u8 wb base l v) (x : Ext No w w') : WrS w' tw u8 wb base l v :=
  ⟨h.box.ext x (fun s => s), h.own.ext x (fun _ _ s => s)⟩
theorem _root_.Go.My.Wrote.pre {wb : Nat} {w w1 w2 : World} {v v' : Value} (h : Ext No w w1) (k : Wrote wb w1 w2 v v') : Wrote wb w w2 v v' :=
  ⟨h.trans k.ext (fun _ _ s => s.elim) (fun _ _ s => s), by
    rcases k.moved with m | m
    · exact .inl m
    · exact .inr fun j hj => Nat.le_trans h.size (m j hj)⟩
theorem _root_.Go.My.Wrote.post {wb : Nat} {w w1 w2 : World} {v v' : Value} (h : Wrote wb w w1 v v') (k : Ext No w1 w2) : Wrote wb w w2 v v' :=
  ⟨h.ext.trans k (fun _ _ s => s) (fun _ _ s => s.elim), h.moved⟩
/-- a block that is neither the writer's box nor its row is as it was -/
theorem _root_.Go.My.Wrote.blk {wb : Nat} {w w' : World} {v v' : Value} {b : Nat} {cs : Array Value} {T : TypeId} (h : Wrote wb w w' v v') (hb : Blk w b cs T) (h1 : b ≠ wb) (h2 : v.ownBlock ≠ some b) : Blk w' b cs T :=
  hb.ext h.ext (fun s => by rcases s with s | s; exact h1 s; exact h2 s)

set_option maxRecDepth 100000 in
set_option maxHeartbeats 4000000 in
theorem put_any (fs : List FileL) (vf : Value) (wb base : Nat) (l : List UInt8) (v : Value) (w0 w : World) (hf : IsFiles w0 fs vf) (hx : Ext No w0 w) (h : WrT w wb base l v) (hwb : w0.heap.size ≤ wb) (hbase : w0.heap.size ≤ base) (hb : base ≤ w.heap.size)
    (hl : l.length + (filesB fs).length + 16 ≤ 1099511627776) :
    Calls Try.prog 40 #[.pointer (some ⟨wb, 0, none⟩), vf] w fun e w' => e = .returned (.tuple #[]) ∧ ∃ v', WrT w' wb base (l ++ filesB fs) v' ∧ Wrote wb w w' v v' := by
  obtain ⟨af, nf, cf, hvf⟩ : ∃ a n c, vf = .slice a n c := by obtain ⟨a, c, h, -⟩ := hf; exact ⟨a, _, c, h⟩
  subst hvf
  obtain ⟨hnf, hfl⟩ := hf.len
  have hn40 : nf ≤ 1099511627776 := by
    have h1 : ∀ gs : List FileL, gs.length ≤ (gs.map fileB).flatten.length := by
      intro gs
      induction gs with
      | nil => simp
      | cons g gs ih => simp only [List.map_cons, List.flatten_cons, List.length_append, List.length_cons, fileB, bytesB_length]; omega
    have h2 := h1 fs
    have h3 : (filesB fs).length = 4 + (fs.map fileB).flatten.length := by unfold filesB; rw [List.length_append, numB_length]
    omega
  have HF := Lib.hid hf; have HX := Lib.hid hx; have H := Lib.hid h; have HB := Lib.hid (show w0.heap.size ≤ wb ∧ w0.heap.size ≤ base ∧ base ≤ w.heap.size from ⟨hwb, hbase, hb⟩); have HL := Lib.hid hl; have HN := Lib.hid hnf
  clear hf hx h hwb hbase hb hl hnf
  go_enter Try.func40, Try.ntmps40
  go_wp2_with fail
  refine (num_any nf 4 (by omega) (by decide) (by decide) wb base l v w H.out (by have := HL.out; omega) HB.out.2.2).mono ?_
  rintro e w1 ⟨rfl, v1, hw1, ht1⟩
  have HX1 := Lib.hid (ht1.no HX.out HB.out.1 (fun j hj => Nat.le_trans HB.out.2.1 (H.out.own.lt j hj).1))
  have HW1 := Lib.hid hw1; have HT1 := Lib.hid ht1; clear hw1 ht1
  dsimp only
  go_wp2_with fail
  go_loopw [13] (fun i wr => ∃ (k : Nat) (vk : Value), i = .int .i64 k ∧ k ≤ nf ∧ WrT wr wb base (l ++ numB nf 4 ++ ((fs.take k).map fileB).flatten) vk ∧ Wrote wb w wr v vk ∧ Ext No w0 wr) (fun i _ => nf - (intOf i).toNat)
  case atStart => exact ⟨0, _, rfl, by omega, by simpa using HW1.out, HT1.out, HX1.out⟩
  case round =>
    obtain ⟨q, vk, rfl, hq, hw, ht, hx⟩ := hrel
    have HW := Lib.hid hw; have HT := Lib.hid ht; have HXR := Lib.hid hx; clear hw ht hx
    by_cases hlt : q < nf
    · obtain ⟨b, off, ax, nx, cx, rfl, hp, hd, hxb, hxn, hnx⟩ := (HF.out.ext0 HXR.out).get q hlt
      have hxb0 : IsBytes w0 (fs.getD q ([], [])).2 (.slice ax nx cx) := by
        obtain ⟨b', off', ax', nx', cx', ha', hp', hd', hxb', hxn', hnx'⟩ := HF.out.get q hlt
        cases ha'
        have := HXR.out.cell (p := ⟨b, off + q * 2 + 1, none⟩) (World.block_lt_of_cell? _ _ hd') (fun s => s)
        rw [this, hd'] at hd
        cases hd; exact hxb'
      have htk := filesB_take fs q (by rw [← HN.out]; exact hlt)
      have hle := filesB_take_le fs (q + 1)
      generalize hge : fs.getD q ([], []) = f at *
      clear hge
      obtain ⟨path, data⟩ := f
      simp only at hp hd hxb hxb0 hnx htk
      rw [htk, List.length_append, List.length_append, bytesB_length, bytesB_length] at hle
      have HXB := Lib.hid hxb; have HXB0 := Lib.hid hxb0; have HXN := Lib.hid hxn; have HTK := Lib.hid htk; have HLE := Lib.hid hle
      clear hxb hxb0 hxn htk hle hnx
      go_wp2_with fail
      obtain ⟨wa, hwa⟩ : ∃ wa, wr.alloc (.cells #[.string (strB path), .slice ax nx cx] 76) = wa := ⟨_, rfl⟩
      have hbk := Blk.new wr #[.string (strB path), .slice ax nx cx] 76
      have hxa : Ext No wr wa := by rw [← hwa]; exact (Ext.refl No wr).alloc _
      rw [hwa] at hbk
      rw [hwa]
      have HBK := Lib.hid hbk; have HXA := Lib.hid hxa; clear hbk hxa hwa
      have hwbr : wb < wr.heap.size := HW.out.box.lt
      have hvr := HW.out.own.lt
      have hbr : base ≤ wr.heap.size := Nat.le_trans HB.out.2.2 HT.out.ext.size
      have HBR := Lib.hid (And.intro hwbr (And.intro hvr hbr)); clear hwbr hvr hbr
      refine (wtext_any path wb base _ vk wa (HW.out.ext0 HXA.out) (by have := HL.out; have := HLE.out; simp only [List.length_append, numB_length] at *; omega) (Nat.le_trans HBR.out.2.2 HXA.out.size)).mono ?_
      rintro e w2 ⟨rfl, v2, hw2, ht2⟩
      have hb2 := ht2.blk HBK.out (by have := HBR.out.1; omega) (fun s => by have := (HBR.out.2.1 _ s).2; omega)
      have ht3 : Wrote wb wr w2 vk v2 := ht2.pre HXA.out
      have hc2 := hb2.cell 1
      simp only [List.getElem?_toArray, List.getElem?_cons_zero, List.getElem?_cons_succ] at hc2
      have hx2 := ht3.no HXR.out HB.out.1 (fun j hj => Nat.le_trans HB.out.2.1 (HBR.out.2.1 j hj).1)
      have HX2 := Lib.hid hx2; have HW2 := Lib.hid hw2; have HT2 := Lib.hid (HT.out.trans ht3); clear hx2 hw2 ht2 ht3 hb2
      dsimp only
      go_wp2_with fail
      refine (wbytes_any data ax nx cx wb base _ v2 w2 HW2.out (HXB0.out.ext0 HX2.out) HXN.out (by have := HL.out; have := HLE.out; simp only [List.length_append, numB_length, bytesB_length] at *; omega) (Nat.le_trans HB.out.2.2 HT2.out.ext.size) (fun h0 j hj => by
        have h1 := IsRow.lt HXB0.out h0 hj
        have h2 := HB.out
        exact ⟨by omega, fun s => by have := (HW2.out.own.lt j s).1; omega⟩)).mono ?_
      rintro e w3 ⟨rfl, v3, hw3, ht3⟩
      have hx3 := ht3.no HX2.out HB.out.1 (fun j hj => Nat.le_trans HB.out.2.1 (HW2.out.own.lt j hj).1)
      have HX3 := Lib.hid hx3; have HW3 := Lib.hid hw3; have HT3 := Lib.hid (HT2.out.trans ht3); clear hx3 hw3 ht3
      dsimp only
      go_wp2_with fail
      go_roundw
      case rel =>
        refine ⟨q + 1, v3, by go_num, by omega, ?_, HT3.out, HX3.out⟩
        have := HW3.out
        rw [HTK.out]
        simpa only [List.append_assoc] using this
      case measure => simp [intOf]; omega
    · have hqn : q = nf := by omega
      subst hqn
      go_wp2_with fail
      go_end0
      refine ⟨rfl, _, ?_, HT.out⟩
      have := HW.out
      rw [List.take_of_length_le (by rw [HN.out]; exact Nat.le_refl _), HN.out, List.append_assoc] at this
      exact this

end Go.Proofs.Ytchejnnfbinclaa
end

section
/- The contract of script.Encode. -/
namespace Go.Proofs.Ytchejnnfbinclaa
open Go.RowKit Go.My

/-- a number as the 64 bits that hold it -/
def u64N (n : Int) : Nat := (n % 18446744073709551616).toNat
theorem u64N_wrap (n : Int) : IntKind.u64.wrap n = ((u64N n : Nat) : Int) := by rw [w64_wrap]; unfold u64N; omega
theorem u64N_mod (n : Int) : n % 18446744073709551616 = ((u64N n : Nat) : Int) := by unfold u64N; omega
theorem u64N_lt (n : Int) : u64N n ≤ 18446744073709551615 := by unfold u64N; omega
def bitsB (l : List Bool) : List UInt8 := (l.map fun b => numB (flagN b) 1).flatten
theorem bitsB_length (l : List Bool) : (bitsB l).length = l.length := by
  unfold bitsB
  induction l with
  | nil => rfl
  | cons b l ih => simp only [List.map_cons, List.flatten_cons, List.length_append, numB_length, List.length_cons, ih]; omega
theorem bitsB_take (l : List Bool) (k : Nat) (hk : k < l.length) : bitsB (l.take (k + 1)) = bitsB (l.take k) ++ numB (flagN (l.getD k false)) 1 := by
  unfold bitsB
  rw [List.take_add_one, List.map_append, List.flatten_append, List.getElem?_eq_getElem hk]
  simp [List.getD_eq_getElem?_getD, List.getElem?_eq_getElem hk]
def cmdB (c : CmdI) : List UInt8 :=
  numB (u64N c.kind) 1 ++ numB (flagN c.flag) 1 ++ numB c.who 8 ++ numB (u64N c.n) 8 ++ bytesB c.name ++ bytesB c.host ++ numB (u64N c.last) 4 ++ numB (u64N c.days) 4 ++ numB (u64N c.day) 8 ++ numB (u64N c.within) 8 ++ bytesB c.tag ++ numB c.bits.length 4 ++ bitsB c.bits ++ filesB c.files

def cmdCells (c : CmdI) (vf vb : Value) : Array Value := #[.int .i64 c.kind, .int .i64 c.n, .int .u64 (c.who : Nat), .bool c.flag, .string (strB c.name), .string (strB c.host), vf,
  .int .i64 c.last, .int .i64 c.days, .int .i64 c.day, .int .i64 c.within, .string (strB c.tag), vb]

/-- a command's box and a writer, while the writer writes -/
structure EncS (w0 w wr : World) (pb wb : Nat) (cells : Array Value) (l : List UInt8) (v : Value) : Prop where
  cmd : Blk wr pb cells 28
  wrt : WrT wr wb w.heap.size l v
  ext : Ext (fun j => j = wb) w wr
  no : Ext No w0 wr
  pb1 : pb < w.heap.size
  pb2 : pb ≠ wb
  wb0 : w0.heap.size ≤ wb
  w00 : w0.heap.size ≤ w.heap.size
theorem EncS.step {w0 w wr w2 : World} {pb wb : Nat} {cells : Array Value} {l l2 : List UInt8} {v v2 : Value} (h : EncS w0 w wr pb wb cells l v) (hw : WrT w2 wb w.heap.size l2 v2) (ht : Wrote wb wr w2 v v2) : EncS w0 w w2 pb wb cells l2 v2 :=
  ⟨ht.blk h.cmd h.pb2 (fun s => by have := (h.wrt.own.lt pb s).1; have := h.pb1; omega), hw,
   h.ext.trans ht.ext (fun _ _ s => s) (fun j hj s => by
     rcases s with s | s
     · exact s
     · have := (h.wrt.own.lt j s).1; omega),
   ht.no h.no h.wb0 (fun j hj => Nat.le_trans h.w00 (h.wrt.own.lt j hj).1), h.pb1, h.pb2, h.wb0, h.w00⟩
theorem EncS.le {w0 w wr : World} {pb wb : Nat} {cells : Array Value} {l : List UInt8} {v : Value} (h : EncS w0 w wr pb wb cells l v) : w.heap.size ≤ wr.heap.size := h.ext.size
theorem EncS.cell {w0 w wr : World} {pb wb : Nat} {cells : Array Value} {l : List UInt8} {v : Value} (h : EncS w0 w wr pb wb cells l v) (i : Nat) : wr.cell? ⟨pb, i, none⟩ = cells[i]? := h.cmd.cell i
theorem EncS.ext0 {w0 w wr w2 : World} {pb wb : Nat} {cells : Array Value} {l : List UInt8} {v : Value} (h : EncS w0 w wr pb wb cells l v) (x : Ext No wr w2) : EncS w0 w w2 pb wb cells l v :=
  ⟨h.cmd.ext x (fun s => s), h.wrt.ext0 x, h.ext.trans x (fun _ _ s => s) (fun _ _ s => s.elim), h.no.trans' x, h.pb1, h.pb2, h.wb0, h.w00⟩

/-- what Encode's closure comes to -/
def EncQ (c : CmdI) (wb base : Nat) (n : Int) (w1 : World) : Prop := n = checkN c ∧ (n = 0 → ∃ v, WrT w1 wb base (cmdB c) v)

set_option maxRecDepth 100000 in
set_option maxHeartbeats 8000000 in
theorem encode1_any (c : CmdI) (vf vb : Value) (pb wb : Nat) (w0 w : World) (hf : IsFiles w0 c.files vf) (hb : IsBools w0 c.bits vb) (hs : EncS w0 w w pb wb (cmdCells c vf vb) [] (.slice none 0 0))
    (hwho : c.who ≤ 18446744073709551615) (hl : 200 + c.name.length + c.host.length + c.tag.length + c.bits.length + (filesB c.files).length ≤ 1099511627776) :
    Calls Try.prog 35 #[.pointer (some ⟨pb, 0, none⟩), .pointer (some ⟨wb, 0, none⟩)] w (Body (fun j => j = wb) w (EncQ c wb w.heap.size)) := by
  obtain ⟨af, nf, cf, hvf⟩ : ∃ a n c, vf = .slice a n c := by obtain ⟨a, c, h, -⟩ := hf; exact ⟨a, _, c, h⟩
  obtain ⟨ab, nb, cb, hvb⟩ : ∃ a n c, vb = .slice a n c := by obtain ⟨a, c, h, -⟩ := hb; exact ⟨a, _, c, h⟩
  subst hvf; subst hvb
  obtain ⟨hnb, hbc1, hbc2⟩ := IsRow.len hb
  have hck := check_any c (.slice af nf cf) (.slice ab nb cb) w (hf.ext0 hs.no) (hb.ext0 hs.no)
  have hlc : (cmdB c).length = 58 + c.name.length + c.host.length + c.tag.length + c.bits.length + (filesB c.files).length := by
    unfold cmdB; simp only [List.length_append, numB_length, bytesB_length, bitsB_length]; omega
  have HF := Lib.hid hf; have HBL := Lib.hid hb; have HS := Lib.hid hs; have HL := Lib.hid hl; have HCK := Lib.hid hck; have HNB := Lib.hid hnb; have HLC := Lib.hid hlc
  obtain ⟨fin, hfin⟩ : ∃ fin, cmdB c = fin := ⟨_, rfl⟩
  have HFIN := Lib.hid hfin
  unfold cmdB at hfin
  have HT := Lib.hid hfin; clear hfin
  clear hf hb hl hck hnb hlc
  obtain ⟨kind, n, who, flag, name, host, files, last, days, day, within, tag, bits⟩ := c
  unfold cmdVal at HCK
  simp only at HF HBL HL HCK HNB HT HLC hwho
  have hcs : w.cell? ⟨pb, 0, none⟩ = some (.int .i64 kind) ∧ w.cell? ⟨pb, 1, none⟩ = some (.int .i64 n) ∧ w.cell? ⟨pb, 2, none⟩ = some (.int .u64 (who : Nat)) ∧ w.cell? ⟨pb, 3, none⟩ = some (.bool flag) ∧ w.cell? ⟨pb, 4, none⟩ = some (.string (strB name)) ∧ w.cell? ⟨pb, 5, none⟩ = some (.string (strB host)) ∧ w.cell? ⟨pb, 6, none⟩ = some (.slice af nf cf) ∧ w.cell? ⟨pb, 7, none⟩ = some (.int .i64 last) ∧ w.cell? ⟨pb, 8, none⟩ = some (.int .i64 days) ∧ w.cell? ⟨pb, 9, none⟩ = some (.int .i64 day) ∧ w.cell? ⟨pb, 10, none⟩ = some (.int .i64 within) ∧ w.cell? ⟨pb, 11, none⟩ = some (.string (strB tag)) ∧ w.cell? ⟨pb, 12, none⟩ = some (.slice ab nb cb) :=
    ⟨hs.cell 0, hs.cell 1, hs.cell 2, hs.cell 3, hs.cell 4, hs.cell 5, hs.cell 6, hs.cell 7, hs.cell 8, hs.cell 9, hs.cell 10, hs.cell 11, hs.cell 12⟩
  obtain ⟨hc0, hc1, hc2, hc3, hc4, hc5, hc6, hc7, hc8, hc9, hc10, hc11, hc12⟩ := hcs
  clear hs
  have hu1 := u64N_lt kind; have hu2 := u64N_lt n; have hu3 := u64N_lt last; have hu4 := u64N_lt days; have hu5 := u64N_lt day; have hu6 := u64N_lt within
  have HU := Lib.hid (And.intro hu1 (And.intro hu2 (And.intro hu3 (And.intro hu4 (And.intro hu5 hu6))))); clear hu1 hu2 hu3 hu4 hu5 hu6
  generalize hchk : checkN ⟨kind, n, who, flag, name, host, files, last, days, day, within, tag, bits⟩ = ck at HCK
  have HCHK := Lib.hid hchk; clear hchk
  go_enter Try.func35, Try.ntmps35
  go_wp2_with fail
  refine HCK.out.mono ?_
  clear HCK
  rintro e w1 ⟨ht, hx⟩
  have hs := HS.out.ext0 hx
  have HX0 := Lib.hid hx
  clear hc0 hc1 hc2 hc3 hc4 hc5 hc6 hc7 hc8 hc9 hc10 hc11 hc12 hx
  rcases ht with ⟨rfl, rfl⟩ | ⟨hck, rfl⟩
  case inr =>
    dsimp only
    go_wp2_with fail
    exact ⟨rfl, ck, .inr ⟨rfl, hck⟩, hs.ext, HCHK.out.symm, fun h => absurd h hck⟩
  have H0 := Lib.hid hs; clear hs
  have hc : w1.cell? ⟨pb, 0, none⟩ = some (.int .i64 kind) := H0.out.cell 0
  dsimp only
  go_wp2_with fail
  try rw [u64N_wrap]
  try rw [u64N_mod]
  refine (num_any (u64N kind) 1 HU.out.1 (by decide) (by decide) wb w.heap.size _ _ w1 H0.out.wrt (by have := HL.out; simp only [List.length_append, numB_length, bytesB_length, List.length_nil]; omega) H0.out.le).mono ?_
  rintro e w2 ⟨rfl, v2, hw, ht⟩
  have H1 := Lib.hid (H0.out.step hw ht); clear hw ht hc H0
  have hc : w2.cell? ⟨pb, 3, none⟩ = some (.bool flag) := H1.out.cell 3
  dsimp only
  go_wp2_with fail
  refine (flag_any flag _).mono ?_
  rintro e w' ⟨rfl, rfl⟩
  dsimp only
  go_wp2_with fail
  refine (num_any (flagN flag) 1 (by cases flag <;> decide) (by decide) (by decide) wb w.heap.size _ _ w2 H1.out.wrt (by have := HL.out; simp only [List.length_append, numB_length, bytesB_length, List.length_nil]; omega) H1.out.le).mono ?_
  rintro e w3 ⟨rfl, v3, hw, ht⟩
  have H2 := Lib.hid (H1.out.step hw ht); clear hw ht hc H1
  have hc : w3.cell? ⟨pb, 2, none⟩ = some (.int .u64 (who : Nat)) := H2.out.cell 2
  dsimp only
  go_wp2_with fail
  refine (num_any who 8 hwho (by decide) (by decide) wb w.heap.size _ _ w3 H2.out.wrt (by have := HL.out; simp only [List.length_append, numB_length, bytesB_length, List.length_nil]; omega) H2.out.le).mono ?_
  rintro e w4 ⟨rfl, v4, hw, ht⟩
  have H3 := Lib.hid (H2.out.step hw ht); clear hw ht hc H2
  have hc : w4.cell? ⟨pb, 1, none⟩ = some (.int .i64 n) := H3.out.cell 1
  dsimp only
  go_wp2_with fail
  try rw [u64N_wrap]
  try rw [u64N_mod]
  refine (num_any (u64N n) 8 HU.out.2.1 (by decide) (by decide) wb w.heap.size _ _ w4 H3.out.wrt (by have := HL.out; simp only [List.length_append, numB_length, bytesB_length, List.length_nil]; omega) H3.out.le).mono ?_
  rintro e w5 ⟨rfl, v5, hw, ht⟩
  have H4 := Lib.hid (H3.out.step hw ht); clear hw ht hc H3
  have hc : w5.cell? ⟨pb, 4, none⟩ = some (.string (strB name)) := H4.out.cell 4
  dsimp only
  go_wp2_with fail
  refine (wtext_any name wb w.heap.size _ _ w5 H4.out.wrt (by have := HL.out; simp only [List.length_append, numB_length, bytesB_length, List.length_nil]; omega) H4.out.le).mono ?_
  rintro e w6 ⟨rfl, v6, hw, ht⟩
  have H5 := Lib.hid (H4.out.step hw ht); clear hw ht hc H4
  have hc : w6.cell? ⟨pb, 5, none⟩ = some (.string (strB host)) := H5.out.cell 5
  dsimp only
  go_wp2_with fail
  refine (wtext_any host wb w.heap.size _ _ w6 H5.out.wrt (by have := HL.out; simp only [List.length_append, numB_length, bytesB_length, List.length_nil]; omega) H5.out.le).mono ?_
  rintro e w7 ⟨rfl, v7, hw, ht⟩
  have H6 := Lib.hid (H5.out.step hw ht); clear hw ht hc H5
  have hc : w7.cell? ⟨pb, 7, none⟩ = some (.int .i64 last) := H6.out.cell 7
  dsimp only
  go_wp2_with fail
  try rw [u64N_wrap]
  try rw [u64N_mod]
  refine (num_any (u64N last) 4 HU.out.2.2.1 (by decide) (by decide) wb w.heap.size _ _ w7 H6.out.wrt (by have := HL.out; simp only [List.length_append, numB_length, bytesB_length, List.length_nil]; omega) H6.out.le).mono ?_
  rintro e w8 ⟨rfl, v8, hw, ht⟩
  have H7 := Lib.hid (H6.out.step hw ht); clear hw ht hc H6
  have hc : w8.cell? ⟨pb, 8, none⟩ = some (.int .i64 days) := H7.out.cell 8
  dsimp only
  go_wp2_with fail
  try rw [u64N_wrap]
  try rw [u64N_mod]
  refine (num_any (u64N days) 4 HU.out.2.2.2.1 (by decide) (by decide) wb w.heap.size _ _ w8 H7.out.wrt (by have := HL.out; simp only [List.length_append, numB_length, bytesB_length, List.length_nil]; omega) H7.out.le).mono ?_
  rintro e w9 ⟨rfl, v9, hw, ht⟩
  have H8 := Lib.hid (H7.out.step hw ht); clear hw ht hc H7
  have hc : w9.cell? ⟨pb, 9, none⟩ = some (.int .i64 day) := H8.out.cell 9
  dsimp only
  go_wp2_with fail
  try rw [u64N_wrap]
  try rw [u64N_mod]
  refine (num_any (u64N day) 8 HU.out.2.2.2.2.1 (by decide) (by decide) wb w.heap.size _ _ w9 H8.out.wrt (by have := HL.out; simp only [List.length_append, numB_length, bytesB_length, List.length_nil]; omega) H8.out.le).mono ?_
  rintro e w10 ⟨rfl, v10, hw, ht⟩
  have H9 := Lib.hid (H8.out.step hw ht); clear hw ht hc H8
  have hc : w10.cell? ⟨pb, 10, none⟩ = some (.int .i64 within) := H9.out.cell 10
  dsimp only
  go_wp2_with fail
  try rw [u64N_wrap]
  try rw [u64N_mod]
  refine (num_any (u64N within) 8 HU.out.2.2.2.2.2 (by decide) (by decide) wb w.heap.size _ _ w10 H9.out.wrt (by have := HL.out; simp only [List.length_append, numB_length, bytesB_length, List.length_nil]; omega) H9.out.le).mono ?_
  rintro e w11 ⟨rfl, v11, hw, ht⟩
  have H10 := Lib.hid (H9.out.step hw ht); clear hw ht hc H9
  have hc : w11.cell? ⟨pb, 11, none⟩ = some (.string (strB tag)) := H10.out.cell 11
  dsimp only
  go_wp2_with fail
  refine (wtext_any tag wb w.heap.size _ _ w11 H10.out.wrt (by have := HL.out; simp only [List.length_append, numB_length, bytesB_length, List.length_nil]; omega) H10.out.le).mono ?_
  rintro e w12 ⟨rfl, v12, hw, ht⟩
  have H11 := Lib.hid (H10.out.step hw ht); clear hw ht hc H10
  have hc : w12.cell? ⟨pb, 12, none⟩ = some (.slice ab nb cb) := H11.out.cell 12
  dsimp only
  go_wp2_with fail
  refine (num_any nb 4 (by omega) (by decide) (by decide) wb w.heap.size _ _ w12 H11.out.wrt (by have := HL.out; simp only [List.length_append, numB_length, bytesB_length, List.length_nil]; omega) H11.out.le).mono ?_
  rintro e w13 ⟨rfl, v13, hw, ht⟩
  have H12 := Lib.hid (H11.out.step hw ht); clear hw ht hc H11
  have hc : w13.cell? ⟨pb, 12, none⟩ = some (.slice ab nb cb) := H12.out.cell 12
  dsimp only
  go_wp2_with fail
  clear hc
  obtain ⟨pre, HP, hpl, hpf⟩ : ∃ pre, Hid (EncS w0 w w13 pb wb (cmdCells ⟨kind, n, who, flag, name, host, files, last, days, day, within, tag, bits⟩ (.slice af nf cf) (.slice ab nb cb)) pre v13) ∧ pre.length ≤ 58 + name.length + host.length + tag.length ∧ fin = pre ++ bitsB bits ++ filesB files :=
    ⟨_, H12, by simp only [List.length_append, numB_length, bytesB_length, List.length_nil]; omega, by rw [← HT.out]; simp only [List.nil_append, List.append_assoc, HNB.out]⟩
  clear H12 HT
  have HPL := Lib.hid hpl; have HPF := Lib.hid hpf; clear hpl hpf
  go_loopw [59] (fun i wr => ∃ (k : Nat) (v : Value), i = .int .i64 k ∧ k ≤ nb ∧ EncS w0 w wr pb wb (cmdCells ⟨kind, n, who, flag, name, host, files, last, days, day, within, tag, bits⟩ (.slice af nf cf) (.slice ab nb cb)) (pre ++ bitsB (bits.take k)) v) (fun i _ => nb - (intOf i).toNat)
  case atStart => exact ⟨0, _, rfl, by omega, by simpa [bitsB] using HP.out⟩
  case round =>
    obtain ⟨q, vk, rfl, hq, hs⟩ := hrel
    have HS1 := Lib.hid hs; clear hs
    by_cases hlt : q < nb
    · obtain ⟨b, off, rfl, hcb⟩ := IsRow.get (HBL.out.ext0 HS1.out.no) q hlt
      unfold boolV at hcb
      have hbt := bitsB_take bits q (by rw [← HNB.out]; exact hlt)
      generalize bits.getD q false = t at *
      have HBT := Lib.hid hbt; clear hbt
      go_wp2_with fail
      refine (flag_any t _).mono ?_
      rintro e w' ⟨rfl, rfl⟩
      dsimp only
      go_wp2_with fail
      refine (num_any (flagN t) 1 (by cases t <;> decide) (by decide) (by decide) wb w.heap.size _ _ wr HS1.out.wrt (by have := HL.out; have := HPL.out; have := HNB.out; simp only [List.length_append, bitsB_length, List.length_take]; omega) HS1.out.le).mono ?_
      rintro e w2 ⟨rfl, v2, hw, ht⟩
      have HS2 := Lib.hid (HS1.out.step hw ht); clear hw ht
      dsimp only
      go_wp2_with fail
      go_roundw
      case rel =>
        refine ⟨q + 1, v2, by go_num, by omega, ?_⟩
        have := HS2.out
        rw [HBT.out]
        simpa only [List.append_assoc] using this
      case measure => simp [intOf]; omega
    · have hqn : q = nb := by omega
      subst hqn
      have hc : wr.cell? ⟨pb, 6, none⟩ = some (.slice af nf cf) := HS1.out.cell 6
      go_wp2_with fail
      refine (put_any files _ wb w.heap.size _ vk w0 wr HF.out HS1.out.no HS1.out.wrt HS1.out.wb0 HS1.out.w00 HS1.out.le (by have := HL.out; have := HPL.out; have := HNB.out; simp only [List.length_append, bitsB_length, List.length_take]; omega)).mono ?_
      rintro e w2 ⟨rfl, v2, hw, ht⟩
      have hfin := hw
      rw [List.take_of_length_le (by rw [HNB.out]; exact Nat.le_refl _), ← HPF.out] at hfin
      have HFI := Lib.hid hfin
      have HS2 := Lib.hid (HS1.out.step hw ht); clear hw ht hc hfin
      dsimp only
      go_wp2_with fail
      go_end0
      refine ⟨0, .inl ⟨rfl, rfl⟩, HS2.out.ext, HCHK.out.symm, fun _ => ⟨v2, ?_⟩⟩
      rw [HFIN.out]; exact HFI.out

end Go.Proofs.Ytchejnnfbinclaa
end

section
/- The contract of script.Encode, whole. -/
namespace Go.Proofs.Ytchejnnfbinclaa
open Go.RowKit Go.My

def EncTold (c : CmdI) (w : World) (e : Ending) (w' : World) : Prop :=
  Ext No w w' ∧ ((checkN c = 0 ∧ ∃ x, e = .returned (.tuple #[x, .int .i64 0]) ∧ OwnB w' 5 w.heap.size (cmdB c) x) ∨ (checkN c ≠ 0 ∧ e = .returned (.tuple #[.slice none 0 0, .int .i64 (checkN c)])))

set_option maxRecDepth 100000 in
set_option maxHeartbeats 4000000 in
theorem encode_any (c : CmdI) (vf vb : Value) (w : World) (hf : IsFiles w c.files vf) (hb : IsBools w c.bits vb)
    (hwho : c.who ≤ 18446744073709551615) (hl : 200 + c.name.length + c.host.length + c.tag.length + c.bits.length + (filesB c.files).length ≤ 1099511627776) :
    Calls Try.prog 12 #[cmdVal c vf vb] w (EncTold c w) := by
  have hmf := mkf
  obtain ⟨w0, hw0⟩ : ∃ w0, lay w [(cmdCells c vf vb, 28), (#[.slice none 0 0], 78)] = w0 := ⟨_, rfl⟩
  have hx0 : Ext No w w0 := by rw [← hw0]; exact lay_ext _ (Ext.refl _ _)
  have hsz : w0.heap.size = w.heap.size + 2 := by rw [← hw0]; exact lay_size _ w
  have hb0 := lay_at hw0 0 _ _ rfl
  have hb1 := lay_at hw0 1 _ _ rfl
  rw [Nat.add_zero] at hb0
  simp only [lay, cmdCells] at hw0
  have herr := Blk.new w0 #[.int .i64 0] 32
  have hxe : Ext No w0 (w0.alloc (.cells #[.int .i64 0] 32)) := (Ext.refl No w0).alloc _
  have hze : (w0.alloc (.cells #[.int .i64 0] 32)).heap.size = w0.heap.size + 1 := World.size_alloc _ _
  have hs : EncS w (w0.alloc (.cells #[.int .i64 0] 32)) (w0.alloc (.cells #[.int .i64 0] 32)) w.heap.size (w.heap.size + 1) (cmdCells c vf vb) [] (.slice none 0 0) :=
    ⟨hb0.ext hxe (fun s => s), ⟨hb1.ext hxe (fun s => s), ⟨rfl, .inl ⟨rfl, rfl⟩⟩⟩, Ext.refl _ _, hx0.trans' hxe, by omega, by omega, by omega, by omega⟩
  have he := encode1_any c vf vb _ _ _ _ hf hb hs hwho hl
  have hrun := run_ext (fun j => j = w.heap.size + 1) 35 #[.pointer (some ⟨w.heap.size, 0, none⟩), .pointer (some ⟨w.heap.size + 1, 0, none⟩)] w0 (EncQ c (w.heap.size + 1) (w0.heap.size + 1))
    (fun w => by kernel_rfl) (by omega) (fun n w1 ⟨h1, h2⟩ => ⟨h1, fun h0 => by
      obtain ⟨v, hv⟩ := h2 h0
      have hx : Ext (fun j => j = w0.heap.size) w1 (w1.setCell ⟨w0.heap.size, 0, none⟩ (.int .i64 n)) := (Ext.refl _ w1).setCell _ _ (fun _ => rfl)
      exact ⟨v, hv.box.ext hx (by omega), hv.own.ext hx (fun j hj s => by have := (hv.own.lt j hj).1; omega)⟩⟩) (by rw [← hze]; exact he)
  have HRUN := Lib.hid hrun; have HX0 := Lib.hid hx0; have HW0 := Lib.hid hw0; have HSZ := Lib.hid hsz
  have HLC := Lib.hid (show (cmdB c).length ≤ 1099511627776 by unfold cmdB; simp only [List.length_append, numB_length, bytesB_length, bitsB_length]; omega)
  generalize hgc : checkN c = k
  have HGC := Lib.hid hgc
  clear hrun he hs hze hxe herr hb0 hb1 hx0 hw0 hsz hf hb hl hwho hgc
  unfold cmdVal
  go_enter Try.func12, Try.ntmps12
  go_wp2_with fail
  rw [HW0.out]; clear HW0
  refine HRUN.out.mono ?_
  rintro e w1 ⟨n, rfl, hx1, hn, hv⟩
  have HX1 := Lib.hid (HX0.out.trans hx1 (fun _ _ s => s) (fun j hj s => by omega))
  rw [HGC.out] at hn
  subst hn
  by_cases h0 : n = 0
  · subst h0
    obtain ⟨v, hv⟩ := hv rfl
    have HV := Lib.hid hv; clear hv hx1
    dsimp only
    go_wp2_with fail
    refine (done_any _ _ _ v w1 HV.out HLC.out).mono ?_
    rintro e w2 ⟨x, rfl, ho, hx2⟩
    have HO := Lib.hid ho; have HX2 := Lib.hid (HX1.out.trans' hx2); clear ho hx2
    dsimp only
    go_wp2_with fail
    go_ret2
    have hz1 := HX1.out.size
    exact ⟨HX2.out, .inl ⟨HGC.out, x, rfl, own_le HO.out hz1⟩⟩
  · have hd : (n == 0) = false := by simpa using h0
    clear hv hx1
    dsimp only
    go_wp2_with fail
    go_ret2
    refine ⟨HX1.out, .inr ⟨by rw [HGC.out]; exact h0, ?_⟩⟩
    rw [HGC.out]
    rfl
end Go.Proofs.Ytchejnnfbinclaa
end

section
/- Plain laws: rows of the call's own whose elements are of several cells. No program in sight. -/
namespace Go.My
open Go.RowKit

/-- the cells of element i -/
def elC (us : List Value) (size i : Nat) : List Value := (us.drop (i * size)).take size
theorem elC_left (us news : List Value) (size i n : Nat) (h : us.length = n * size) (hi : i < n) : elC (us ++ news) size i = elC us size i := by
  unfold elC
  have h1 : i * size + size ≤ us.length := by rw [h, ← Nat.succ_mul]; exact Nat.mul_le_mul_right _ hi
  rw [List.drop_append_of_le_length (by omega), List.take_append_of_le_length (by rw [List.length_drop]; omega)]
theorem elC_last (us news : List Value) (size n : Nat) (h : us.length = n * size) (hn : news.length = size) : elC (us ++ news) size n = news := by
  unfold elC
  rw [← h, List.drop_left, List.take_of_length_le (by omega)]
theorem elC_get (us : List Value) (size i j : Nat) (hj : j < size) : (elC us size i)[j]? = us[i * size + j]? := by
  unfold elC
  rw [List.getElem?_take, if_pos hj, List.getElem?_drop]

/-- a row of the call's own; E tells what an element's cells are -/
def OwnSeq {α : Type} (w : World) (base : Nat) (T : TypeId) (size : Nat) (E : World → α → List Value → Prop) (xs : List α) (v : Value) : Prop :=
  ∃ us, w.ownsRow base T size v xs.length us ∧ ∀ i x, xs[i]? = some x → E w x (elC us size i)
section
variable {α : Type} {w w' : World} {base size : Nat} {T : TypeId} {E : World → α → List Value → Prop} {xs : List α} {v : Value}
theorem OwnSeq.nil (w : World) (base : Nat) (T : TypeId) (size : Nat) (E : World → α → List Value → Prop) : OwnSeq w base T size E [] (.slice none 0 0) :=
  ⟨[], World.ownsRow_nil w base T size, fun i x hx => by simp at hx⟩
theorem OwnSeq.ext {S : Nat → Prop} (h : OwnSeq w base T size E xs v) (x : Ext S w w') (hs : ∀ k, v.ownBlock = some k → ¬ S k) (hE : ∀ a us, E w a us → E w' a us) : OwnSeq w' base T size E xs v := by
  obtain ⟨us, h1, h2⟩ := h
  exact ⟨us, own_ext h1 x hs, fun i a ha => hE _ _ (h2 i a ha)⟩
theorem OwnSeq.app {us news : List Value} {y : α} {v' : Value} (h1 : w.ownsRow base T size v xs.length us) (h2 : ∀ i x, xs[i]? = some x → E w x (elC us size i)) (hn : news.length = size) (hy : E w' y news) (hE : ∀ a us, E w a us → E w' a us)
    (h3 : w'.ownsRow base T size v' (xs.length + 1) (us ++ news)) : OwnSeq w' base T size E (xs ++ [y]) v' := by
  refine ⟨us ++ news, by rw [List.length_append]; exact h3, fun i x hx => ?_⟩
  by_cases hi : i < xs.length
  · rw [List.getElem?_append_left hi] at hx
    rw [elC_left us news size i xs.length h1.1 hi]
    exact hE _ _ (h2 i x hx)
  · rw [List.getElem?_append_right (by omega)] at hx
    have : i = xs.length := by
      rcases Nat.eq_zero_or_pos (i - xs.length) with h0 | h0
      · omega
      · rw [List.getElem?_eq_none (by simp; omega)] at hx; cases hx
    subst this
    simp at hx
    subst hx
    rw [elC_last us news size xs.length h1.1 hn]
    exact hy
theorem OwnSeq.len (h : OwnSeq w base T size E xs v) : ∃ a c, v = .slice a xs.length c := by
  obtain ⟨us, h1, -⟩ := h; exact own_form h1
theorem OwnSeq.lt (h : OwnSeq w base T size E xs v) : ∀ k, v.ownBlock = some k → base ≤ k ∧ k < w.heap.size := by
  obtain ⟨us, h1, -⟩ := h; exact World.ownsRow.lt h1
theorem own_blkN {B n j : Nat} {us : List Value} (h : w.ownsRow B T size v n us) (hj : v.ownBlock = some j) : ∃ cs, Blk w j cs T := by
  rcases h.2 with ⟨rfl, _⟩ | ⟨g, cap, cur, rfl, -, hg, -⟩
  · cases hj
  · have : g = j := Option.some.inj hj
    subst this; exact ⟨cur, hg⟩
theorem OwnSeq.blk {j : Nat} (h : OwnSeq w base T size E xs v) (hj : v.ownBlock = some j) : ∃ cs, Blk w j cs T := by
  obtain ⟨us, h1, -⟩ := h; exact own_blkN h1 hj
/-- an element's cells, read -/
theorem OwnSeq.get {a : Option Addr} {n c : Nat} (h : OwnSeq w base T size E xs (.slice a n c)) (i : Nat) (x : α) (hx : xs[i]? = some x) :
    ∃ b us, a = some ⟨b, 0, none⟩ ∧ E w x us ∧ ∀ j, j < size → us[j]? = w.cell? ⟨b, i * size + j, none⟩ := by
  obtain ⟨us, h1, h2⟩ := h
  have hi : i < xs.length := by
    rcases Nat.lt_or_ge i xs.length with h | h
    · exact h
    · rw [List.getElem?_eq_none h] at hx; cases hx
  refine ?_
  rcases h1.2 with ⟨-, h0⟩ | ⟨g, cap, cur, he, -, hg, -, -, hsz, htk⟩
  · omega
  · simp only [Value.slice.injEq] at he
    obtain ⟨rfl, rfl, rfl⟩ := he
    refine ⟨g, _, rfl, h2 i x hx, fun j hj => ?_⟩
    rw [elC_get us size i j hj]
    have hb : Blk w g cur T := hg
    rw [hb.cell, ← htk, List.getElem?_take]
    have h4 : i * size + j < xs.length * size := by
      have : i * size + size ≤ xs.length * size := by rw [← Nat.succ_mul]; exact Nat.mul_le_mul_right _ hi
      omega
    rw [if_pos h4]
    simp
end
/-- append of one element of several cells -/
theorem wpList_appS {P : Program} {ops : Array Oper} {rest : List Oper} {o : Oper} {a : Act} {Q : Exit → Act → World → Prop} (w : World) (us : List Value) (size : Nat) (hsz : 0 < size) (hgd : o.guard = none) (s x : Operand) (t : TypeId)
    (ho : o.op = .call { callee := .builtin .append, args := #[s, x], argTypes := #[t, t] }) (base : Nat) (e : TypeId) (z : Value) (bytes : Nat)
    (hinfo : (P.info? e).map (fun i => (i.zero, i.size, i.bytes)) = some (some z, size, bytes)) (ht : P.underlying t = some (.slice e)) (hzs : z.cells.size = size)
    (v : Value) (n : Nat) (xs : List Value) (hs : a.eval s = v) (hown : w.ownsRow base e size v n xs) (b : Nat) (T : TypeId) (hx : a.eval x = .slice (some ⟨b, 0, none⟩) 1 1) (hb : Blk w b us.toArray T) (hl : us.length = size) (h1 : ∀ u ∈ us, u.oneCell' = true)
    (h63 : n + 1 ≤ 9223372036854775807) (hbytes : (n + 1) * bytes ≤ 140737488355328) (hbase : base ≤ w.heap.size)
    (h : ∀ v' w', w'.ownsRow base e size v' (n + 1) (xs ++ us) → w.grownBy w' v.ownBlock → (v'.ownBlock = v.ownBlock ∨ v'.ownBlock = some w.heap.size) → wpList P ops Q rest (a.put o.dst v') w') : wpList P ops Q (o :: rest) a w := by
  obtain ⟨i0, hi, hz0, hz1, hz2⟩ : ∃ i, P.info? e = some i ∧ i.zero = some z ∧ i.size = size ∧ i.bytes = bytes := by
    cases hi : P.info? e with
    | none => rw [hi] at hinfo; cases hinfo
    | some i => rw [hi] at hinfo; simp at hinfo; exact ⟨i, rfl, hinfo.1, hinfo.2.1, hinfo.2.2⟩
  refine wpList_append_own_at w hgd s x t ho base e i0 z size bytes ht hi hz0 hz1 hz2 hzs hsz v n xs hs hown ⟨b, 0, none⟩ 1 1 us hx (by omega) ?_ h1 (by unfold maxLen; omega) hbytes hbase fun v' w' h2 h3 _ h4 => h v' w' h2 h3 h4
  intro j y hj
  rw [addr_add, Nat.zero_add, hb.cell]
  simpa using hj
/-- append of a row, as one step of a region that draws its order -/
theorem step_appN {P : Program} {ops : Array Oper} {o : Oper} {a : Act} {K : Act → World → Prop} {Q : Exit → Act → World → Prop} {E : Prop} (w : World) (hgd : o.guard = none) (s x : Operand) (t : TypeId)
    (ho : o.op = .call { callee := .builtin .append, args := #[s, x], argTypes := #[t, t] }) (base : Nat) (e : TypeId) (z : Value) (bytes : Nat)
    (hinfo : (P.info? e).map (fun i => (i.zero, i.size, i.bytes)) = some (some z, 1, bytes)) (ht : P.underlying t = some (.slice e)) (hzs : z.cells.size = 1)
    (v : Value) (n : Nat) (xs : List Value) (hs : a.eval s = v) (hown : w.ownsRow base e 1 v n xs) (ad : Addr) (m c : Nat) (f : Nat → Value) (hx : a.eval x = .slice (some ad) m c) (hrow : IsRow w f m (.slice (some ad) m c)) (h1 : ∀ i, i < m → (f i).oneCell' = true)
    (h63 : n + m ≤ 9223372036854775807) (hbytes : (n + m) * bytes ≤ 140737488355328) (hbase : base ≤ w.heap.size)
    (h : ∀ v' w', w'.ownsRow base e 1 v' (n + m) (xs ++ (List.range m).map f) → w.grownBy w' v.ownBlock → K (a.put o.dst v') w') : if Region.wanted o (yielded ops a.tmps) = true then Oper.wp P o a w K Q else E := by
  have hw : Region.wanted o (yielded ops a.tmps) = true := by simp [Region.wanted, hgd]
  rw [if_pos hw]
  obtain ⟨i0, hi, hz0, hz1, hz2⟩ := info_parts hinfo
  refine wp_append_own w s x t ho base e i0 z 1 bytes ht hi hz0 hz1 hz2 hzs (by decide) v n xs hs hown ad m c ((List.range m).map f) hx (by simp) hrow.news ?_ (by unfold maxLen; omega) hbytes hbase fun v' w' h2 h3 _ => h v' w' h2 h3
  intro u hu
  simp only [List.mem_map, List.mem_range] at hu
  obtain ⟨i, hi, rfl⟩ := hu
  exact h1 i hi
/-- rows behind rows -/
theorem OwnBs.appL {w w' : World} {u8 sb : TypeId} {base : Nat} {ls cs : List (List UInt8)} {v v' : Value} {xs ys : List Value} (ht : u8 ≠ sb) (h1 : w.ownsRow base sb 1 v ls.length xs) (h2 : ∀ i, i < ls.length → OwnB w u8 base (ls.getD i []) (xs.getD i undef))
    (hx : ∀ i, i < cs.length → OwnB w u8 base (cs.getD i []) (ys.getD i undef)) (h3 : w'.ownsRow base sb 1 v' (ls.length + cs.length) (xs ++ ys)) (g : w.grownBy w' v.ownBlock) : OwnBs w' u8 sb base (ls ++ cs) v' := by
  have hl : xs.length = ls.length := by have := h1.1; omega
  have kept : ∀ {l : List UInt8} {y : Value}, OwnB w u8 base l y → OwnB w' u8 base l y := fun h => World.ownsRow.kept h g (own_ne_own h h1 ht)
  refine ⟨xs ++ ys, by rw [List.length_append]; exact h3, fun i hi => ?_⟩
  rw [List.length_append] at hi
  by_cases hi' : i < ls.length
  · have e1 : (ls ++ cs).getD i [] = ls.getD i [] := by simp [List.getD_eq_getElem?_getD, List.getElem?_append_left hi']
    have e2 : (xs ++ ys).getD i undef = xs.getD i undef := by simp [List.getD_eq_getElem?_getD, List.getElem?_append_left (show i < xs.length by omega)]
    rw [e1, e2]; exact kept (h2 i hi')
  · have e1 : (ls ++ cs).getD i [] = cs.getD (i - ls.length) [] := by simp [List.getD_eq_getElem?_getD, List.getElem?_append_right (show ls.length ≤ i by omega)]
    have e2 : (xs ++ ys).getD i undef = ys.getD (i - ls.length) undef := by simp [List.getD_eq_getElem?_getD, List.getElem?_append_right (show xs.length ≤ i by omega), hl]
    rw [e1, e2]; exact kept (hx _ (by omega))
/-- cells stored one behind the other -/
def putAll (w : World) (b : Nat) : Nat → List Value → World
  | _, [] => w
  | i, v :: vs => putAll (w.setCell ⟨b, i, none⟩ v) b (i + 1) vs
theorem putAll_ext (b : Nat) : ∀ (vs : List Value) (w : World) (i : Nat), Ext (fun j => j = b) w (putAll w b i vs) := by
  intro vs
  induction vs with
  | nil => intro w i; exact Ext.refl _ w
  | cons v vs ih => intro w i; exact ((Ext.refl (fun j => j = b) w).setCell ⟨b, i, none⟩ v (fun _ => rfl)).trans' (ih _ _)
theorem putAll_blk (b : Nat) (T : TypeId) : ∀ (vs : List Value) (w : World) (us ws : List Value), Blk w b (us ++ ws).toArray T → ws.length = vs.length → Blk (putAll w b us.length vs) b (us ++ vs).toArray T := by
  intro vs
  induction vs with
  | nil => intro w us ws h hl; have : ws = [] := List.length_eq_zero_iff.1 hl; subst this; exact h
  | cons v vs ih =>
    intro w us ws h hl
    cases ws with
    | nil => cases hl
    | cons x ws =>
      have h1 := h.set us.length v
      have e : (us ++ x :: ws).toArray.setIfInBounds us.length v = ((us ++ [v]) ++ ws).toArray := by simp
      rw [e] at h1
      have h2 := ih (w.setCell ⟨b, us.length, none⟩ v) (us ++ [v]) ws h1 (by simpa using hl)
      rw [List.length_append, List.append_assoc] at h2
      exact h2
theorem putAll_all {w : World} {b : Nat} {T : TypeId} {cs : Array Value} (h : Blk w b cs T) (vs : List Value) (hl : cs.size = vs.length) : Blk (putAll w b 0 vs) b vs.toArray T := by
  have := putAll_blk b T vs w [] cs.toList (by simpa using h) (by simpa using hl)
  simpa using this
end Go.My
end
