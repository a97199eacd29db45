/-
  JOINED (2): the contracts of path.Parts, Check; slices.Collect.
-/
import Derived.Test.YtajilboimjcfjaaDoorPZA
import Derived.Shelf.Abstract
import Derived.Shelf.RegionOpen
import Derived.OwnWalkIn
import Derived.TacticsInMore
import Derived.LoopNIn
import Derived.LoopIn
import Derived.RangeFuncNested
import Derived.RangeFuncBound
import Derived.RangeFuncCalls
import Derived.RangeFuncLeaves
set_option linter.unusedVariables false
set_option linter.unusedSimpArgs false

section
/- The parts of a path; the iterator of strings.SplitSeq at a separator. -/
namespace Go.Proofs.YtajilboimjcfjaaDoor
open Go.RowKit Go.My Go.Shelf

/-- all between two separators -/
def partsL : List UInt8 → List (List UInt8)
  | [] => [[]]
  | c :: l => if c = 47 then [] :: partsL l else match partsL l with
    | [] => [[c]]
    | p :: ps => (c :: p) :: ps
theorem partsL_ne (l : List UInt8) : partsL l ≠ [] := by
  cases l with
  | nil => simp [partsL]
  | cons c l =>
    rw [partsL]
    split
    · simp
    · split <;> simp
theorem partsL_none (l : List UInt8) (h : Lib.indexByte l 47 < 0) : partsL l = [l] := by
  induction l with
  | nil => rfl
  | cons c l ih =>
    unfold Lib.indexByte at h
    by_cases hc : c = 47
    · rw [if_pos (by simp [hc])] at h; exact absurd h (by decide)
    · rw [if_neg (by simp [hc])] at h
      rw [partsL, if_neg hc]
      by_cases h1 : Lib.indexByte l 47 < 0
      · rw [ih h1]
      · rw [if_neg (by simp; omega)] at h; omega
theorem partsL_some (l : List UInt8) (i : Nat) (h : Lib.indexByte l 47 = i) : i < l.length ∧ partsL l = l.take i :: partsL (l.drop (i + 1)) := by
  induction l generalizing i with
  | nil => unfold Lib.indexByte at h; omega
  | cons c l ih =>
    unfold Lib.indexByte at h
    by_cases hc : c = 47
    · rw [if_pos (by simp [hc])] at h
      have : i = 0 := by omega
      subst this
      rw [partsL, if_pos hc]
      exact ⟨by simp, by simp⟩
    · rw [if_neg (by simp [hc])] at h
      have hge := Lib.indexByte_ge l 47
      by_cases h1 : Lib.indexByte l 47 = -1
      · rw [if_pos (by simp [h1])] at h; omega
      · rw [if_neg (by simp [h1])] at h
        obtain ⟨j, hj⟩ : ∃ j : Nat, Lib.indexByte l 47 = j := ⟨(Lib.indexByte l 47).toNat, by omega⟩
        have hij : i = j + 1 := by omega
        subst hij
        obtain ⟨h2, h3⟩ := ih j hj
        refine ⟨by rw [List.length_cons]; omega, ?_⟩
        rw [partsL, if_neg hc, h3]
        simp

def HandedP (l : List UInt8) (k : Nat) (args : Array Value) (_ : World) : Prop := args = #[.string (strB ((partsL l).getD k []))]
/-- the length of the string in a box -/
def boxLen (b : Nat) (w : World) : Nat := match w.cell? ⟨b, 0, none⟩ with
  | some (.string s) => s.size
  | _ => 0
theorem boxLen_blk {w : World} {b : Nat} {l : List UInt8} {T : TypeId} (h : Blk w b #[.string (strB l)] T) : boxLen b w = l.length := by
  unfold boxLen
  rw [h.cell 0]
  show (strB l).size = _
  exact strB_size l

set_option maxRecDepth 100000 in
set_option maxHeartbeats 8000000 in
theorem split1_seq (l : List UInt8) (bp bs bv : Nat) (w : World) (hp : Blk w bp #[.string ⟨#[47]⟩] 9) (hs : Blk w bs #[.string (strB l)] 9) (hv : Blk w bv #[.int .i64 0] 3) (hl : l.length ≤ 1099511627776) (hn1 : bs ≠ bp) (T : World → Nat → Prop) (hT : ∀ W, ¬ T W bp ∧ ¬ T W bs ∧ ¬ T W bv) :
    SeqW Tryd.prog 54 #[.pointer (some ⟨bp, 0, none⟩), .pointer (some ⟨bs, 0, none⟩), .pointer (some ⟨bv, 0, none⟩)] (partsL l).length (HandedP l) (fun j => j = bs) T (fun _ => True) w := by
  intro y J Jx W hW hsz hJ hJx hY h0
  have hp1 := hp.ext hW (fun s => s)
  have hs1 := hs.ext hW (fun s => s)
  have hv1 := hv.ext hW (fun s => s)
  have hn2 : bs ≠ bv := Blk.ne_type hs hv (by decide)
  have hc1 := hp1.cell 0; have hc2 := hs1.cell 0; have hc3 := hv1.cell 0
  simp only [List.getElem?_toArray, List.getElem?_cons_zero] at hc1 hc2 hc3
  have HP := Lib.hid hp1; have HS := Lib.hid hs1; have HV := Lib.hid hv1; have HT := Lib.hid hT; have H0 := Lib.hid h0; have HL := Lib.hid hl; have HN := Lib.hid (And.intro hn1 hn2)
  clear hp hs hv hl hT h0 hsz hW hp1 hs1 hv1 hn1 hn2
  refine (callsIn_wide (n := 0)).1 ?_
  show CallsIn Fence.wide 0 Tryd.prog _ #[.func (.yield y) #[] #[], .pointer (some ⟨bp, 0, none⟩), .pointer (some ⟨bs, 0, none⟩), .pointer (some ⟨bv, 0, none⟩)] W _
  refine callsIn_of_wp Tryd.func54 rfl trivial ?_ rfl
  simp only [Tryd.ntmps54, List.size_toArray, List.length_cons, List.length_nil, Nat.reduceAdd, Nat.reduceSub, Array.replicate_succ, Array.replicate_zero, List.push_toArray, List.append_toArray, List.nil_append, List.cons_append]
  gi_wp2_with fail
  gi_loopw [7] (fun _ wr => ∃ (k : Nat) (r : List UInt8), k < (partsL l).length ∧ partsL r = (partsL l).drop k ∧ r.length ≤ l.length ∧ Blk wr bp #[.string ⟨#[47]⟩] 9 ∧ Blk wr bs #[.string (strB r)] 9 ∧ Blk wr bv #[.int .i64 0] 3 ∧ J k wr) (fun _ wr => boxLen bs wr)
  case atStart => exact ⟨0, l, List.length_pos_iff.2 (partsL_ne l), rfl, Nat.le_refl _, HP.out, HS.out, HV.out, H0.out⟩
  case round =>
    obtain ⟨k, r, hk, hd, hrl, hp, hs, hv, hj⟩ := hrel
    have hc1 := hp.cell 0; have hc2 := hs.cell 0; have hc3 := hv.cell 0; have hf2 := hs.free 0
    simp only [List.getElem?_toArray, List.getElem?_cons_zero] at hc1 hc2 hc3
    have hz := strB_size r
    have HK := Lib.hid (And.intro hk (And.intro hd hrl)); have HP1 := Lib.hid hp; have HS1 := Lib.hid hs; have HV1 := Lib.hid hv; have HJ := Lib.hid hj
    clear hk hd hrl hp hs hv hj
    gi_wp2_with fail
    refine ⟨trivial, rfl, (callsIn_wide.2 (index_sep r wr)).mono ?_⟩
    rintro e w2 ⟨rfl, rfl⟩
    have hge := Lib.indexByte_ge r 47
    by_cases hi : Lib.indexByte r 47 < 0
    · have hpr := partsL_none r hi
      have hone : (partsL l).drop k = [r] := by rw [← HK.out.2.1, hpr]
      have hkN : k + 1 = (partsL l).length := by
        have := congrArg List.length hone
        rw [List.length_drop, List.length_singleton] at this
        have := HK.out.1; omega
      have hget : (partsL l).getD k [] = r := by
        rw [List.drop_eq_getElem_cons HK.out.1] at hone
        rw [List.getD_eq_getElem?_getD, List.getElem?_eq_getElem HK.out.1]
        exact (List.cons.inj hone).1
      obtain ⟨fn, tmps, assign, body, hy, hR⟩ := hY k #[.string (strB r)] wr HK.out.1 HJ.out (by unfold HandedP; rw [hget])
      have HKN := Lib.hid hkN
      generalize Lib.indexByte r 47 = i at *
      clear hpr hone hkN hget
      dsimp only
      gi_wp2_with fail
      refine ⟨rfl, hR.mono ?_⟩
      clear hR hy
      rintro e w4 (⟨rfl, hj4, hx4⟩ | ⟨rfl, hj4, hx4⟩)
      · have HJ4 := Lib.hid hj4; clear hj4 hx4
        dsimp only
        gi_wp2_with fail
        go_end0
        exact ⟨⟨_, rfl⟩, .inl (HKN.out ▸ HJ4.out), trivial⟩
      · have HJ4 := Lib.hid hj4; clear hj4 hx4
        dsimp only
        gi_wp2_with fail
        go_end0
        exact ⟨⟨_, rfl⟩, .inr ⟨k + 1, by have := HKN.out; omega, HJ4.out⟩, trivial⟩
    · obtain ⟨i, hie⟩ : ∃ i : Nat, Lib.indexByte r 47 = i := ⟨(Lib.indexByte r 47).toNat, by omega⟩
      obtain ⟨hir, hpr⟩ := partsL_some r i hie
      have hdr : (partsL l).drop k = r.take i :: partsL (r.drop (i + 1)) := by rw [← HK.out.2.1, hpr]
      have hget : (partsL l).getD k [] = r.take i := by
        have e := hdr
        rw [List.drop_eq_getElem_cons HK.out.1] at e
        rw [List.getD_eq_getElem?_getD, List.getElem?_eq_getElem HK.out.1]
        exact (List.cons.inj e).1
      have hnext : partsL (r.drop (i + 1)) = (partsL l).drop (k + 1) := by
        have e := hdr
        rw [List.drop_eq_getElem_cons HK.out.1] at e
        exact (List.cons.inj e).2.symm
      have hk1 : k + 1 < (partsL l).length := by
        rcases Nat.lt_or_ge (k + 1) (partsL l).length with h | h
        · exact h
        · rw [List.drop_eq_nil_of_le h] at hnext; exact absurd hnext (partsL_ne _)
      rw [hie]
      have e1 : (strB r).extract 0 i = strB (r.take i) := by rw [strB_extract, List.drop_zero]
      have e2 : (strB r).extract (i + 1) r.length = strB (r.drop (i + 1)) := by rw [strB_extract, List.take_length]
      have hir2 : (i : Int) ≤ r.length := by omega
      have hir3 : (i : Int) + 1 ≤ r.length := by omega
      have hi63 : (i : Int) ≤ 1099511627776 := by have := HL.out; have := HK.out.2.2; omega
      have hi64 : i ≤ 1099511627776 := by omega
      obtain ⟨fn, tmps, assign, body, hy, hR⟩ := hY k #[.string (strB (r.take i))] wr HK.out.1 HJ.out (by unfold HandedP; rw [hget])
      have HN1 := Lib.hid (And.intro hnext (And.intro hk1 hir))
      clear hpr hdr hget hnext hk1 hge hi hie
      dsimp only
      gi_wp2_with fail
      refine ⟨rfl, hR.mono ?_⟩
      clear hR hy
      rintro e w4 (⟨rfl, hj4, hx4⟩ | ⟨rfl, hj4, hx4⟩)
      · have hp4 := HP1.out.ext hx4 (HT.out _).1; have hs4 := HS1.out.ext hx4 (HT.out _).2.1; have hv4 := HV1.out.ext hx4 (HT.out _).2.2
        have hd1 := hp4.cell 0; have hd2 := hs4.cell 0; have hd3 := hv4.cell 0; have hf4 := hs4.free 0
        simp only [List.getElem?_toArray, List.getElem?_cons_zero] at hd1 hd2 hd3
        have HJ4 := Lib.hid hj4; have HP4 := Lib.hid hp4; have HS4 := Lib.hid hs4; have HV4 := Lib.hid hv4
        clear hj4 hx4 hp4 hs4 hv4 hc1 hc2 hc3 hf2
        dsimp only
        gi_wp2_with fail
        go_roundw
        case rel => exact ⟨k + 1, r.drop (i + 1), HN1.out.2.1, HN1.out.1, by rw [List.length_drop]; have := HK.out.2.2; omega, HP4.out.set_other _ _ (fun e => HN.out.1 e.symm), HS4.out.set 0 _, HV4.out.set_other _ _ (fun e => HN.out.2 e.symm), hJ _ _ _ HJ4.out ((Ext.refl _ w4).setCell _ _ (fun _ => rfl))⟩
        case measure =>
          rw [boxLen_blk (HS4.out.set 0 (.string (strB (r.drop (i + 1))))), boxLen_blk HS1.out, List.length_drop]
          have := HN1.out.2.2; omega
      · have HJ4 := Lib.hid hj4; clear hj4 hx4
        dsimp only
        gi_wp2_with fail
        refine bodyPost_ret (results_none rfl _ _ _) rfl ?_
        exact ⟨⟨_, rfl⟩, .inr ⟨k + 1, by have := HN1.out.2.1; omega, HJ4.out⟩, trivial⟩

end Go.Proofs.YtajilboimjcfjaaDoor
end

section
/- The contracts of path.Parts (the iterator handed out) and path.Check. -/
namespace Go.Proofs.YtajilboimjcfjaaDoor
open Go.RowKit Go.My Go.Shelf

attribute [local go_sem] Oper.semAt_some

/-- what Parts hands out -/
def PartsTold (l : List UInt8) (w : World) (e : Ending) (w' : World) : Prop :=
  Ext No w w' ∧ ∃ bp bs bv, e = .returned (.func (.func 54) #[] #[.pointer (some ⟨bp, 0, none⟩), .pointer (some ⟨bs, 0, none⟩), .pointer (some ⟨bv, 0, none⟩)]) ∧
    Blk w' bp #[.string ⟨#[47]⟩] 9 ∧ Blk w' bs #[.string (strB l)] 9 ∧ Blk w' bv #[.int .i64 0] 3 ∧ bs ≠ bp ∧ w.heap.size ≤ bs ∧ w.heap.size ≤ bp ∧ w.heap.size ≤ bv
set_option maxRecDepth 100000 in
set_option maxHeartbeats 1000000 in
theorem splitSeq0_any (l : List UInt8) (w : World) : Calls Tryd.prog 48 #[.string (strB l), .string ⟨#[47]⟩, .int .i64 0] w (PartsTold l w) := by
  have h1 := (((Blk.new w #[.string (strB l)] 9).alloc (.cells #[.string ⟨#[47]⟩] 9)).alloc (.cells #[.int .i64 0] 3))
  have h2 := (Blk.new (w.alloc (.cells #[.string (strB l)] 9)) #[.string ⟨#[47]⟩] 9).alloc (.cells #[.int .i64 0] 3)
  have h3 := Blk.new ((w.alloc (.cells #[.string (strB l)] 9)).alloc (.cells #[.string ⟨#[47]⟩] 9)) #[.int .i64 0] 3
  rw [World.size_alloc] at h2
  rw [World.size_alloc, World.size_alloc] at h3
  have hx : Ext No w (((w.alloc (.cells #[.string (strB l)] 9)).alloc (.cells #[.string ⟨#[47]⟩] 9)).alloc (.cells #[.int .i64 0] 3)) := (((Ext.refl No w).alloc _).alloc _).alloc _
  have H := Lib.hid (And.intro h1 (And.intro h2 (And.intro h3 hx)))
  have hmf := mkf
  clear h1 h2 h3 hx
  go_enter Tryd.func48, Tryd.ntmps48
  go_wp2_with fail
  go_ret
  exact ⟨H.out.2.2.2, w.heap.size + 1, w.heap.size, w.heap.size + 1 + 1, rfl, H.out.2.1, H.out.1, H.out.2.2.1, by omega, by omega, by omega, by omega⟩
set_option maxRecDepth 100000 in
theorem splitSeq_any (l : List UInt8) (w : World) : Calls Tryd.prog 39 #[.string (strB l), .string ⟨#[47]⟩] w (PartsTold l w) := by
  go_enter Tryd.func39, Tryd.ntmps39
  go_wp2_with fail
  refine (splitSeq0_any l w).mono ?_
  rintro e w' ⟨hE, bp, bs, bv, rfl, h⟩
  have H := Lib.hid h; have HE := Lib.hid hE
  clear h hE
  dsimp only
  go_wp2_with fail
  go_ret
  exact ⟨HE.out, bp, bs, bv, rfl, H.out⟩
set_option maxRecDepth 100000 in
theorem parts_any (l : List UInt8) (w : World) : Calls Tryd.prog 27 #[.string (strB l)] w (PartsTold l w) := by
  go_enter Tryd.func27, Tryd.ntmps27
  go_wp2_with fail
  refine (splitSeq_any l w).mono ?_
  rintro e w' ⟨hE, bp, bs, bv, rfl, h⟩
  have H := Lib.hid h; have HE := Lib.hid hE
  clear h hE
  dsimp only
  go_wp2_with fail
  go_ret
  exact ⟨HE.out, bp, bs, bv, rfl, H.out⟩

end Go.Proofs.YtajilboimjcfjaaDoor
end

section
/- The contract of path.Check. -/
namespace Go.Proofs.YtajilboimjcfjaaDoor
open Go.RowKit Go.My Go.Shelf

attribute [local go_sem] Oper.semAt_some

/-- what is wrong with a path -/
def checkE (l : List UInt8) : Int := if 120 < l.length then 38 else if (partsL l).all partB then 0 else 38

theorem partsL_len (l : List UInt8) : ∀ p ∈ partsL l, p.length ≤ l.length := by
  induction l with
  | nil => intro p hp; simp [partsL] at hp; subst hp; simp
  | cons c l ih =>
    intro p hp
    rw [partsL] at hp
    split at hp
    · rcases List.mem_cons.1 hp with rfl | hp
      · simp
      · have := ih p hp; rw [List.length_cons]; omega
    · split at hp
      · simp at hp; subst hp; simp
      · rename_i q ps hq
        rw [hq] at ih
        rcases List.mem_cons.1 hp with rfl | hp
        · have := ih q (List.mem_cons_self ..); rw [List.length_cons, List.length_cons]; omega
        · have := ih p (List.mem_cons_of_mem _ hp); rw [List.length_cons]; omega
theorem parts_get (l : List UInt8) (k : Nat) (h : k < (partsL l).length) : ((partsL l).getD k []) ∈ partsL l ∧ ((partsL l).getD k []).length ≤ l.length := by
  have : (partsL l).getD k [] ∈ partsL l := by
    rw [List.getD_eq_getElem?_getD, List.getElem?_eq_getElem h]; exact List.getElem_mem _
  exact ⟨this, partsL_len l _ this⟩
theorem all_take_step {α : Type} (ls : List α) (d : α) (f : α → Bool) (k : Nat) (h : k < ls.length) : (ls.take (k + 1)).all f = ((ls.take k).all f && f (ls.getD k d)) := by
  rw [List.take_add_one, List.all_append, List.getElem?_eq_getElem h]
  simp [List.getD_eq_getElem?_getD, List.getElem?_eq_getElem h]
theorem all_false_of {α : Type} (ls : List α) (f : α → Bool) (x : α) (hx : x ∈ ls) (h : f x = false) : ls.all f = false := by
  rw [List.all_eq_false]
  exact ⟨x, hx, by rw [h]; decide⟩

def OkTo (l : List UInt8) (k : Nat) : Prop := ((partsL l).take k).all partB = true
def BadP (l : List UInt8) : Prop := (partsL l).all partB = false

set_option maxRecDepth 100000 in
set_option maxHeartbeats 4000000 in
theorem check_any (l : List UInt8) (w : World) (hl : l.length ≤ 1099511627776) :
    Calls Tryd.prog 13 #[.string (strB l)] w fun e w' => e = .returned (.int .i64 (checkE l)) ∧ Ext No w w' := by
  have hz := strB_size l
  obtain ⟨n, hn⟩ : ∃ n, n = l.length := ⟨_, rfl⟩
  rw [← hn] at hz
  have HN := Lib.hid hn; have HL := Lib.hid hl
  clear hn hl
  have hx0 : Ext No w (w.alloc (.cells #[.int .i64 0] 23)) := (Ext.refl No w).alloc _
  have hb0 := Blk.new w #[.int .i64 0] 23
  have HX0 := Lib.hid hx0; have HB0 := Lib.hid hb0
  clear hx0 hb0
  refine (callsIn_wide (n := 0)).1 ?_
  refine callsIn_of_wp_marks Tryd.func13 rfl trivial ?_ rfl
  simp only [Tryd.ntmps13, List.size_toArray, List.length_cons, List.length_nil, Nat.reduceAdd, Nat.reduceSub, Array.replicate_succ, Array.replicate_zero, List.push_toArray, List.append_toArray, List.nil_append, List.cons_append]
  by_cases h120 : 120 < n
  · have h120i : (120 : Int) < n := by omega
    have hr : (w.alloc (.cells #[.int .i64 38] 23)).cell? ⟨w.heap.size, 0, none⟩ = some (.int .i64 38) := (Blk.new w #[.int .i64 38] 23).cell 0
    have hck : checkE l = 38 := by unfold checkE; rw [if_pos (by rw [← HN.out]; exact h120)]
    rw [hck]
    gi_wp2_with fail
    exact ⟨.int .i64 38, by simp [results, Tryd.func13, Tryd.f13, go_sem, hr], rfl, (Ext.refl No w).alloc _⟩
  · have h120i : decide ((120 : Int) < n) = false := by simp; omega
    gi_wp2_with fail
    refine ⟨trivial, rfl, (callsIn_wide.2 (parts_any l _)).mono ?_⟩
    rintro e w1 ⟨hE, bp, bs, bv, rfl, hp, hs, hv, hn1, hb1, hb2, hb3⟩
    dsimp only
    gi_wp2_with fail
    have hck : checkE l = if (partsL l).all partB then 0 else 38 := by unfold checkE; rw [if_neg (by rw [← HN.out]; exact h120)]
    have hszw := hE.size
    rw [World.size_alloc] at hszw hb1 hb2 hb3
    have hrb := HB0.out.ext hE (fun s => s)
    have hX1 := HX0.out.trans' hE
    have hlt := hs.lt; have hltp := hp.lt; have hltv := hv.lt
    have hseq := split1_seq l bp bs bv w1 hp hs hv HL.out hn1 (fun _ j => j = w.heap.size ∨ j = w1.heap.size ∨ j = w1.heap.size + 1) (fun W => by
      refine ⟨?_, ?_, ?_⟩ <;> omega)
    obtain ⟨rb, hrbe⟩ : ∃ rb, w.heap.size = rb := ⟨_, rfl⟩
    rw [hrbe] at hrb hseq hszw hb1 hb2 hb3 ⊢
    have HSEQ := Lib.hid hseq; have HRB := Lib.hid hrb; have HX1 := Lib.hid hX1; have HLT := Lib.hid (And.intro hrbe (And.intro hszw (And.intro hb1 hlt))); have HCK := Lib.hid hck
    clear hseq hrb hX1 hszw hb1 hb2 hb3 hlt hltp hltv hck hp hs hv hE hn1 hrbe HX0 HB0
    refine wpIn_rangeW (gf := 54) (lb := #[.pointer (some ⟨bp, 0, none⟩), .pointer (some ⟨bs, 0, none⟩), .pointer (some ⟨bv, 0, none⟩)]) rfl (enters_of Tryd.func54 (by kernel_rfl) rfl)
      (fun _ j => j = rb) (fun j => j = bs) (N := (partsL l).length) HSEQ.out ?hUp ?hFin ?hps ?hA ?hU0 ?hU1 ?hS0 ?hS1
      (fun k W => Ext (fun j => j = bs) w1 W ∧ Blk W rb #[.int .i64 0] 23 ∧ OkTo l k) (fun c k W => c = .ret ∧ Ext (fun j => j = bs ∨ j = rb) w1 W ∧ Blk W rb #[.int .i64 38] 23 ∧ BadP l) ?hI ?hIx ⟨Ext.refl _ _, HRB.out, rfl⟩
      (fun args => { tmps := #[.string (strB l), undef, .pointer (some ⟨rb, 0, none⟩), args.getD 0 undef, .string (strB l), .int .i64 n, .bool false, .string (strB l), .func (.func 54) #[] #[.pointer (some ⟨bp, 0, none⟩), .pointer (some ⟨bs, 0, none⟩), .pointer (some ⟨bv, 0, none⟩)], args.getD 0 undef, undef, undef, undef], defers := [] })
      ?assign ?body ?done ?stop
    case hUp => intro W o r k _ h; exact .inl h
    case hFin => intro A B _ _; trivial
    case hps => rintro k args W h; unfold HandedP at h; subst h; rfl
    case hA => rintro k args W r o h hl; exact h
    case hU0 => obtain ⟨h0, h1, h2, h3⟩ := HLT.out; intro W h; omega
    case hU1 => obtain ⟨h0, h1, h2, h3⟩ := HLT.out; intro W h; omega
    case hS0 => obtain ⟨h0, h1, h2, h3⟩ := HLT.out; intro h; omega
    case hS1 => obtain ⟨h0, h1, h2, h3⟩ := HLT.out; intro h; omega
    case hI =>
      obtain ⟨h0, h1, h2, h3⟩ := HLT.out
      rintro k A B ⟨hx, hb, ha⟩ hE
      exact ⟨hx.trans hE (fun _ _ s => s) (fun j hj s => s.elim id (fun s => by omega)), hb.extN hE (fun s => by omega), ha⟩
    case hIx =>
      obtain ⟨h0, h1, h2, h3⟩ := HLT.out
      rintro c k A B ⟨hc, hx, hb, ha⟩ hE
      exact ⟨hc, hx.trans hE (fun _ _ s => s) (fun j hj s => s.elim .inl (fun s => by omega)), hb.extN hE (fun s => by omega), ha⟩
    case assign =>
      rintro y k args W K h hK
      unfold HandedP at h
      subst h
      gi_wp2_with fail
      exact hK
    case body =>
      rintro y k args W hkN ⟨hx, hb, ha⟩ h hsz
      unfold HandedP at h
      subst h
      obtain ⟨h0, h1, h2, h3⟩ := HLT.out
      have hm := parts_get l k hkN
      have hstep := all_take_step (partsL l) [] partB k hkN
      unfold OkTo at ha
      rw [ha, Bool.true_and] at hstep
      have hno := all_false_of (partsL l) partB _ hm.1
      generalize (partsL l).getD k [] = s at *
      have HS := Lib.hid hstep; have HNO := Lib.hid hno; have HX := Lib.hid hx; have HB := Lib.hid hb; have HM := Lib.hid hm
      have hcb := hb.cell 0; have hfb := hb.free 0
      simp only [List.getElem?_toArray, List.getElem?_cons_zero] at hcb
      clear hx hb ha hm hstep hno h0 h1 h2 h3
      gi_wp2_with fail
      refine ⟨trivial, rfl, (CallsIn.inRound _ (callsIn_wide.2 (part_any s W (by have := HM.out.2; have := HL.out; omega)))).mono ?_⟩
      rintro e w2 ⟨rfl, hd⟩
      have hcb2 := hcb; rw [← hd.cell] at hcb2
      have hfb2 := hfb; rw [← hd.frozen] at hfb2
      have HD := Lib.hid hd
      generalize partB s = t at *
      clear hcb hfb hd
      dsimp only
      cases t
      · gi_wp2_with fail
        have hE : Ext (fun j => j = rb) W (w2.setCell ⟨rb, 0, none⟩ (.int .i64 38)) := (HD.out.ext _).setCell _ _ (fun _ => rfl)
        exact ⟨hE, rfl, HX.out.trans hE (fun _ _ s => .inl s) (fun _ _ s => .inr s), (HB.out.ext (HD.out.ext No) (fun s => s)).set 0 (.int .i64 38), HNO.out trivial⟩
      · gi_wp2_with fail
        exact ⟨HD.out.ext _, HX.out.trans (HD.out.ext No) (fun _ _ s => s) (fun _ _ s => s.elim), HB.out.ext (HD.out.ext No) (fun s => s), HS.out⟩
    case done =>
      rintro W ⟨hx, hb, ha⟩ _ hK
      unfold OkTo at ha
      rw [List.take_length] at ha
      have hcb := hb.cell 0; have hfb := hb.free 0
      simp only [List.getElem?_toArray, List.getElem?_cons_zero] at hcb
      have HX := Lib.hid hx; have HB := Lib.hid hb; have HA := Lib.hid ha; have HK := Lib.hid hK
      clear hx hb ha hK
      gi_wp2_with fail
      obtain ⟨h0, h1, h2, h3⟩ := HLT.out
      have hs : Ext (fun j => j = rb) W (W.setCell ⟨rb, 0, none⟩ (.int .i64 0)) := (Ext.refl _ W).setCell _ _ (fun _ => rfl)
      have hE : Ext (fun j => j = bs ∨ j = rb) w1 (W.setCell ⟨rb, 0, none⟩ (.int .i64 0)) := HX.out.trans hs (fun _ _ s => .inl s) (fun _ _ s => .inr s)
      have hb4 := HB.out.set 0 (.int .i64 0)
      have hK1 := (hs.block w1.heap.size (Array.getElem?_eq_some_iff.1 HK.out).1 (by omega)).trans HK.out
      generalize W.setCell ⟨rb, 0, none⟩ (.int .i64 0) = W4 at *
      refine ⟨by simp, .inl ⟨_, _, rfl, run_takeDeferred hK1, ?_⟩⟩
      have hxp : Ext (fun j => No j ∨ (j = w1.heap.size ∧ NC W4 j)) W4 (W4.putObj w1.heap.size (.deferred none)) := Ext.putObjN _ _ _ (NC.defs hK1)
      have hr := (hb4.extN hxp (fun h => h)).cell 0
      simp at hr
      have hE2 : Ext No w (W4.putObj w1.heap.size (.deferred none)) := (HX1.out.trans hE (fun _ _ s => s) (fun j hj s => by omega)).trans hxp (fun _ _ s => s) (fun j hj s => s.elim id (fun s => by have := HX1.out.size; omega))
      rw [HCK.out, HA.out]
      exact ⟨.int .i64 0, by simp [results, Tryd.func13, Tryd.f13, go_sem, hr], rfl, hE2⟩
    case stop =>
      rintro c k W4 hk ⟨rfl, hE, hb4, hbad⟩ _ hK1
      have HB4 := Lib.hid hb4; have HE := Lib.hid hE; have HK := Lib.hid hK1; have HBAD := Lib.hid hbad
      clear hb4 hE hK1 hbad
      gi_wp2_with fail
      refine ⟨by simp, .inl ⟨_, _, rfl, run_takeDeferred HK.out, ?_⟩⟩
      obtain ⟨h0, h1, h2, h3⟩ := HLT.out
      have hE := HE.out; have hb4 := HB4.out; have hK1 := HK.out
      have hxp : Ext (fun j => No j ∨ (j = w1.heap.size ∧ NC W4 j)) W4 (W4.putObj w1.heap.size (.deferred none)) := Ext.putObjN _ _ _ (NC.defs hK1)
      have hr := (hb4.extN hxp (fun h => h)).cell 0
      simp at hr
      have hE2 : Ext No w (W4.putObj w1.heap.size (.deferred none)) := (HX1.out.trans hE (fun _ _ s => s) (fun j hj s => by omega)).trans hxp (fun _ _ s => s) (fun j hj s => s.elim id (fun s => by have := HX1.out.size; omega))
      have hbad := HBAD.out
      unfold BadP at hbad
      rw [HCK.out, hbad]
      exact ⟨.int .i64 38, by simp [results, Tryd.func13, Tryd.f13, go_sem, hr], rfl, hE2⟩

end Go.Proofs.YtajilboimjcfjaaDoor
end

section
/- The contracts of slices.AppendSeq and slices.Collect over a path's parts. -/
namespace Go.Proofs.YtajilboimjcfjaaDoor
open Go.RowKit Go.My Go.Shelf

attribute [local go_sem] Oper.semAt_some

theorem partsL_count (l : List UInt8) : (partsL l).length ≤ l.length + 1 := by
  induction l with
  | nil => simp [partsL]
  | cons c l ih =>
    rw [partsL]
    split
    · rw [List.length_cons, List.length_cons]; omega
    · split
      · rw [List.length_cons]; simp
      · rename_i q ps hq
        rw [hq] at ih
        rw [List.length_cons] at ih ⊢; rw [List.length_cons]; omega
theorem strVs_take (ls : List (List UInt8)) (k : Nat) (h : k < ls.length) : strVs (ls.take (k + 1)) = strVs (ls.take k) ++ [.string (strB (ls.getD k []))] := by
  unfold strVs
  rw [List.take_add_one, List.map_append, List.getElem?_eq_getElem h]
  simp [List.getD_eq_getElem?_getD, List.getElem?_eq_getElem h]

theorem own_blkS {w : World} {B n j : Nat} {e : TypeId} {v : Value} {xs : List Value} (h : w.ownsRow B e 1 v n xs) (hj : v.ownBlock = some j) : ∃ cs, Blk w j cs e := by
  rcases h.2 with ⟨rfl, _⟩ | ⟨g, cap, cur, rfl, -, hg, -⟩
  · cases hj
  · have : g = j := Option.some.inj hj
    subst this; exact ⟨cur, hg⟩
/-- which blocks a round may turn -/
def UC (b2 D : Nat) (W : World) (j : Nat) : Prop := j = b2 ∨ (D + 2 ≤ j ∧ ∃ cs, Blk W j cs 9)
/-- what has been gathered -/
structure GathS (w W : World) (b2 bs D : Nat) (l : List UInt8) (k : Nat) : Prop where
  own : ∃ a c, Blk W b2 #[.slice a k c] 30 ∧ W.ownsRow w.heap.size 9 1 (.slice a k c) k (strVs ((partsL l).take k)) ∧ ∀ j, (Value.slice a k c).ownBlock = some j → D + 2 ≤ j
  ext : Ext (fun j => j = bs) w W
theorem GathS.turn {w A B : World} {b2 bs D D' : Nat} {l : List UInt8} {k : Nat} (h : GathS w A b2 bs D l k) (hx : Ext (fun j => j = bs ∨ (j = D' ∧ NC A j)) A B) (hD : w.heap.size ≤ D') (h1 : b2 ≠ bs) (h2 : bs < w.heap.size) : GathS w B b2 bs D l k := by
  obtain ⟨⟨a, c, hb, ho, hj⟩, he⟩ := h
  exact ⟨⟨a, c, hb.extN (S := fun j => j = bs) hx h1, own_extN (S := fun j => j = bs) ho hx (fun k hk s => by have := (World.ownsRow.lt ho k hk).1; omega), hj⟩, he.trans hx (fun _ _ s => s) (fun j hj s => s.elim id (fun s => by omega))⟩

set_option maxRecDepth 100000 in
set_option maxHeartbeats 8000000 in
theorem appendSeq_any (l : List UInt8) (bp bs bv : Nat) (w : World) (hp : Blk w bp #[.string ⟨#[47]⟩] 9) (hs : Blk w bs #[.string (strB l)] 9) (hv : Blk w bv #[.int .i64 0] 3) (hl : l.length ≤ 1099511627776) (hn1 : bs ≠ bp) :
    Calls Tryd.prog 38 #[.slice none 0 0, .func (.func 54) #[] #[.pointer (some ⟨bp, 0, none⟩), .pointer (some ⟨bs, 0, none⟩), .pointer (some ⟨bv, 0, none⟩)]] w fun e w' =>
      ∃ v, e = .returned v ∧ w'.ownsRow w.heap.size 9 1 v (partsL l).length (strVs (partsL l)) ∧ Ext (fun j => j = bs) w w' := by
  obtain ⟨w1, hw1⟩ : ∃ w1, w.alloc (.cells #[.slice none 0 0] 30) = w1 := ⟨_, rfl⟩
  have hx0 : Ext No w w1 := by rw [← hw1]; exact (Ext.refl No w).alloc _
  have hb2 : Blk w1 w.heap.size #[.slice none 0 0] 30 := by rw [← hw1]; exact Blk.new w _ _
  have hsz : w1.heap.size = w.heap.size + 1 := by rw [← hw1]; exact World.size_alloc _ _
  have lp := hp.lt; have ls := hs.lt; have lv := hv.lt
  have hseq := split1_seq l bp bs bv w1 (hp.ext hx0 (fun s => s)) (hs.ext hx0 (fun s => s)) (hv.ext hx0 (fun s => s)) hl hn1 (fun W j => UC w.heap.size w1.heap.size W j ∨ j = w1.heap.size ∨ j = w1.heap.size + 1) (fun W => by
    refine ⟨?_, ?_, ?_⟩ <;> (rintro ((h | ⟨h, -⟩) | h) <;> omega))
  have hg0 : GathS w w1 w.heap.size bs w1.heap.size l 0 := ⟨⟨none, 0, hb2, World.ownsRow_nil _ _ _ _, fun j hj => by cases hj⟩, hx0.mono (fun _ _ s => s.elim)⟩
  have HW1 := Lib.hid hw1; have HSEQ := Lib.hid hseq; have HG0 := Lib.hid hg0; have HL := Lib.hid hl
  have HLT := Lib.hid (And.intro hsz (And.intro ls (Nat.le_refl w.heap.size)))
  clear hw1 hseq hg0 hl hsz lp ls lv hx0 hb2 hp hs hv hn1
  refine (callsIn_wide (n := 0)).1 ?_
  refine callsIn_of_wp_marks Tryd.func38 rfl trivial ?_ rfl
  simp only [Tryd.ntmps38, List.size_toArray, List.length_cons, List.length_nil, Nat.reduceAdd, Nat.reduceSub, Array.replicate_succ, Array.replicate_zero, List.push_toArray, List.append_toArray, List.nil_append, List.cons_append]
  gi_wp2_with fail
  rw [HW1.out]
  clear HW1
  obtain ⟨b2, hb2e⟩ : ∃ b2, w.heap.size = b2 := ⟨_, rfl⟩
  rw [hb2e] at HG0 HSEQ
  have HB2E := Lib.hid hb2e
  rw [hb2e]
  clear hb2e
  refine wpIn_rangeW (gf := 54) (lb := #[.pointer (some ⟨bp, 0, none⟩), .pointer (some ⟨bs, 0, none⟩), .pointer (some ⟨bv, 0, none⟩)]) rfl (enters_of Tryd.func54 (by kernel_rfl) rfl)
    (UC b2 w1.heap.size) (fun j => j = bs) (N := (partsL l).length) HSEQ.out ?hUp ?hFin ?hps ?hA ?hU0 ?hU1 ?hS0 ?hS1
    (fun k W => GathS w W b2 bs w1.heap.size l k) (fun _ _ _ => False) ?hI ?hIx HG0.out
    (fun args => { tmps := #[.slice none 0 0, .func (.func 54) #[] #[.pointer (some ⟨bp, 0, none⟩), .pointer (some ⟨bs, 0, none⟩), .pointer (some ⟨bv, 0, none⟩)], .pointer (some ⟨b2, 0, none⟩), undef, .slice none 0 0, args.getD 0 undef, .func (.func 54) #[] #[.pointer (some ⟨bp, 0, none⟩), .pointer (some ⟨bs, 0, none⟩), .pointer (some ⟨bv, 0, none⟩)], args.getD 0 undef, undef, undef, undef, undef, undef], defers := [] })
    ?assign ?body ?done ?stop
  case hUp =>
    intro W o r k hr hU
    rcases hU with hU | ⟨hk, cs, hb⟩
    · exact .inl (.inl hU)
    · refine .inl (.inr ⟨hk, cs, ?_⟩)
      unfold Blk at hb ⊢
      rw [World.putObj_heap_other (by omega)] at hb; exact hb
  case hFin => intro A B _ _; trivial
  case hps => rintro k args W h; unfold HandedP at h; subst h; rfl
  case hA => rintro k args W r o h hl; exact h
  case hU0 => obtain ⟨h0, h1, h2⟩ := HLT.out; have := HB2E.out; rintro W (h | ⟨h, -⟩) <;> omega
  case hU1 => obtain ⟨h0, h1, h2⟩ := HLT.out; have := HB2E.out; rintro W (h | ⟨h, -⟩) <;> omega
  case hS0 => obtain ⟨h0, h1, h2⟩ := HLT.out; intro h; omega
  case hS1 => obtain ⟨h0, h1, h2⟩ := HLT.out; intro h; omega
  case hI =>
    obtain ⟨h0, h1, h2⟩ := HLT.out
    have := HB2E.out
    intro k A B h hE
    exact h.turn hE (by omega) (by omega) h1
  case hIx => intro c k A B h hE; exact h
  case assign =>
    rintro y k args W K h hK
    unfold HandedP at h
    subst h
    gi_wp2_with fail
    exact hK
  case body =>
    rintro y k args W hkN hg h hsz
    unfold HandedP at h
    subst h
    obtain ⟨h0, h1, h2⟩ := HLT.out
    have h3 := HB2E.out
    have hst := strVs_take (partsL l) k hkN
    have hcn := partsL_count l
    have hll := HL.out
    generalize (partsL l).getD k [] = s at *
    obtain ⟨⟨a, c, hb, ho, hj⟩, he⟩ := hg
    have hx9 : Ext No W (W.alloc (.cells #[.string (strB s)] 9)) := (Ext.refl No W).alloc _
    have HO := Lib.hid (ho.alloc (.cells #[.string (strB s)] 9)); have HB := Lib.hid (hb.alloc (.cells #[.string (strB s)] 9))
    have HN := Lib.hid (own_ne_type HO.out HB.out (by decide))
    have HNM := Lib.hid (show k + 1 ≤ 9223372036854775807 ∧ (k + 1) * 16 ≤ 140737488355328 by omega)
    have HZ := Lib.hid (show w.heap.size ≤ (W.alloc (.cells #[.string (strB s)] 9)).heap.size by rw [World.size_alloc]; omega)
    have HST := Lib.hid hst; have HE := Lib.hid he; have HJ := Lib.hid hj; have HSZ := Lib.hid hsz; have HOW := Lib.hid ho
    have hcb := hb.cell 0; have hfb := hb.free 0
    simp only [List.getElem?_toArray, List.getElem?_cons_zero] at hcb
    have hmxo : Tryd.prog.follows .mixedOrders = true := by kernel_rfl
    clear hst hcn hll hb ho hj he hx9 h0 h1 h2 h3 hsz
    gi_wp2_with (gi_at_builtin; refine wpListIn_app1 _ _ rfl _ _ 30 rfl w.heap.size 9 _ _ str_info Tryd.underlying30 rfl _ _ _ rfl HO.out _ rfl (cell_new _ _ _ rfl) rfl HNM.out.1 HNM.out.2 HZ.out ?_; intro v' w2 hown hgrow hat; obtain ⟨a6, c6, rfl⟩ := own_form hown; have hd6 := (HB.out.grown hgrow HN.out).cell 0; have hg6 := (HB.out.grown hgrow HN.out).free 0; simp only [List.getElem?_toArray, List.getElem?_cons_zero] at hd6)
    have hU : Ext (UC b2 w1.heap.size W) W (w2.setCell ⟨b2, 0, none⟩ (.slice a6 (k + 1) c6)) := (((Ext.refl _ W).alloc _).grown hgrow (fun j hj _ => .inr ⟨HJ.out j hj, own_blkS HOW.out hj⟩)).setCell _ _ (fun _ => .inl rfl)
    have hS : Ext (fun j => j = b2) w2 (w2.setCell ⟨b2, 0, none⟩ (.slice a6 (k + 1) c6)) := (Ext.refl _ w2).setCell _ _ (fun _ => rfl)
    have hb6 := HB.out.grown hgrow HN.out
    have hne := own_ne_type hown hb6 (by decide)
    obtain ⟨h0, h1, h2⟩ := HLT.out
    have h3 := HB2E.out
    have hz := HSZ.out
    refine ⟨hU, ⟨a6, c6, hb6.set 0 (.slice a6 (k + 1) c6), ?_, fun j hj => ?_⟩, HE.out.trans hU (fun _ _ s => s) (fun j hj s => ?_)⟩
    · rw [HST.out]; exact own_ext hown hS (fun j hj s => hne (by rw [hj, s]))
    · rcases hat with h | h
      · exact HJ.out j (h ▸ hj)
      · rw [h] at hj
        have := Option.some.inj hj
        rw [World.size_alloc] at this; omega
    · rcases s with s | ⟨s, -⟩ <;> omega
  case done =>
    rintro W ⟨⟨a, c, hb, ho, hj⟩, he⟩ _ hK
    rw [List.take_length] at ho
    have hcb := hb.cell 0
    simp only [List.getElem?_toArray, List.getElem?_cons_zero] at hcb
    have HO := Lib.hid ho; have HE := Lib.hid he; have HK := Lib.hid hK
    clear hb ho hj he hK
    gi_wp2_with fail
    obtain ⟨h0, h1, h2⟩ := HLT.out
    refine ⟨by simp, .inl ⟨_, _, rfl, run_takeDeferred HK.out, ?_⟩⟩
    have hxp : Ext (fun j => No j ∨ (j = w1.heap.size ∧ NC W j)) W (W.putObj w1.heap.size (.deferred none)) := Ext.putObjN _ _ _ (NC.defs HK.out)
    exact ⟨.slice a (partsL l).length c, by simp [results, Tryd.func38, Tryd.f38, go_sem], _, rfl, own_extN (S := No) HO.out hxp (fun _ _ s => s), HE.out.trans hxp (fun _ _ s => s) (fun j hj s => s.elim False.elim (fun s => by omega))⟩
  case stop => intro c k W hk h; exact h.elim

set_option maxRecDepth 100000 in
theorem collect_any (l : List UInt8) (bp bs bv : Nat) (w : World) (hp : Blk w bp #[.string ⟨#[47]⟩] 9) (hs : Blk w bs #[.string (strB l)] 9) (hv : Blk w bv #[.int .i64 0] 3) (hl : l.length ≤ 1099511627776) (hn1 : bs ≠ bp) :
    Calls Tryd.prog 26 #[.func (.func 54) #[] #[.pointer (some ⟨bp, 0, none⟩), .pointer (some ⟨bs, 0, none⟩), .pointer (some ⟨bv, 0, none⟩)]] w fun e w' =>
      ∃ v, e = .returned v ∧ w'.ownsRow w.heap.size 9 1 v (partsL l).length (strVs (partsL l)) ∧ Ext (fun j => j = bs) w w' := by
  have H := Lib.hid (appendSeq_any l bp bs bv w hp hs hv hl hn1)
  clear hp hs hv
  go_enter Tryd.func26, Tryd.ntmps26
  go_wp2_with fail
  refine H.out.mono ?_
  rintro e w' ⟨v, rfl, ho, hE⟩
  have HO := Lib.hid ho; have HE := Lib.hid hE
  clear ho hE
  dsimp only
  go_wp2_with fail
  go_ret
  exact ⟨_, rfl, HO.out, HE.out⟩

end Go.Proofs.YtajilboimjcfjaaDoor
end
