/-
  JOINED (3): the contracts of the package script: Decode, Reply, Parse.
-/
import Derived.Test.YtchejnnfbinclaaZB
set_option linter.unusedVariables false
set_option linter.unusedSimpArgs false

section
/- The contract of script.get. -/
namespace Go.Proofs.Ytchejnnfbinclaa
open Go.RowKit Go.My

theorem file_info : (Try.prog.info? 76).map (fun i => (i.zero, i.size, i.bytes)) = some (some (.agg #[.string ⟨#[]⟩, .slice none 0 0]), 2, 40) := by kernel_rfl

/-- n files, read -/
def filesP (most : Nat) : Nat → List UInt8 → Option (List FileL × List UInt8)
  | 0, l => some ([], l)
  | n + 1, l => match bytesP 120 l with
    | none => none
    | some (p, r) => match bytesP most r with
      | none => none
      | some (d, q) => (filesP most n q).map fun z => ((p, d) :: z.1, z.2)
theorem filesP_zero (most : Nat) (l : List UInt8) : filesP most 0 l = some ([], l) := rfl
theorem filesP_succ (most n : Nat) (l : List UInt8) : filesP most (n + 1) l = match bytesP 120 l with
    | none => none
    | some (p, r) => match bytesP most r with
      | none => none
      | some (d, q) => (filesP most n q).map fun z => ((p, d) :: z.1, z.2) := rfl
def getP (most : Nat) (l : List UInt8) : Option (List FileL × List UInt8) :=
  match numP 4 l with
  | none => none
  | some (n, r) => match filesP most n r with
    | none => none
    | some (fs, q) => if fs.length ≤ 512 then some (fs, q) else none

def FileE (B : Nat) (w : World) (f : FileL) (us : List Value) : Prop := ∃ x, us = [.string (strB f.1), x] ∧ NewB w B f.2 x
/-- a row of files that is new -/
def NewF2 (w : World) (B0 B : Nat) (fs : List FileL) (v : Value) : Prop := OwnSeq w B0 76 2 (FileE B) fs v
def NewF (w : World) (B : Nat) (fs : List FileL) (v : Value) : Prop := OwnSeq w B 76 2 (FileE B) fs v
theorem NewF2.le {w : World} {B0 B : Nat} {fs : List FileL} {v : Value} (h : NewF2 w B0 B fs v) (hb : B ≤ B0) : NewF w B fs v := by
  obtain ⟨us, h1, h2⟩ := h
  exact ⟨us, own_le h1 hb, h2⟩
theorem FileE.ext {w w' : World} {B : Nat} {f : FileL} {us : List Value} {S : Nat → Prop} (h : FileE B w f us) (x : Ext S w w') (hs : ∀ j cs, B ≤ j → Blk w j cs 5 → ¬ S j) : FileE B w' f us := by
  obtain ⟨y, h1, h2⟩ := h
  exact ⟨y, h1, h2.ext x hs⟩
theorem NewF.ext {w w' : World} {B : Nat} {fs : List FileL} {v : Value} {S : Nat → Prop} (h : NewF w B fs v) (x : Ext S w w') (hs : ∀ j cs T, B ≤ j → Blk w j cs T → T = 5 ∨ T = 76 → ¬ S j) : NewF w' B fs v :=
  OwnSeq.ext h x (fun k hk => by obtain ⟨cs, hb⟩ := OwnSeq.blk h hk; exact hs k cs _ (OwnSeq.lt h k hk).1 hb (.inr rfl)) (fun a us ha => ha.ext x (fun j cs hj hb => hs j cs _ hj hb (.inl rfl)))
theorem NewF2.ext {w w' : World} {B0 B : Nat} {fs : List FileL} {v : Value} {S : Nat → Prop} (h : NewF2 w B0 B fs v) (x : Ext S w w') (hs : ∀ j cs T, Blk w j cs T → T = 5 ∨ T = 76 → ¬ S j) : NewF2 w' B0 B fs v :=
  OwnSeq.ext h x (fun k hk => by obtain ⟨cs, hb⟩ := OwnSeq.blk h hk; exact hs k cs _ hb (.inr rfl)) (fun a us ha => ha.ext x (fun j cs hj hb => hs j cs _ hb (.inl rfl)))
theorem NewF.files {w : World} {B : Nat} {fs : List FileL} {v : Value} (h : NewF w B fs v) : IsFiles w fs v := by
  obtain ⟨a, c, rfl⟩ := OwnSeq.len h
  have hc : fs.length ≤ c ∧ c ≤ 9223372036854775807 := by
    obtain ⟨us, h1, -⟩ := h
    rcases h1.2 with ⟨he, h0⟩ | ⟨g, cap, cur, he, -, -, h2, h3, -⟩
    · simp only [Value.slice.injEq] at he; omega
    · simp only [Value.slice.injEq] at he; unfold maxLen at h3; omega
  refine ⟨a, c, rfl, hc.1, hc.2, fun i hi => ?_⟩
  obtain ⟨b, us, rfl, ⟨x, rfl, hx1, -, hx3⟩, hcs⟩ := OwnSeq.get h i _ (List.getElem?_eq_getElem hi)
  have e : fs.getD i ([], []) = fs[i] := by simp [List.getD_eq_getElem?_getD, List.getElem?_eq_getElem hi]
  rw [e]
  exact ⟨b, 0, x, rfl, by rw [Nat.zero_add]; exact (hcs 0 (by decide)).symm, by rw [Nat.zero_add]; exact (hcs 1 (by decide)).symm, hx1, hx3⟩

def GetTold (most rb B : Nat) (l : List UInt8) (v : Value) (e : Ending) (w' : World) : Prop :=
  (∃ fs r v' x, getP most l = some (fs, r) ∧ e = .returned x ∧ RdS w' rb r v' ∧ Inn v v' ∧ NewF w' B fs x) ∨ (getP most l = none ∧ ∃ n : Int, e = .panicked (thrown n) ∧ n ≠ 0)

/-- a reader whose row is new -/
def RdN (w : World) (rb B : Nat) (l : List UInt8) (v : Value) : Prop := RdS w rb l v ∧ ∀ j, v.ownBlock = some j → B ≤ j ∧ ∃ cs, Blk w j cs 5
theorem RdN.new {w : World} {rb B : Nat} {l : List UInt8} {v : Value} (h : RdN w rb B l v) {w' : World} (hx : Ext (fun j => j = rb) w w') {x : List UInt8} {y : Value} (hb : IsBytes w' x y) (hn : NilOk y) (hi : Inn v y) : NewB w' B x y :=
  ⟨hb, fun j hj => by
    obtain ⟨h1, cs, h2⟩ := h.2 j (hi j hj)
    exact ⟨h1, cs, h2.ext hx (fun s => by subst s; exact Blk.ne_type h2 h.1.box (by decide) rfl)⟩, hn⟩
theorem RdN.next {w : World} {rb B : Nat} {l : List UInt8} {v : Value} (h : RdN w rb B l v) {w' : World} (hx : Ext (fun j => j = rb) w w') {r : List UInt8} {v' : Value} (hr : RdS w' rb r v') (hi : Inn v v') : RdN w' rb B r v' :=
  ⟨hr, fun j hj => by
    obtain ⟨h1, cs, h2⟩ := h.2 j (hi j hj)
    exact ⟨h1, cs, h2.ext hx (fun s => by subst s; exact Blk.ne_type h2 h.1.box (by decide) rfl)⟩⟩
theorem RdN.ext {w : World} {rb B : Nat} {l : List UInt8} {v : Value} (h : RdN w rb B l v) {w' : World} {S : Nat → Prop} (hx : Ext S w w') (hs : ∀ j cs T, Blk w j cs T → T = 5 ∨ T = 119 → ¬ S j) : RdN w' rb B l v := by
  obtain ⟨h1, h2⟩ := h
  refine ⟨⟨h1.box.ext hx (hs _ _ _ h1.box (.inr rfl)), h1.row.ext hx (fun j hj => ?_), h1.apart⟩, fun j hj => ?_⟩
  · obtain ⟨-, cs, hb⟩ := h2 j hj; exact hs _ _ _ hb (.inl rfl)
  · obtain ⟨hB, cs, hb⟩ := h2 j hj; exact ⟨hB, cs, hb.ext hx (hs _ _ _ hb (.inl rfl))⟩
theorem RdN.len {w : World} {rb B : Nat} {l : List UInt8} {v : Value} (h : RdN w rb B l v) : l.length ≤ 9223372036854775807 := by
  obtain ⟨_, _, he, h1, h2, -⟩ := h.1.row; omega

theorem bytesP_len {most : Nat} {l x r : List UInt8} (h : bytesP most l = some (x, r)) : x.length + r.length + 4 = l.length := by
  obtain ⟨rfl, -, -⟩ := bytesP_some h
  rw [List.length_append, bytesB_length]; omega

set_option maxRecDepth 100000 in
set_option maxHeartbeats 4000000 in
theorem get_any (most : Nat) (hm : most ≤ 1099511627776) (rb B : Nat) (l : List UInt8) (v : Value) (w : World) (h : RdN w rb B l v) (hB : B ≤ w.heap.size) (hl : l.length ≤ 1099511627776) :
    Calls Try.prog 53 #[.pointer (some ⟨rb, 0, none⟩), .int .i64 most] w fun e w' => Ext (fun j => j = rb) w w' ∧ GetTold most rb B l v e w' := by
  have H := Lib.hid h; have HB := Lib.hid hB; have HL := Lib.hid hl
  clear h hB hl
  go_enter Try.func53, Try.ntmps53
  go_wp2_with fail
  by_cases h4 : 4 ≤ l.length
  case neg =>
    refine (rnum_no 4 (by decide) (by decide) rb l v w H.out.1 (by omega)).mono ?_
    rintro e w1 ⟨rfl, rfl⟩
    dsimp only
    go_wp2_with fail
    refine ⟨rfl, Ext.refl _ _, .inr ⟨?_, 20, rfl, by decide⟩⟩
    unfold getP numP; rw [if_neg h4]
  refine (rnum_ok 4 (by decide) (by decide) rb l v w H.out.1 h4).mono ?_
  rintro e w1 ⟨rfl, v1, hr1, hx1, hi1⟩
  have hgp : getP most l = match filesP most (getN (l.take 4)) (l.drop 4) with | none => none | some (fs, q) => if fs.length ≤ 512 then some (fs, q) else none := by
    unfold getP numP; rw [if_pos h4]
  have hnb : getN (l.take 4) ≤ 4294967295 := by
    have := getN_lt (l.take 4); rw [List.length_take, Nat.min_eq_left h4] at this; omega
  have hrl : (l.drop 4).length ≤ 1099511627776 := by have := HL.out; rw [List.length_drop]; omega
  generalize getN (l.take 4) = n at *
  generalize l.drop 4 = r0 at *
  have H1 := Lib.hid (H.out.next hx1 hr1 hi1); have HX1 := Lib.hid hx1; have HI1 := Lib.hid hi1; have HGP := Lib.hid hgp; have HRL := Lib.hid hrl
  clear hr1 hx1 hi1 hgp hrl h4
  dsimp only
  go_wp2_with fail
  go_loopw [6, 11] (fun out i wr => ∃ (k : Nat) (fs : List FileL) (rk : List UInt8) (vk : Value), i = .int .u64 k ∧ k ≤ n ∧ RdN wr rb B rk vk ∧ Inn v vk ∧ NewF2 wr w.heap.size B fs out ∧ fs.length = k ∧ 8 * k + rk.length ≤ r0.length ∧
    filesP most n r0 = (filesP most (n - k) rk).map (fun z => (fs ++ z.1, z.2)) ∧ Ext (fun j => j = rb) w wr) (fun _ i _ => n - (intOf i).toNat)
  case atStart =>
    refine ⟨0, [], r0, v1, rfl, by omega, H1.out, HI1.out, OwnSeq.nil _ _ _ _ _, rfl, by omega, ?_, HX1.out⟩
    rw [Nat.sub_zero]
    cases filesP most n r0 <;> rfl
  case round =>
    obtain ⟨k, fs, rk, vk, rfl, hk, hr, hi, hf, hfl, hlen, hpp, hx⟩ := hrel
    obtain ⟨af, cf, hff⟩ := OwnSeq.len hf
    rw [hfl] at hff
    subst hff
    have HR := Lib.hid hr; have HI := Lib.hid hi; have HF := Lib.hid hf; have HFL := Lib.hid hfl; have HLEN := Lib.hid hlen; have HPP := Lib.hid hpp; have HX := Lib.hid hx
    clear hr hi hf hfl hlen hpp hx
    by_cases hlt : k < n
    · obtain ⟨m, hm1⟩ : ∃ m, n - k = m + 1 := ⟨n - k - 1, by omega⟩
      have hpp := HPP.out
      rw [hm1, filesP_succ] at hpp
      cases hp : bytesP 120 rk with
      | none =>
        simp only [hp, Option.map_none] at hpp
        go_wp2_with fail
        refine (rtext_no 120 (by decide) rb rk vk wr HR.out.1 HR.out.len hp).mono ?_
        rintro e w2 ⟨n2, rfl, hn2, hx2⟩
        dsimp only
        go_wp2_with fail
        refine ⟨rfl, HX.out.trans' hx2, .inr ⟨?_, n2, rfl, hn2⟩⟩
        rw [HGP.out, hpp]
      | some pr =>
        obtain ⟨p, r⟩ := pr
        simp only [hp] at hpp
        have HPP2 := Lib.hid hpp; have HP := Lib.hid hp
        clear hpp
        go_wp2_with fail
        refine (rtext_ok 120 (by decide) rb rk p r vk wr HR.out.1 hp).mono ?_
        rintro e w2 ⟨rfl, v2, hr2, hx2, hi2⟩
        clear hp
        have H2 := Lib.hid (HR.out.next hx2 hr2 hi2); have HX2 := Lib.hid hx2; have HI2 := Lib.hid (HI.out.trans hi2)
        clear hr2 hx2 hi2
        dsimp only
        go_wp2_with fail
        obtain ⟨wa, hwa⟩ : ∃ wa, w2.alloc (.cells #[.string (strB p), .slice none 0 0] 76) = wa := ⟨_, rfl⟩
        have hbk := Blk.new w2 #[.string (strB p), .slice none 0 0] 76
        have hxa : Ext No w2 wa := by rw [← hwa]; exact (Ext.refl No w2).alloc _
        rw [hwa] at hbk
        rw [hwa]
        obtain ⟨fb, hfb⟩ : ∃ fb, w2.heap.size = fb := ⟨_, rfl⟩
        rw [hfb] at hbk
        rw [hfb]
        have hra := H2.out.ext hxa (fun _ _ _ _ _ s => s)
        have hne : fb ≠ rb := Blk.ne_type hbk hra.1.box (by decide)
        have HBK := Lib.hid hbk; have HXA := Lib.hid hxa; have HRA := Lib.hid hra; have HFB := Lib.hid hfb
        clear hbk hxa hra hfb hwa
        cases hd : bytesP most r with
        | none =>
          refine (rbytes_no most (by omega) rb r v2 wa HRA.out.1 HRA.out.len hd).mono ?_
          rintro e w3 ⟨n2, rfl, hn2, hx3⟩
          dsimp only
          go_wp2_with fail
          refine ⟨rfl, ((HX.out.trans' HX2.out).trans HXA.out (fun _ _ s => s) (fun _ _ s => s.elim)).trans' hx3, .inr ⟨?_, n2, rfl, hn2⟩⟩
          have hpp := HPP2.out
          rw [hd] at hpp
          rw [HGP.out, hpp]
          rfl
        | some dq =>
          obtain ⟨d, q⟩ := dq
          have HD := Lib.hid hd
          refine (rbytes_ok most (by omega) rb r d q v2 wa HRA.out.1 hd).mono ?_
          clear hd
          rintro e w3 ⟨ax, nx, rfl, hnx, hxb, v3, hr3, hx3, hiy, hi3⟩
          have hb3 := HBK.out.ext hx3 hne
          have hc3 := hb3.cell 0; have hc3' := hb3.cell 1; have hf3 := hb3.free 1
          simp only [List.getElem?_toArray, List.getElem?_cons_zero, List.getElem?_cons_succ] at hc3 hc3'
          have hnew := HRA.out.new hx3 hxb (nilok_nn hxb) hiy
          have hr3' := HRA.out.next hx3 hr3 hi3
          have HB3 := Lib.hid hb3; have HNEW := Lib.hid hnew; have HR3 := Lib.hid hr3'; have HX3 := Lib.hid hx3; have HI3 := Lib.hid (HI2.out.trans hi3)
          have hz2 : wr.heap.size ≤ fb := by have := HX2.out.size; have := HFB.out; omega
          have hxw3 : Ext (fun j => j = rb) wr w3 := (HX2.out.trans HXA.out (fun _ _ s => s) (fun _ _ s => s.elim)).trans' hx3
          have hf3 : NewF2 w3 w.heap.size B fs (.slice af k cf) := NewF2.ext HF.out hxw3 (fun j cs T hb hT s => by
            subst s
            rcases hT with rfl | rfl
            · exact Blk.ne_type hb HR.out.1.box (by decide) rfl
            · exact Blk.ne_type hb HR.out.1.box (by decide) rfl)
          obtain ⟨w5, hw5⟩ : ∃ w5, (w3.setCell ⟨fb, 1, none⟩ (.slice ax nx nx)).alloc (.cells #[.string (strB p), .slice ax nx nx] 76) = w5 := ⟨_, rfl⟩
          have hx45 : Ext (fun j => j = fb) w3 w5 := by rw [← hw5]; exact ((Ext.refl (fun j => j = fb) w3).setCell _ _ (fun _ => rfl)).alloc _
          have hbn := Blk.new (w3.setCell ⟨fb, 1, none⟩ (.slice ax nx nx)) #[.string (strB p), .slice ax nx nx] 76
          rw [hw5, show (w3.setCell ⟨fb, 1, none⟩ (.slice ax nx nx)).heap.size = w3.heap.size by simp] at hbn
          have hne5 : ∀ j cs T, Blk w3 j cs T → T = 5 ∨ T = 119 → ¬ j = fb := fun j cs T hb hT s => by
            subst s
            rcases hT with rfl | rfl
            · exact Blk.ne_type hb hb3 (by decide) rfl
            · exact Blk.ne_type hb hb3 (by decide) rfl
          have hr5 := hr3'.ext hx45 hne5
          have hnew5 := hnew.ext hx45 (fun j cs _ hb => hne5 j cs _ hb (.inl rfl))
          have hf5 : NewF2 w5 w.heap.size B fs (.slice af k cf) := by
            obtain ⟨us, o1, o2⟩ := hf3
            refine ⟨us, own_ext o1 hx45 (fun j hj s => ?_), fun i a ha => (o2 i a ha).ext hx45 (fun j cs _ hb => hne5 j cs _ hb (.inl rfl))⟩
            have := (OwnSeq.lt HF.out j hj).2
            omega
          obtain ⟨us, o1, o2⟩ := hf5
          rw [HFL.out] at o1
          have HO1 := Lib.hid o1; have HO2 := Lib.hid o2; have HBN := Lib.hid hbn; have HR5 := Lib.hid hr5; have HNEW5 := Lib.hid hnew5
          have HZ := Lib.hid (show w.heap.size ≤ w5.heap.size by have := HX.out.size; have := hxw3.size; have := hx45.size; omega)
          have HNUM := Lib.hid (show k + 1 ≤ 9223372036854775807 ∧ (k + 1) * 40 ≤ 140737488355328 by have := HLEN.out; have := HRL.out; omega)
          have HX5 := Lib.hid ((HX.out.trans' hxw3).trans hx45 (fun _ _ s => s) (fun j hj s => by subst s; have := HX.out.size; omega))
          have H1C := Lib.hid (show ∀ u ∈ [Value.string (strB p), Value.slice ax nx nx], u.oneCell' = true by intro u hu; simp at hu; rcases hu with rfl | rfl <;> rfl)
          subst hw5
          clear hb3 hnew hr3' hx3 hr3 hiy hi3 hxb hnx hxw3 hf3 hx45 hbn hne5 hr5 hnew5 o1 o2 hz2 HB3 HNEW HR3 HX3
          dsimp only
          go_wp2_with (at_builtin; refine wpList_appS _ [.string (strB p), .slice ax nx nx] 2 (by decide) rfl _ _ 23 rfl w.heap.size 76 _ _ file_info Try.underlying23 rfl _ _ us rfl HO1.out _ _ rfl HBN.out rfl H1C.out HNUM.out.1 HNUM.out.2 HZ.out ?_; intro v' w6 hown hg hat; obtain ⟨a6, c6, rfl⟩ := own_form hown)
          go_roundw
          case rel =>
            have hgx : Ext (fun j => (Value.slice af k cf).ownBlock = some j) (((w3.setCell ⟨fb, 1, none⟩ (.slice ax nx nx)).alloc (.cells #[.string (strB p), .slice ax nx nx] 76))) w6 := (Ext.refl _ _).grown hg (fun i hi _ => hi)
            have hneo : ∀ j cs T, Blk ((w3.setCell ⟨fb, 1, none⟩ (.slice ax nx nx)).alloc (.cells #[.string (strB p), .slice ax nx nx] 76)) j cs T → T = 5 ∨ T = 119 → ¬ (Value.slice af k cf).ownBlock = some j := fun j cs T hb hT s => by
              obtain ⟨cs', hb'⟩ := own_blkN HO1.out s
              rcases hT with rfl | rfl
              · exact Blk.ne_type hb hb' (by decide) rfl
              · exact Blk.ne_type hb hb' (by decide) rfl
            have hEE : ∀ (a : FileL) us, FileE B _ a us → FileE B w6 a us := fun a us ha => ha.ext hgx (fun j cs _ hb => hneo j cs _ hb (.inl rfl))
            refine ⟨k + 1, fs ++ [(p, d)], q, v3, by go_num, by omega, HR5.out.ext hgx hneo, HI3.out, ?_, by rw [List.length_append, HFL.out]; rfl, ?_, ?_, ?_⟩
            · exact OwnSeq.app (by rw [HFL.out]; exact HO1.out) HO2.out rfl ⟨_, rfl, HNEW5.out.ext hgx (fun j cs _ hb => hneo j cs _ hb (.inl rfl))⟩ hEE (by rw [HFL.out]; exact hown)
            · have h1 := bytesP_len HP.out; have h2 := bytesP_len HD.out; have := HLEN.out; omega
            · rw [HPP2.out, HD.out, show n - (k + 1) = m by omega]
              dsimp only
              cases filesP most m q <;> simp
            · exact HX5.out.trans hgx (fun _ _ s => s) (fun j hj s => by have := (OwnSeq.lt HF.out j s).1; omega)
          case measure => simp [intOf]; omega
    · have hkn : k = n := by omega
      subst hkn
      rw [Nat.sub_self] at HPP
      have hpp := HPP.out
      simp only [filesP_zero, Option.map_some, List.append_nil] at hpp
      have HPP2 := Lib.hid hpp
      clear hpp
      go_wp2_with fail
      by_cases h5 : k ≤ 512
      · refine (few_ok (k : Nat) wr (by omega)).mono ?_
        rintro e w2 ⟨rfl, rfl⟩
        dsimp only
        go_wp2_with fail
        go_ret
        refine ⟨HX.out, .inl ⟨fs, rk, vk, _, ?_, rfl, HR.out.1, HI.out, NewF2.le HF.out HB.out⟩⟩
        rw [HGP.out, HPP2.out]
        simp only
        rw [if_pos (by have := HFL.out; omega)]
      · refine (few_no (k : Nat) wr (by omega)).mono ?_
        rintro e w2 ⟨rfl, rfl⟩
        dsimp only
        go_wp2_with fail
        refine ⟨rfl, HX.out, .inr ⟨?_, 3, rfl, by decide⟩⟩
        rw [HGP.out, HPP2.out]
        simp only
        rw [if_neg (by have := HFL.out; omega)]

end Go.Proofs.Ytchejnnfbinclaa
end

section
/- The contract of script.Decode's closure. Printed by wip/mkdec.py. -/
namespace Go.Proofs.Ytchejnnfbinclaa
open Go.RowKit Go.My

/-- n bools, read -/
def bitsP : Nat → List UInt8 → Option (List Bool × List UInt8)
  | 0, l => some ([], l)
  | n + 1, l => match isP l with
    | none => none
    | some (t, r) => (bitsP n r).map fun z => (t :: z.1, z.2)
theorem bitsP_zero (l : List UInt8) : bitsP 0 l = some ([], l) := rfl
theorem bitsP_succ (n : Nat) (l : List UInt8) : bitsP (n + 1) l = match isP l with
    | none => none
    | some (t, r) => (bitsP n r).map fun z => (t :: z.1, z.2) := rfl

def decCmd (kind : Nat) (mark : Bool) (who n : Nat) (name host : List UInt8) (last days day near : Nat) (tag : List UInt8) (bits : List Bool) (files : List FileL) : CmdI :=
  ⟨wrap64 (kind : Int), wrap64 (n : Int), who, mark, name, host, files, wrap64 (last : Int), wrap64 (days : Int), wrap64 (day : Int), wrap64 (near : Int), tag, bits⟩
def decGo (c : CmdI) (r : List UInt8) : Option (CmdI × List UInt8) := if checkN c = 0 then some (c, r) else none
theorem decGo_eq {c : CmdI} {n : Int} (h : checkN c = n) (r : List UInt8) : decGo c r = if n = 0 then some (c, r) else none := by unfold decGo; rw [h]
def decFin (kind : Nat) (mark : Bool) (who : Nat) (n : Nat) (name : List UInt8) (host : List UInt8) (last : Nat) (days : Nat) (day : Nat) (near : Nat) (tag : List UInt8) (bits : List Bool) (l : List UInt8) : Option (CmdI × List UInt8) :=
  (getP 65536 l).bind fun x => decGo (decCmd kind mark who n name host last days day near tag bits x.1) x.2
def dec12 (kind : Nat) (mark : Bool) (who : Nat) (n : Nat) (name : List UInt8) (host : List UInt8) (last : Nat) (days : Nat) (day : Nat) (near : Nat) (tag : List UInt8) (many : Nat) (l : List UInt8) : Option (CmdI × List UInt8) := (bitsP many l).bind fun x => decFin kind mark who n name host last days day near tag x.1 x.2
theorem check_flat (kind n : Int) (who : Nat) (flag : Bool) (name host : List UInt8) (files : List FileL) (last days day within : Int) (tag : List UInt8) (bits : List Bool) (vf vb : Value) (w : World) (hf : IsFiles w files vf) (hb : IsBools w bits vb) :
    Calls Try.prog 36 #[.agg #[.int .i64 kind, .int .i64 n, .int .u64 (who : Nat), .bool flag, .string (strB name), .string (strB host), vf, .int .i64 last, .int .i64 days, .int .i64 day, .int .i64 within, .string (strB tag), vb]] w fun e w' => CheckTold (checkN ⟨kind, n, who, flag, name, host, files, last, days, day, within, tag, bits⟩) e ∧ Ext No w w' :=
  check_any ⟨kind, n, who, flag, name, host, files, last, days, day, within, tag, bits⟩ vf vb w hf hb
theorem cells_flat (kind n : Int) (who : Nat) (flag : Bool) (name host : List UInt8) (files : List FileL) (last days day within : Int) (tag : List UInt8) (bits : List Bool) (vf vb : Value) :
    cmdCells ⟨kind, n, who, flag, name, host, files, last, days, day, within, tag, bits⟩ vf vb = #[.int .i64 kind, .int .i64 n, .int .u64 (who : Nat), .bool flag, .string (strB name), .string (strB host), vf, .int .i64 last, .int .i64 days, .int .i64 day, .int .i64 within, .string (strB tag), vb] := rfl
theorem decFin_some (kind : Nat) (mark : Bool) (who : Nat) (n : Nat) (name : List UInt8) (host : List UInt8) (last : Nat) (days : Nat) (day : Nat) (near : Nat) (tag : List UInt8) (bits : List Bool) {l r : List UInt8} {fs : List FileL} (h : getP 65536 l = some (fs, r)) : decFin kind mark who n name host last days day near tag bits l = decGo (decCmd kind mark who n name host last days day near tag bits fs) r := by unfold decFin; rw [h, Option.bind_some]
theorem check_dec (kind : Nat) (mark : Bool) (who : Nat) (n : Nat) (name : List UInt8) (host : List UInt8) (last : Nat) (days : Nat) (day : Nat) (near : Nat) (tag : List UInt8) (bits : List Bool) (fs : List FileL) (vf vb : Value) (w : World) (hf : IsFiles w fs vf) (hb : IsBools w bits vb) :
    Calls Try.prog 36 #[.agg #[.int .i64 (wrap64 (kind : Int)), .int .i64 (wrap64 (n : Int)), .int .u64 (who : Nat), .bool mark, .string (strB name), .string (strB host), vf, .int .i64 (wrap64 (last : Int)), .int .i64 (wrap64 (days : Int)), .int .i64 (wrap64 (day : Int)), .int .i64 (wrap64 (near : Int)), .string (strB tag), vb]] w fun e w' => CheckTold (checkN (decCmd kind mark who n name host last days day near tag bits fs)) e ∧ Ext No w w' := by
  unfold decCmd
  exact check_flat (wrap64 (kind : Int)) (wrap64 (n : Int)) who mark name host fs (wrap64 (last : Int)) (wrap64 (days : Int)) (wrap64 (day : Int)) (wrap64 (near : Int)) tag bits vf vb w hf hb
theorem cells_dec (kind : Nat) (mark : Bool) (who : Nat) (n : Nat) (name : List UInt8) (host : List UInt8) (last : Nat) (days : Nat) (day : Nat) (near : Nat) (tag : List UInt8) (bits : List Bool) (fs : List FileL) (vf vb : Value) : cmdCells (decCmd kind mark who n name host last days day near tag bits fs) vf vb = #[.int .i64 (wrap64 (kind : Int)), .int .i64 (wrap64 (n : Int)), .int .u64 (who : Nat), .bool mark, .string (strB name), .string (strB host), vf, .int .i64 (wrap64 (last : Int)), .int .i64 (wrap64 (days : Int)), .int .i64 (wrap64 (day : Int)), .int .i64 (wrap64 (near : Int)), .string (strB tag), vb] := by
  unfold decCmd
  exact cells_flat (wrap64 (kind : Int)) (wrap64 (n : Int)) who mark name host fs (wrap64 (last : Int)) (wrap64 (days : Int)) (wrap64 (day : Int)) (wrap64 (near : Int)) tag bits vf vb
def dec11 (kind : Nat) (mark : Bool) (who : Nat) (n : Nat) (name : List UInt8) (host : List UInt8) (last : Nat) (days : Nat) (day : Nat) (near : Nat) (tag : List UInt8) (l : List UInt8) : Option (CmdI × List UInt8) := (numP 4 l).bind fun x => dec12 kind mark who n name host last days day near tag x.1 x.2
theorem dec11_none (kind : Nat) (mark : Bool) (who : Nat) (n : Nat) (name : List UInt8) (host : List UInt8) (last : Nat) (days : Nat) (day : Nat) (near : Nat) (tag : List UInt8) {l : List UInt8} (h : numP 4 l = none) : dec11 kind mark who n name host last days day near tag l = none := by unfold dec11; rw [h]; rfl
theorem dec11_some (kind : Nat) (mark : Bool) (who : Nat) (n : Nat) (name : List UInt8) (host : List UInt8) (last : Nat) (days : Nat) (day : Nat) (near : Nat) (tag : List UInt8) {l r : List UInt8} {many : Nat} (h : numP 4 l = some (many, r)) : dec11 kind mark who n name host last days day near tag l = dec12 kind mark who n name host last days day near tag many r := by unfold dec11; rw [h]; rfl
def dec10 (kind : Nat) (mark : Bool) (who : Nat) (n : Nat) (name : List UInt8) (host : List UInt8) (last : Nat) (days : Nat) (day : Nat) (near : Nat) (l : List UInt8) : Option (CmdI × List UInt8) := (bytesP 120 l).bind fun x => dec11 kind mark who n name host last days day near x.1 x.2
theorem dec10_none (kind : Nat) (mark : Bool) (who : Nat) (n : Nat) (name : List UInt8) (host : List UInt8) (last : Nat) (days : Nat) (day : Nat) (near : Nat) {l : List UInt8} (h : bytesP 120 l = none) : dec10 kind mark who n name host last days day near l = none := by unfold dec10; rw [h]; rfl
theorem dec10_some (kind : Nat) (mark : Bool) (who : Nat) (n : Nat) (name : List UInt8) (host : List UInt8) (last : Nat) (days : Nat) (day : Nat) (near : Nat) {l r : List UInt8} {tag : List UInt8} (h : bytesP 120 l = some (tag, r)) : dec10 kind mark who n name host last days day near l = dec11 kind mark who n name host last days day near tag r := by unfold dec10; rw [h]; rfl
def dec9 (kind : Nat) (mark : Bool) (who : Nat) (n : Nat) (name : List UInt8) (host : List UInt8) (last : Nat) (days : Nat) (day : Nat) (l : List UInt8) : Option (CmdI × List UInt8) := (numP 8 l).bind fun x => dec10 kind mark who n name host last days day x.1 x.2
theorem dec9_none (kind : Nat) (mark : Bool) (who : Nat) (n : Nat) (name : List UInt8) (host : List UInt8) (last : Nat) (days : Nat) (day : Nat) {l : List UInt8} (h : numP 8 l = none) : dec9 kind mark who n name host last days day l = none := by unfold dec9; rw [h]; rfl
theorem dec9_some (kind : Nat) (mark : Bool) (who : Nat) (n : Nat) (name : List UInt8) (host : List UInt8) (last : Nat) (days : Nat) (day : Nat) {l r : List UInt8} {near : Nat} (h : numP 8 l = some (near, r)) : dec9 kind mark who n name host last days day l = dec10 kind mark who n name host last days day near r := by unfold dec9; rw [h]; rfl
def dec8 (kind : Nat) (mark : Bool) (who : Nat) (n : Nat) (name : List UInt8) (host : List UInt8) (last : Nat) (days : Nat) (l : List UInt8) : Option (CmdI × List UInt8) := (numP 8 l).bind fun x => dec9 kind mark who n name host last days x.1 x.2
theorem dec8_none (kind : Nat) (mark : Bool) (who : Nat) (n : Nat) (name : List UInt8) (host : List UInt8) (last : Nat) (days : Nat) {l : List UInt8} (h : numP 8 l = none) : dec8 kind mark who n name host last days l = none := by unfold dec8; rw [h]; rfl
theorem dec8_some (kind : Nat) (mark : Bool) (who : Nat) (n : Nat) (name : List UInt8) (host : List UInt8) (last : Nat) (days : Nat) {l r : List UInt8} {day : Nat} (h : numP 8 l = some (day, r)) : dec8 kind mark who n name host last days l = dec9 kind mark who n name host last days day r := by unfold dec8; rw [h]; rfl
def dec7 (kind : Nat) (mark : Bool) (who : Nat) (n : Nat) (name : List UInt8) (host : List UInt8) (last : Nat) (l : List UInt8) : Option (CmdI × List UInt8) := (numP 4 l).bind fun x => dec8 kind mark who n name host last x.1 x.2
theorem dec7_none (kind : Nat) (mark : Bool) (who : Nat) (n : Nat) (name : List UInt8) (host : List UInt8) (last : Nat) {l : List UInt8} (h : numP 4 l = none) : dec7 kind mark who n name host last l = none := by unfold dec7; rw [h]; rfl
theorem dec7_some (kind : Nat) (mark : Bool) (who : Nat) (n : Nat) (name : List UInt8) (host : List UInt8) (last : Nat) {l r : List UInt8} {days : Nat} (h : numP 4 l = some (days, r)) : dec7 kind mark who n name host last l = dec8 kind mark who n name host last days r := by unfold dec7; rw [h]; rfl
def dec6 (kind : Nat) (mark : Bool) (who : Nat) (n : Nat) (name : List UInt8) (host : List UInt8) (l : List UInt8) : Option (CmdI × List UInt8) := (numP 4 l).bind fun x => dec7 kind mark who n name host x.1 x.2
theorem dec6_none (kind : Nat) (mark : Bool) (who : Nat) (n : Nat) (name : List UInt8) (host : List UInt8) {l : List UInt8} (h : numP 4 l = none) : dec6 kind mark who n name host l = none := by unfold dec6; rw [h]; rfl
theorem dec6_some (kind : Nat) (mark : Bool) (who : Nat) (n : Nat) (name : List UInt8) (host : List UInt8) {l r : List UInt8} {last : Nat} (h : numP 4 l = some (last, r)) : dec6 kind mark who n name host l = dec7 kind mark who n name host last r := by unfold dec6; rw [h]; rfl
def dec5 (kind : Nat) (mark : Bool) (who : Nat) (n : Nat) (name : List UInt8) (l : List UInt8) : Option (CmdI × List UInt8) := (bytesP 120 l).bind fun x => dec6 kind mark who n name x.1 x.2
theorem dec5_none (kind : Nat) (mark : Bool) (who : Nat) (n : Nat) (name : List UInt8) {l : List UInt8} (h : bytesP 120 l = none) : dec5 kind mark who n name l = none := by unfold dec5; rw [h]; rfl
theorem dec5_some (kind : Nat) (mark : Bool) (who : Nat) (n : Nat) (name : List UInt8) {l r : List UInt8} {host : List UInt8} (h : bytesP 120 l = some (host, r)) : dec5 kind mark who n name l = dec6 kind mark who n name host r := by unfold dec5; rw [h]; rfl
def dec4 (kind : Nat) (mark : Bool) (who : Nat) (n : Nat) (l : List UInt8) : Option (CmdI × List UInt8) := (bytesP 120 l).bind fun x => dec5 kind mark who n x.1 x.2
theorem dec4_none (kind : Nat) (mark : Bool) (who : Nat) (n : Nat) {l : List UInt8} (h : bytesP 120 l = none) : dec4 kind mark who n l = none := by unfold dec4; rw [h]; rfl
theorem dec4_some (kind : Nat) (mark : Bool) (who : Nat) (n : Nat) {l r : List UInt8} {name : List UInt8} (h : bytesP 120 l = some (name, r)) : dec4 kind mark who n l = dec5 kind mark who n name r := by unfold dec4; rw [h]; rfl
def dec3 (kind : Nat) (mark : Bool) (who : Nat) (l : List UInt8) : Option (CmdI × List UInt8) := (numP 8 l).bind fun x => dec4 kind mark who x.1 x.2
theorem dec3_none (kind : Nat) (mark : Bool) (who : Nat) {l : List UInt8} (h : numP 8 l = none) : dec3 kind mark who l = none := by unfold dec3; rw [h]; rfl
theorem dec3_some (kind : Nat) (mark : Bool) (who : Nat) {l r : List UInt8} {n : Nat} (h : numP 8 l = some (n, r)) : dec3 kind mark who l = dec4 kind mark who n r := by unfold dec3; rw [h]; rfl
def dec2 (kind : Nat) (mark : Bool) (l : List UInt8) : Option (CmdI × List UInt8) := (numP 8 l).bind fun x => dec3 kind mark x.1 x.2
theorem dec2_none (kind : Nat) (mark : Bool) {l : List UInt8} (h : numP 8 l = none) : dec2 kind mark l = none := by unfold dec2; rw [h]; rfl
theorem dec2_some (kind : Nat) (mark : Bool) {l r : List UInt8} {who : Nat} (h : numP 8 l = some (who, r)) : dec2 kind mark l = dec3 kind mark who r := by unfold dec2; rw [h]; rfl
def dec1 (kind : Nat) (l : List UInt8) : Option (CmdI × List UInt8) := (isP l).bind fun x => dec2 kind x.1 x.2
theorem dec1_none (kind : Nat) {l : List UInt8} (h : isP l = none) : dec1 kind l = none := by unfold dec1; rw [h]; rfl
theorem dec1_some (kind : Nat) {l r : List UInt8} {mark : Bool} (h : isP l = some (mark, r)) : dec1 kind l = dec2 kind mark r := by unfold dec1; rw [h]; rfl
def dec0  (l : List UInt8) : Option (CmdI × List UInt8) := (numP 1 l).bind fun x => dec1  x.1 x.2
theorem dec0_none  {l : List UInt8} (h : numP 1 l = none) : dec0  l = none := by unfold dec0; rw [h]; rfl
theorem dec0_some  {l r : List UInt8} {kind : Nat} (h : numP 1 l = some (kind, r)) : dec0  l = dec1 kind r := by unfold dec0; rw [h]; rfl

theorem numP_some {k : Nat} {l : List UInt8} (h : k ≤ l.length) : numP k l = some (getN (l.take k), l.drop k) := by unfold numP; rw [if_pos h]
theorem numP_none {k : Nat} {l : List UInt8} (h : l.length < k) : numP k l = none := by unfold numP; rw [if_neg (by omega)]
theorem getN_take_lt {k : Nat} {l : List UInt8} (h : k ≤ l.length) : getN (l.take k) < 256 ^ k := by have := getN_lt (l.take k); rw [List.length_take, Nat.min_eq_left h] at this; exact this

/-- the closure's state: the reader, the command's box -/
structure DecS (w wr : World) (rb cb B : Nat) (cells : Array Value) (l : List UInt8) (v : Value) : Prop where
  rd : RdN wr rb B l v
  box : Blk wr cb cells 28
  ext : Ext (fun j => j = rb ∨ j = cb) w wr
  len : l.length ≤ 1099511627776
theorem DecS.ne {w wr : World} {rb cb B : Nat} {cells : Array Value} {l : List UInt8} {v : Value} (h : DecS w wr rb cb B cells l v) : cb ≠ rb := Blk.ne_type h.box h.rd.1.box (by decide)
theorem DecS.read {w wr w2 : World} {rb cb B : Nat} {cells : Array Value} {l r : List UInt8} {v v2 : Value} (h : DecS w wr rb cb B cells l v) (hx : Ext (fun j => j = rb) wr w2) (hr : RdS w2 rb r v2) (hi : Inn v v2) (hl : r.length ≤ l.length) : DecS w w2 rb cb B cells r v2 :=
  ⟨h.rd.next hx hr hi, h.box.ext hx h.ne, h.ext.trans hx (fun _ _ s => s) (fun _ _ s => .inl s), Nat.le_trans hl h.len⟩
theorem DecS.put {w wr : World} {rb cb B : Nat} {cells : Array Value} {l : List UInt8} {v : Value} (h : DecS w wr rb cb B cells l v) (k : Nat) (x : Value) : DecS w (wr.setCell ⟨cb, k, none⟩ x) rb cb B (cells.setIfInBounds k x) l v := by
  have hx : Ext (fun j => j = cb) wr (wr.setCell ⟨cb, k, none⟩ x) := (Ext.refl _ wr).setCell _ _ (fun _ => rfl)
  refine ⟨h.rd.ext hx (fun j cs T hb hT s => ?_), h.box.set k x, h.ext.trans hx (fun _ _ s => s) (fun _ _ s => .inr s), h.len⟩
  subst s
  rcases hT with rfl | rfl
  · exact Blk.ne_type hb h.box (by decide) rfl
  · exact Blk.ne_type hb h.box (by decide) rfl
theorem DecS.cell {w wr : World} {rb cb B : Nat} {cells : Array Value} {l : List UInt8} {v : Value} (h : DecS w wr rb cb B cells l v) (i : Nat) : wr.cell? ⟨cb, i, none⟩ = cells[i]? := h.box.cell i
theorem DecS.free {w wr : World} {rb cb B : Nat} {cells : Array Value} {l : List UInt8} {v : Value} (h : DecS w wr rb cb B cells l v) (i : Nat) : wr.frozen? ⟨cb, i, none⟩ = false := h.box.free i

theorem DecS.drew {w wr : World} {rb cb B : Nat} {cells : Array Value} {l : List UInt8} {v : Value} (h : DecS w wr rb cb B cells l v) : DecS w wr.drew rb cb B cells l v :=
  ⟨h.rd.ext ((Ext.refl No wr).drew) (fun _ _ _ _ _ s => s), h.box.drew, h.ext.drew, h.len⟩
theorem DecS.more {w wr w2 : World} {rb cb B : Nat} {cells : Array Value} {l : List UInt8} {v : Value} {S : Nat → Prop} (h : DecS w wr rb cb B cells l v) (hx : Ext S wr w2) (hs : ∀ j cs T, Blk wr j cs T → T = 5 ∨ T = 119 ∨ T = 28 → ¬ S j) (hs2 : ∀ j, j < w.heap.size → ¬ S j) : DecS w w2 rb cb B cells l v :=
  ⟨h.rd.ext hx (fun j cs T hb hT => hs j cs T hb (by rcases hT with e | e; exact .inl e; exact .inr (.inl e))), h.box.ext hx (hs _ _ _ h.box (.inr (.inr rfl))), h.ext.trans hx (fun _ _ s => s) (fun j hj s => absurd s (hs2 j hj)), h.len⟩
theorem is_ok (rb : Nat) (l r : List UInt8) (t : Bool) (v : Value) (w : World) (h : RdS w rb l v) (hp : isP l = some (t, r)) :
    Calls Try.prog 51 #[.pointer (some ⟨rb, 0, none⟩)] w fun e w' => e = .returned (.bool t) ∧ ∃ v', RdS w' rb r v' ∧ Ext (fun j => j = rb) w w' ∧ Inn v v' := by
  refine (is_any rb l v w h).mono ?_
  rintro e w' ⟨hx, ⟨t', r', v', hp', rfl, hr, hi⟩ | ⟨hn, -⟩⟩
  · rw [hp] at hp'; cases hp'
    exact ⟨rfl, v', hr, hx, hi⟩
  · rw [hp] at hn; cases hn
theorem is_no (rb : Nat) (l : List UInt8) (v : Value) (w : World) (h : RdS w rb l v) (hp : isP l = none) :
    Calls Try.prog 51 #[.pointer (some ⟨rb, 0, none⟩)] w fun e w' => ∃ n : Int, e = .panicked (thrown n) ∧ n ≠ 0 ∧ Ext (fun j => j = rb) w w' := by
  refine (is_any rb l v w h).mono ?_
  rintro e w' ⟨hx, ⟨t', r', v', hp', rfl, hr, hi⟩ | ⟨hn, n, rfl, h0⟩⟩
  · rw [hp] at hp'; cases hp'
  · exact ⟨n, rfl, h0, hx⟩
theorem isP_len {l r : List UInt8} {t : Bool} (h : isP l = some (t, r)) : 1 + r.length = l.length := by
  unfold isP numP at h
  by_cases h1 : 1 ≤ l.length
  · simp only [if_pos h1] at h
    split at h
    · simp only [Option.some.injEq, Prod.mk.injEq] at h; rw [← h.2, List.length_drop]; omega
    · cases h
  · simp only [if_neg h1] at h; cases h

theorem bool_info : (Try.prog.info? 4).map (fun i => (i.zero, i.size, i.bytes)) = some (some (.bool false), 1, 1) := by kernel_rfl
theorem filesP_len (most n : Nat) : ∀ (l r : List UInt8) (fs : List FileL), filesP most n l = some (fs, r) → r.length ≤ l.length := by
  induction n with
  | zero => intro l r fs h; rw [filesP_zero] at h; cases h; exact Nat.le_refl _
  | succ n ih =>
    intro l r fs h
    rw [filesP_succ] at h
    cases hp : bytesP 120 l with
    | none => rw [hp] at h; cases h
    | some pr =>
      obtain ⟨p, r1⟩ := pr
      rw [hp] at h; dsimp only at h
      cases hq : bytesP most r1 with
      | none => rw [hq] at h; cases h
      | some dq =>
        obtain ⟨d, q⟩ := dq
        rw [hq] at h; dsimp only at h
        cases hz : filesP most n q with
        | none => rw [hz] at h; cases h
        | some z =>
          obtain ⟨gs, r2⟩ := z
          rw [hz] at h
          simp only [Option.map_some, Option.some.injEq, Prod.mk.injEq] at h
          have := ih q r2 gs hz
          have h1 := bytesP_len hp; have h2 := bytesP_len hq
          rw [← h.2]; omega
theorem getP_len {most : Nat} {l r : List UInt8} {fs : List FileL} (h : getP most l = some (fs, r)) : r.length ≤ l.length := by
  unfold getP numP at h
  by_cases h4 : 4 ≤ l.length
  · rw [if_pos h4] at h
    dsimp only at h
    cases hz : filesP most (getN (l.take 4)) (l.drop 4) with
    | none => rw [hz] at h; cases h
    | some z =>
      obtain ⟨gs, r2⟩ := z
      rw [hz] at h; dsimp only at h
      have := filesP_len _ _ _ _ _ hz
      rw [List.length_drop] at this
      split at h
      · simp only [Option.some.injEq, Prod.mk.injEq] at h; rw [← h.2]; omega
      · cases h
  · rw [if_neg h4] at h; cases h

def DecR (cb B : Nat) (c : CmdI) (w : World) : Prop := ∃ vf vb, Blk w cb (cmdCells c vf vb) 28 ∧ NewF w B c.files vf ∧ w.ownsRow B 4 1 vb c.bits.length (c.bits.map .bool)
def DecX (cb : Nat) (w : World) : Prop := ∃ cs, Blk w cb cs 28
def DecTold (rb cb B : Nat) (w1 : World) (l : List UInt8) (e : Ending) (w2 : World) : Prop :=
  Ext (fun j => j = rb ∨ j = cb) w1 w2 ∧ ((∃ a r v', dec0 l = some (a, r) ∧ e = .returned (.tuple #[]) ∧ RdS w2 rb r v' ∧ DecR cb B a w2) ∨ (dec0 l = none ∧ DecX cb w2 ∧ ∃ n : Int, e = .panicked (thrown n) ∧ n ≠ 0))
theorem DecTold.no {w1 w2 : World} {rb cb B : Nat} {l l2 : List UInt8} {v : Value} {cells : Array Value} {n : Int} (h : DecS w1 w2 rb cb B cells l2 v) (hd : dec0 l = none) (hn : n ≠ 0) : DecTold rb cb B w1 l (.panicked (thrown n)) w2 :=
  ⟨h.ext, .inr ⟨hd, ⟨_, h.box⟩, n, rfl, hn⟩⟩

def zeroCells : Array Value := #[.int .i64 0, .int .i64 0, .int .u64 0, .bool false, .string ⟨#[]⟩, .string ⟨#[]⟩, .slice none 0 0, .int .i64 0, .int .i64 0, .int .i64 0, .int .i64 0, .string ⟨#[]⟩, .slice none 0 0]
set_option maxRecDepth 100000 in
set_option maxHeartbeats 8000000 in
theorem decode29_1 (rb cb B : Nat) (l : List UInt8) (v : Value) (w1 : World) (hs : DecS w1 w1 rb cb B zeroCells l v) (hB : B ≤ w1.heap.size) :
    Calls Try.prog 49 #[.pointer (some ⟨rb, 0, none⟩), .pointer (some ⟨cb, 0, none⟩)] w1 (DecTold rb cb B w1 l) := by
  unfold zeroCells at hs
  have H := Lib.hid hs; have HB := Lib.hid hB; have HT := Lib.hid (rfl : dec0 l = dec0 l)
  clear hs hB
  obtain ⟨l0, hl0⟩ : ∃ l0, l0 = l := ⟨_, rfl⟩
  conv at HT => arg 1; lhs; rw [← hl0]
  rw [← hl0]
  clear hl0
  go_enter Try.func49, Try.ntmps49
  go_wp2_with fail
  -- kind
  by_cases h : 1 ≤ l.length
  case neg =>
    refine (rnum_no 1 (by decide) (by decide) rb l v _ H.out.rd.1 (by omega)).mono ?_
    rintro e w9 ⟨rfl, rfl⟩
    dsimp only
    go_wp2_with fail
    exact ⟨rfl, DecTold.no H.out (HT.out.trans (dec0_none  (numP_none (by omega)))) (by decide)⟩
  have HP := Lib.hid (numP_some h)
  refine (rnum_ok 1 (by decide) (by decide) rb l v _ H.out.rd.1 h).mono ?_
  rintro e w2a ⟨rfl, v1, hr, hx, hi⟩
  have hlt := getN_take_lt h
  generalize hgx : getN (l.take 1) = kind at *
  have hdl : (l.drop 1).length ≤ l.length := by rw [List.length_drop]; omega
  generalize l.drop 1 = l1 at *
  have H2 := Lib.hid (H.out.read hx hr hi hdl)
  have HT2 := Lib.hid (HT.out.trans (dec0_some  HP.out))
  skip
  clear hr hx hi hdl h H HT HP hgx hlt
  have hf := H2.out.free 0
  have hc := H2.out.cell 0
  simp only [List.getElem?_toArray, List.getElem?_cons_zero, List.getElem?_cons_succ] at hc
  have H3 := Lib.hid (H2.out.put 0 (.int .i64 (wrap64 ((kind : Nat) : Int))))
  clear H2
  simp only [List.setIfInBounds_toArray, List.set_cons_succ, List.set_cons_zero] at H3
  obtain ⟨w2, hw⟩ : ∃ w9, w2a.setCell ⟨cb, 0, none⟩ (.int .i64 (wrap64 ((kind : Nat) : Int))) = w9 := ⟨_, rfl⟩
  rw [hw] at H3
  have HW := Lib.hid hw; clear hw
  dsimp only
  go_wp2_with fail
  rw [HW.out]; clear HW hf hc
  have H := H3; have HT := HT2; clear H3 HT2
  -- mark
  refine (is_any rb l1 v1 _ H.out.rd.1).mono ?_
  rintro e w3a ⟨hx, ht⟩
  rcases ht with ⟨mark, l2, v2, hp, rfl, hr, hi⟩ | ⟨hp, n9, rfl, hn9⟩
  case inr =>
    have hh := HT.out.trans (dec1_none kind hp)
    have HE := Lib.hid (H.out.ext.trans hx (fun _ _ s => s) (fun _ _ s => .inl s)); have HBX := Lib.hid (H.out.box.ext hx H.out.ne)
    clear hp
    dsimp only
    go_wp2_with fail
    exact ⟨rfl, HE.out, .inr ⟨hh, ⟨_, HBX.out⟩, n9, rfl, hn9⟩⟩
  have hdl : l2.length ≤ l1.length := by
    unfold isP numP at hp
    by_cases h : 1 ≤ l1.length
    · simp only [if_pos h] at hp
      split at hp
      · simp only [Option.some.injEq, Prod.mk.injEq] at hp; rw [← hp.2, List.length_drop]; omega
      · cases hp
    · simp only [if_neg h] at hp; cases hp
  have H2 := Lib.hid (H.out.read hx hr hi hdl)
  have HT2 := Lib.hid (HT.out.trans (dec1_some kind hp))
  clear hr hx hi hdl hp H HT
  have hf := H2.out.free 3
  have hc := H2.out.cell 3
  simp only [List.getElem?_toArray, List.getElem?_cons_zero, List.getElem?_cons_succ] at hc
  have H3 := Lib.hid (H2.out.put 3 (.bool mark))
  clear H2
  simp only [List.setIfInBounds_toArray, List.set_cons_succ, List.set_cons_zero] at H3
  obtain ⟨w3, hw⟩ : ∃ w9, w3a.setCell ⟨cb, 3, none⟩ (.bool mark) = w9 := ⟨_, rfl⟩
  rw [hw] at H3
  have HW := Lib.hid hw; clear hw
  dsimp only
  go_wp2_with fail
  rw [HW.out]; clear HW hf hc
  have H := H3; have HT := HT2; clear H3 HT2
  -- who
  by_cases h : 8 ≤ l2.length
  case neg =>
    refine (rnum_no 8 (by decide) (by decide) rb l2 v2 _ H.out.rd.1 (by omega)).mono ?_
    rintro e w9 ⟨rfl, rfl⟩
    dsimp only
    go_wp2_with fail
    exact ⟨rfl, DecTold.no H.out (HT.out.trans (dec2_none kind mark (numP_none (by omega)))) (by decide)⟩
  have HP := Lib.hid (numP_some h)
  refine (rnum_ok 8 (by decide) (by decide) rb l2 v2 _ H.out.rd.1 h).mono ?_
  rintro e w4a ⟨rfl, v3, hr, hx, hi⟩
  have hlt := getN_take_lt h
  generalize hgx : getN (l2.take 8) = who at *
  have hdl : (l2.drop 8).length ≤ l2.length := by rw [List.length_drop]; omega
  generalize l2.drop 8 = l3 at *
  have H2 := Lib.hid (H.out.read hx hr hi hdl)
  have HT2 := Lib.hid (HT.out.trans (dec2_some kind mark HP.out))
  skip
  clear hr hx hi hdl h H HT HP hgx hlt
  have hf := H2.out.free 2
  have hc := H2.out.cell 2
  simp only [List.getElem?_toArray, List.getElem?_cons_zero, List.getElem?_cons_succ] at hc
  have H3 := Lib.hid (H2.out.put 2 (.int .u64 (who : Nat)))
  clear H2
  simp only [List.setIfInBounds_toArray, List.set_cons_succ, List.set_cons_zero] at H3
  obtain ⟨w4, hw⟩ : ∃ w9, w4a.setCell ⟨cb, 2, none⟩ (.int .u64 (who : Nat)) = w9 := ⟨_, rfl⟩
  rw [hw] at H3
  have HW := Lib.hid hw; clear hw
  dsimp only
  go_wp2_with fail
  rw [HW.out]; clear HW hf hc
  have H := H3; have HT := HT2; clear H3 HT2
  -- n
  by_cases h : 8 ≤ l3.length
  case neg =>
    refine (rnum_no 8 (by decide) (by decide) rb l3 v3 _ H.out.rd.1 (by omega)).mono ?_
    rintro e w9 ⟨rfl, rfl⟩
    dsimp only
    go_wp2_with fail
    exact ⟨rfl, DecTold.no H.out (HT.out.trans (dec3_none kind mark who (numP_none (by omega)))) (by decide)⟩
  have HP := Lib.hid (numP_some h)
  refine (rnum_ok 8 (by decide) (by decide) rb l3 v3 _ H.out.rd.1 h).mono ?_
  rintro e w5a ⟨rfl, v4, hr, hx, hi⟩
  have hlt := getN_take_lt h
  generalize hgx : getN (l3.take 8) = n at *
  have hdl : (l3.drop 8).length ≤ l3.length := by rw [List.length_drop]; omega
  generalize l3.drop 8 = l4 at *
  have H2 := Lib.hid (H.out.read hx hr hi hdl)
  have HT2 := Lib.hid (HT.out.trans (dec3_some kind mark who HP.out))
  skip
  clear hr hx hi hdl h H HT HP hgx hlt
  have hf := H2.out.free 1
  have hc := H2.out.cell 1
  simp only [List.getElem?_toArray, List.getElem?_cons_zero, List.getElem?_cons_succ] at hc
  have H3 := Lib.hid (H2.out.put 1 (.int .i64 (wrap64 ((n : Nat) : Int))))
  clear H2
  simp only [List.setIfInBounds_toArray, List.set_cons_succ, List.set_cons_zero] at H3
  obtain ⟨w5, hw⟩ : ∃ w9, w5a.setCell ⟨cb, 1, none⟩ (.int .i64 (wrap64 ((n : Nat) : Int))) = w9 := ⟨_, rfl⟩
  rw [hw] at H3
  have HW := Lib.hid hw; clear hw
  dsimp only
  go_wp2_with fail
  rw [HW.out]; clear HW hf hc
  have H := H3; have HT := HT2; clear H3 HT2
  -- name
  cases hp : bytesP 120 l4 with
  | none =>
    refine (rtext_no 120 (by decide) rb l4 v4 _ H.out.rd.1 H.out.rd.len hp).mono ?_
    rintro e w9 ⟨n9, rfl, hn9, hx⟩
    have hh := HT.out.trans (dec4_none kind mark who n hp)
    have HE := Lib.hid (H.out.ext.trans hx (fun _ _ s => s) (fun _ _ s => .inl s)); have HBX := Lib.hid (H.out.box.ext hx H.out.ne)
    clear hp
    dsimp only
    go_wp2_with fail
    exact ⟨rfl, HE.out, .inr ⟨hh, ⟨_, HBX.out⟩, n9, rfl, hn9⟩⟩
  | some xr =>
  obtain ⟨name, l5⟩ := xr
  have hdl : l5.length ≤ l4.length := by have := bytesP_len hp; omega
  refine (rtext_ok 120 (by decide) rb l4 name l5 v4 _ H.out.rd.1 hp).mono ?_
  rintro e w6a ⟨rfl, v5, hr, hx, hi⟩
  have H2 := Lib.hid (H.out.read hx hr hi hdl)
  have HT2 := Lib.hid (HT.out.trans (dec4_some kind mark who n hp))
  clear hr hx hi hdl hp H HT
  have hf := H2.out.free 4
  have hc := H2.out.cell 4
  simp only [List.getElem?_toArray, List.getElem?_cons_zero, List.getElem?_cons_succ] at hc
  have H3 := Lib.hid (H2.out.put 4 (.string (strB name)))
  clear H2
  simp only [List.setIfInBounds_toArray, List.set_cons_succ, List.set_cons_zero] at H3
  obtain ⟨w6, hw⟩ : ∃ w9, w6a.setCell ⟨cb, 4, none⟩ (.string (strB name)) = w9 := ⟨_, rfl⟩
  rw [hw] at H3
  have HW := Lib.hid hw; clear hw
  dsimp only
  go_wp2_with fail
  rw [HW.out]; clear HW hf hc
  have H := H3; have HT := HT2; clear H3 HT2
  -- host
  cases hp : bytesP 120 l5 with
  | none =>
    refine (rtext_no 120 (by decide) rb l5 v5 _ H.out.rd.1 H.out.rd.len hp).mono ?_
    rintro e w9 ⟨n9, rfl, hn9, hx⟩
    have hh := HT.out.trans (dec5_none kind mark who n name hp)
    have HE := Lib.hid (H.out.ext.trans hx (fun _ _ s => s) (fun _ _ s => .inl s)); have HBX := Lib.hid (H.out.box.ext hx H.out.ne)
    clear hp
    dsimp only
    go_wp2_with fail
    exact ⟨rfl, HE.out, .inr ⟨hh, ⟨_, HBX.out⟩, n9, rfl, hn9⟩⟩
  | some xr =>
  obtain ⟨host, l6⟩ := xr
  have hdl : l6.length ≤ l5.length := by have := bytesP_len hp; omega
  refine (rtext_ok 120 (by decide) rb l5 host l6 v5 _ H.out.rd.1 hp).mono ?_
  rintro e w7a ⟨rfl, v6, hr, hx, hi⟩
  have H2 := Lib.hid (H.out.read hx hr hi hdl)
  have HT2 := Lib.hid (HT.out.trans (dec5_some kind mark who n name hp))
  clear hr hx hi hdl hp H HT
  have hf := H2.out.free 5
  have hc := H2.out.cell 5
  simp only [List.getElem?_toArray, List.getElem?_cons_zero, List.getElem?_cons_succ] at hc
  have H3 := Lib.hid (H2.out.put 5 (.string (strB host)))
  clear H2
  simp only [List.setIfInBounds_toArray, List.set_cons_succ, List.set_cons_zero] at H3
  obtain ⟨w7, hw⟩ : ∃ w9, w7a.setCell ⟨cb, 5, none⟩ (.string (strB host)) = w9 := ⟨_, rfl⟩
  rw [hw] at H3
  have HW := Lib.hid hw; clear hw
  dsimp only
  go_wp2_with fail
  rw [HW.out]; clear HW hf hc
  have H := H3; have HT := HT2; clear H3 HT2
  -- last
  by_cases h : 4 ≤ l6.length
  case neg =>
    refine (rnum_no 4 (by decide) (by decide) rb l6 v6 _ H.out.rd.1 (by omega)).mono ?_
    rintro e w9 ⟨rfl, rfl⟩
    dsimp only
    go_wp2_with fail
    exact ⟨rfl, DecTold.no H.out (HT.out.trans (dec6_none kind mark who n name host (numP_none (by omega)))) (by decide)⟩
  have HP := Lib.hid (numP_some h)
  refine (rnum_ok 4 (by decide) (by decide) rb l6 v6 _ H.out.rd.1 h).mono ?_
  rintro e w8a ⟨rfl, v7, hr, hx, hi⟩
  have hlt := getN_take_lt h
  generalize hgx : getN (l6.take 4) = last at *
  have hdl : (l6.drop 4).length ≤ l6.length := by rw [List.length_drop]; omega
  generalize l6.drop 4 = l7 at *
  have H2 := Lib.hid (H.out.read hx hr hi hdl)
  have HT2 := Lib.hid (HT.out.trans (dec6_some kind mark who n name host HP.out))
  skip
  clear hr hx hi hdl h H HT HP hgx hlt
  have hf := H2.out.free 7
  have hc := H2.out.cell 7
  simp only [List.getElem?_toArray, List.getElem?_cons_zero, List.getElem?_cons_succ] at hc
  have H3 := Lib.hid (H2.out.put 7 (.int .i64 (wrap64 ((last : Nat) : Int))))
  clear H2
  simp only [List.setIfInBounds_toArray, List.set_cons_succ, List.set_cons_zero] at H3
  obtain ⟨w8, hw⟩ : ∃ w9, w8a.setCell ⟨cb, 7, none⟩ (.int .i64 (wrap64 ((last : Nat) : Int))) = w9 := ⟨_, rfl⟩
  rw [hw] at H3
  have HW := Lib.hid hw; clear hw
  dsimp only
  go_wp2_with fail
  rw [HW.out]; clear HW hf hc
  have H := H3; have HT := HT2; clear H3 HT2
  -- days
  by_cases h : 4 ≤ l7.length
  case neg =>
    refine (rnum_no 4 (by decide) (by decide) rb l7 v7 _ H.out.rd.1 (by omega)).mono ?_
    rintro e w9 ⟨rfl, rfl⟩
    dsimp only
    go_wp2_with fail
    exact ⟨rfl, DecTold.no H.out (HT.out.trans (dec7_none kind mark who n name host last (numP_none (by omega)))) (by decide)⟩
  have HP := Lib.hid (numP_some h)
  refine (rnum_ok 4 (by decide) (by decide) rb l7 v7 _ H.out.rd.1 h).mono ?_
  rintro e w9a ⟨rfl, v8, hr, hx, hi⟩
  have hlt := getN_take_lt h
  generalize hgx : getN (l7.take 4) = days at *
  have hdl : (l7.drop 4).length ≤ l7.length := by rw [List.length_drop]; omega
  generalize l7.drop 4 = l8 at *
  have H2 := Lib.hid (H.out.read hx hr hi hdl)
  have HT2 := Lib.hid (HT.out.trans (dec7_some kind mark who n name host last HP.out))
  skip
  clear hr hx hi hdl h H HT HP hgx hlt
  have hf := H2.out.free 8
  have hc := H2.out.cell 8
  simp only [List.getElem?_toArray, List.getElem?_cons_zero, List.getElem?_cons_succ] at hc
  have H3 := Lib.hid (H2.out.put 8 (.int .i64 (wrap64 ((days : Nat) : Int))))
  clear H2
  simp only [List.setIfInBounds_toArray, List.set_cons_succ, List.set_cons_zero] at H3
  obtain ⟨w9, hw⟩ : ∃ w9, w9a.setCell ⟨cb, 8, none⟩ (.int .i64 (wrap64 ((days : Nat) : Int))) = w9 := ⟨_, rfl⟩
  rw [hw] at H3
  have HW := Lib.hid hw; clear hw
  dsimp only
  go_wp2_with fail
  rw [HW.out]; clear HW hf hc
  have H := H3; have HT := HT2; clear H3 HT2
  -- day
  by_cases h : 8 ≤ l8.length
  case neg =>
    refine (rnum_no 8 (by decide) (by decide) rb l8 v8 _ H.out.rd.1 (by omega)).mono ?_
    rintro e w9 ⟨rfl, rfl⟩
    dsimp only
    go_wp2_with fail
    exact ⟨rfl, DecTold.no H.out (HT.out.trans (dec8_none kind mark who n name host last days (numP_none (by omega)))) (by decide)⟩
  have HP := Lib.hid (numP_some h)
  refine (rnum_ok 8 (by decide) (by decide) rb l8 v8 _ H.out.rd.1 h).mono ?_
  rintro e w10a ⟨rfl, v9, hr, hx, hi⟩
  have hlt := getN_take_lt h
  generalize hgx : getN (l8.take 8) = day at *
  have hdl : (l8.drop 8).length ≤ l8.length := by rw [List.length_drop]; omega
  generalize l8.drop 8 = l9 at *
  have H2 := Lib.hid (H.out.read hx hr hi hdl)
  have HT2 := Lib.hid (HT.out.trans (dec8_some kind mark who n name host last days HP.out))
  skip
  clear hr hx hi hdl h H HT HP hgx hlt
  have hf := H2.out.free 9
  have hc := H2.out.cell 9
  simp only [List.getElem?_toArray, List.getElem?_cons_zero, List.getElem?_cons_succ] at hc
  have H3 := Lib.hid (H2.out.put 9 (.int .i64 (wrap64 ((day : Nat) : Int))))
  clear H2
  simp only [List.setIfInBounds_toArray, List.set_cons_succ, List.set_cons_zero] at H3
  obtain ⟨w10, hw⟩ : ∃ w9, w10a.setCell ⟨cb, 9, none⟩ (.int .i64 (wrap64 ((day : Nat) : Int))) = w9 := ⟨_, rfl⟩
  rw [hw] at H3
  have HW := Lib.hid hw; clear hw
  dsimp only
  go_wp2_with fail
  rw [HW.out]; clear HW hf hc
  have H := H3; have HT := HT2; clear H3 HT2
  -- near
  by_cases h : 8 ≤ l9.length
  case neg =>
    refine (rnum_no 8 (by decide) (by decide) rb l9 v9 _ H.out.rd.1 (by omega)).mono ?_
    rintro e w9 ⟨rfl, rfl⟩
    dsimp only
    go_wp2_with fail
    exact ⟨rfl, DecTold.no H.out (HT.out.trans (dec9_none kind mark who n name host last days day (numP_none (by omega)))) (by decide)⟩
  have HP := Lib.hid (numP_some h)
  refine (rnum_ok 8 (by decide) (by decide) rb l9 v9 _ H.out.rd.1 h).mono ?_
  rintro e w11a ⟨rfl, v10, hr, hx, hi⟩
  have hlt := getN_take_lt h
  generalize hgx : getN (l9.take 8) = near at *
  have hdl : (l9.drop 8).length ≤ l9.length := by rw [List.length_drop]; omega
  generalize l9.drop 8 = l10 at *
  have H2 := Lib.hid (H.out.read hx hr hi hdl)
  have HT2 := Lib.hid (HT.out.trans (dec9_some kind mark who n name host last days day HP.out))
  skip
  clear hr hx hi hdl h H HT HP hgx hlt
  have hf := H2.out.free 10
  have hc := H2.out.cell 10
  simp only [List.getElem?_toArray, List.getElem?_cons_zero, List.getElem?_cons_succ] at hc
  have H3 := Lib.hid (H2.out.put 10 (.int .i64 (wrap64 ((near : Nat) : Int))))
  clear H2
  simp only [List.setIfInBounds_toArray, List.set_cons_succ, List.set_cons_zero] at H3
  obtain ⟨w11, hw⟩ : ∃ w9, w11a.setCell ⟨cb, 10, none⟩ (.int .i64 (wrap64 ((near : Nat) : Int))) = w9 := ⟨_, rfl⟩
  rw [hw] at H3
  have HW := Lib.hid hw; clear hw
  dsimp only
  go_wp2_with fail
  rw [HW.out]; clear HW hf hc
  have H := H3; have HT := HT2; clear H3 HT2
  -- tag
  cases hp : bytesP 120 l10 with
  | none =>
    refine (rtext_no 120 (by decide) rb l10 v10 _ H.out.rd.1 H.out.rd.len hp).mono ?_
    rintro e w9 ⟨n9, rfl, hn9, hx⟩
    have hh := HT.out.trans (dec10_none kind mark who n name host last days day near hp)
    have HE := Lib.hid (H.out.ext.trans hx (fun _ _ s => s) (fun _ _ s => .inl s)); have HBX := Lib.hid (H.out.box.ext hx H.out.ne)
    clear hp
    dsimp only
    go_wp2_with fail
    exact ⟨rfl, HE.out, .inr ⟨hh, ⟨_, HBX.out⟩, n9, rfl, hn9⟩⟩
  | some xr =>
  obtain ⟨tag, l11⟩ := xr
  have hdl : l11.length ≤ l10.length := by have := bytesP_len hp; omega
  refine (rtext_ok 120 (by decide) rb l10 tag l11 v10 _ H.out.rd.1 hp).mono ?_
  rintro e w12a ⟨rfl, v11, hr, hx, hi⟩
  have H2 := Lib.hid (H.out.read hx hr hi hdl)
  have HT2 := Lib.hid (HT.out.trans (dec10_some kind mark who n name host last days day near hp))
  clear hr hx hi hdl hp H HT
  have hf := H2.out.free 11
  have hc := H2.out.cell 11
  simp only [List.getElem?_toArray, List.getElem?_cons_zero, List.getElem?_cons_succ] at hc
  have H3 := Lib.hid (H2.out.put 11 (.string (strB tag)))
  clear H2
  simp only [List.setIfInBounds_toArray, List.set_cons_succ, List.set_cons_zero] at H3
  obtain ⟨w12, hw⟩ : ∃ w9, w12a.setCell ⟨cb, 11, none⟩ (.string (strB tag)) = w9 := ⟨_, rfl⟩
  rw [hw] at H3
  have HW := Lib.hid hw; clear hw
  dsimp only
  go_wp2_with fail
  rw [HW.out]; clear HW hf hc
  have H := H3; have HT := HT2; clear H3 HT2
  -- many
  by_cases h : 4 ≤ l11.length
  case neg =>
    refine (rnum_no 4 (by decide) (by decide) rb l11 v11 _ H.out.rd.1 (by omega)).mono ?_
    rintro e w9 ⟨rfl, rfl⟩
    dsimp only
    go_wp2_with fail
    exact ⟨rfl, DecTold.no H.out (HT.out.trans (dec11_none kind mark who n name host last days day near tag (numP_none (by omega)))) (by decide)⟩
  have HP := Lib.hid (numP_some h)
  refine (rnum_ok 4 (by decide) (by decide) rb l11 v11 _ H.out.rd.1 h).mono ?_
  rintro e w13a ⟨rfl, v12, hr, hx, hi⟩
  have hlt := getN_take_lt h
  generalize hgx : getN (l11.take 4) = many at *
  have hdl : (l11.drop 4).length ≤ l11.length := by rw [List.length_drop]; omega
  generalize l11.drop 4 = l12 at *
  have H2 := Lib.hid (H.out.read hx hr hi hdl)
  have HT2 := Lib.hid (HT.out.trans (dec11_some kind mark who n name host last days day near tag HP.out))
  have HMB := Lib.hid hlt
  clear hr hx hi hdl h H HT HP hgx hlt
  dsimp only
  go_wp2_with fail
  have H := H2; have HT := HT2; clear H2 HT2
  have hmb : many ≤ 18446744073709551615 := by have := HMB.out; omega
  have HT0 := Lib.hid (HT.out); clear HT
  have hlen := H.out.len
  have HLEN := Lib.hid hlen; clear hlen
  go_loopw [49] (fun i wr => ∃ (k : Nat) (bits : List Bool) (rk : List UInt8) (vk vb : Value), i = .int .u64 k ∧ k ≤ many ∧ DecS w1 wr rb cb B #[.int .i64 (wrap64 ((kind : Nat) : Int)), .int .i64 (wrap64 ((n : Nat) : Int)), .int .u64 (who : Nat), .bool mark, .string (strB name), .string (strB host), .slice none 0 0, .int .i64 (wrap64 ((last : Nat) : Int)), .int .i64 (wrap64 ((days : Nat) : Int)), .int .i64 (wrap64 ((day : Nat) : Int)), .int .i64 (wrap64 ((near : Nat) : Int)), .string (strB tag), vb] rk vk ∧ wr.ownsRow w1.heap.size 4 1 vb k (bits.map .bool) ∧ bits.length = k ∧ k + rk.length ≤ l12.length ∧
    bitsP many l12 = (bitsP (many - k) rk).map (fun z => (bits ++ z.1, z.2))) (fun i _ => many - (intOf i).toNat)
  case atStart =>
    refine ⟨0, [], l12, v12, .slice none 0 0, rfl, by omega, H.out, World.ownsRow_nil _ _ _ _, rfl, by omega, ?_⟩
    rw [Nat.sub_zero]
    cases bitsP many l12 <;> rfl
  case round =>
    obtain ⟨k, bits, rk, vk, vb, rfl, hk, hd, hown, hbl, hkl, hbp⟩ := hrel
    obtain ⟨ab, cbc, rfl⟩ := own_form hown
    have HD := Lib.hid hd; have HO := Lib.hid hown; have HBL := Lib.hid hbl; have HKL := Lib.hid hkl; have HBP := Lib.hid hbp
    clear hd hown hbl hkl hbp
    by_cases hlt : k < many
    · obtain ⟨m, hm1⟩ : ∃ m, many - k = m + 1 := ⟨many - k - 1, by omega⟩
      have hbp := HBP.out
      rw [hm1, bitsP_succ] at hbp
      have hD := HD.out.drew
      have hc0 := HD.out.cell 12; have hf0 := HD.out.free 12
      simp only [List.getElem?_toArray, List.getElem?_cons_zero, List.getElem?_cons_succ] at hc0
      cases hp : isP rk with
      | none =>
        simp only [hp, Option.map_none] at hbp
        have hdn : dec0 l0 = none := HT0.out.trans (by unfold dec12; rw [hbp]; rfl)
        have HDN := Lib.hid hdn; have HP := Lib.hid hp; have HDD := Lib.hid hD
        clear hdn hp hbp hD
        go_wp2_with fail
        go_region_dies
        all_goals
          refine (is_no rb rk vk _ HDD.out.rd.1 HP.out).mono ?_
          rintro e w9 ⟨n9, rfl, hn9, hx⟩
          exact ⟨rfl, HDD.out.ext.trans hx (fun _ _ s => s) (fun _ _ s => .inl s), .inr ⟨HDN.out, ⟨_, HDD.out.box.ext hx HDD.out.ne⟩, n9, rfl, hn9⟩⟩
      | some tr =>
        obtain ⟨t, r⟩ := tr
        simp only [hp] at hbp
        have hrl : 1 + r.length = rk.length := isP_len hp
        have HBP2 := Lib.hid hbp; have HP := Lib.hid hp; have HDD := Lib.hid hD; have HRL := Lib.hid hrl
        have HOD := Lib.hid (own_ext HO.out (Ext.drewN_self No wr 1) (fun _ _ s => s) : (wr.drew).ownsRow w1.heap.size 4 1 (.slice ab k cbc) k (bits.map .bool))
        have HKM := Lib.hid (show k + 1 ≤ 9223372036854775807 ∧ (k + 1) * 1 ≤ 140737488355328 by have := HLEN.out; have := HKL.out; omega)
        clear hbp hp hD hrl
        go_wp2_with fail
        have HB1 := Lib.hid (show w1.heap.size ≤ wr.drew.heap.size from HD.out.ext.size)
        go_region_law (first
          | (go_simp; go_at_call 51; refine (is_ok rb rk r t vk wr.drew HDD.out.rd.1 HP.out).mono ?_; rintro e w2 ⟨rfl, v2, hr2, hx2, hi2⟩; have hd2 := HDD.out.read hx2 hr2 hi2 (Nat.le_of_lt (Nat.lt_of_lt_of_eq (Nat.lt_add_of_pos_left Nat.one_pos) HRL.out)); have HO2 := Lib.hid (own_ext HOD.out hx2 (fun j hj s => own_ne_type HOD.out HDD.out.rd.1.box (by decide) (s ▸ hj))); have HD2 := Lib.hid hd2; have hc2 := hd2.cell 12; have hf2 := hd2.free 12; have hca2 := (hd2.box.alloc (.cells #[.bool t] 4)).cell 12; simp only [List.getElem?_toArray, List.getElem?_cons_zero, List.getElem?_cons_succ] at hc2 hca2; have HB2 := Lib.hid (Nat.le_trans HB1.out hx2.size); clear hr2 hx2 hi2 hd2)
          | (refine step_app1 _ _ rfl _ _ 26 rfl w1.heap.size 4 _ _ bool_info Try.underlying26 rfl _ _ _ rfl (HO2.out.alloc _) _ rfl (cell_new _ _ _ rfl) rfl HKM.out.1 HKM.out.2 (le_alloc HB2.out _) ?_; intro v' w7 hown7 hg7; obtain ⟨a7, c7, rfl⟩ := own_form hown7; have hb7 := (HD2.out.box.alloc _).grown hg7 (own_ne_type HO2.out HD2.out.box (by decide)); have hc7 := hb7.cell 12; have hf7 := hb7.free 12; simp only [List.getElem?_toArray, List.getElem?_cons_zero, List.getElem?_cons_succ] at hc7; have HO7 := Lib.hid hown7; have HG7 := Lib.hid hg7; clear hown7 hg7 hb7))
        all_goals
          have hx7 : Ext (fun j => (Value.slice ab k cbc).ownBlock = some j) w2 w7 := ((Ext.refl _ w2).alloc _).grown HG7.out (fun j hj _ => hj)
          have hd7 := HD2.out.more hx7 (fun j cs T hb hT s => by
            obtain ⟨cs', hb'⟩ := own_blkN HO2.out s
            rcases hT with rfl | rfl | rfl
            · exact Blk.ne_type hb hb' (by decide) rfl
            · exact Blk.ne_type hb hb' (by decide) rfl
            · exact Blk.ne_type hb hb' (by decide) rfl) (fun j hj s => by have := (World.ownsRow.lt HO2.out j s).1; omega)
          have HD9 := Lib.hid (hd7.put 12 (.slice a7 (k + 1) c7))
          simp only [List.setIfInBounds_toArray, List.set_cons_succ, List.set_cons_zero] at HD9
          have HO9 := Lib.hid (own_ext HO7.out ((Ext.refl (fun j => j = cb) w7).setCell ⟨cb, 12, none⟩ (.slice a7 (k + 1) c7) (fun _ => rfl)) (fun j hj s => own_ne_type HO7.out hd7.box (by decide) (s ▸ hj)))
          clear hx7 hd7 hc7 hf7
          go_wp2_with fail
          go_roundw
          case rel =>
            refine ⟨k + 1, bits ++ [t], r, v2, _, by go_num, by omega, HD9.out, ?_, by rw [List.length_append, HBL.out]; rfl, by have := HKL.out; have := HRL.out; omega, ?_⟩
            · rw [List.map_append]; exact HO9.out
            · rw [HBP2.out, show many - (k + 1) = m by omega]
              cases bitsP m r <;> simp
          case measure => simp [intOf]; omega
    · have hkm : k = many := by omega
      subst hkm
      rw [Nat.sub_self] at HBP
      have hbp := HBP.out
      simp only [bitsP_zero, Option.map_some, List.append_nil] at hbp
      have hft : dec0 l0 = decFin kind mark who n name host last days day near tag bits rk := HT0.out.trans (by unfold dec12; rw [hbp]; rfl)
      have HFT := Lib.hid hft; clear hft hbp
      go_wp2_with fail
      refine (get_any 65536 (by decide) rb B rk vk wr HD.out.rd (Nat.le_trans HB.out HD.out.ext.size) HD.out.len).mono ?_
      rintro e w2 ⟨hx2, ht2⟩
      rcases ht2 with ⟨fs, r, v2, x, hgp, rfl, hr2, hi2, hf2⟩ | ⟨hgp, n9, rfl, hn9⟩
      case inr =>
        have HDN := Lib.hid (show dec0 l0 = none from HFT.out.trans (by unfold decFin; rw [hgp]; rfl)); have HX2 := Lib.hid hx2
        clear hgp hx2
        dsimp only
        go_wp2_with fail
        exact ⟨rfl, HD.out.ext.trans HX2.out (fun _ _ s => s) (fun _ _ s => .inl s), .inr ⟨HDN.out, ⟨_, HD.out.box.ext HX2.out HD.out.ne⟩, n9, rfl, hn9⟩⟩
      obtain ⟨ax, nx, cx, hxf⟩ : ∃ a n c, x = .slice a n c := by obtain ⟨a, c, h⟩ := OwnSeq.len hf2; exact ⟨a, _, c, h⟩
      have hrl : r.length ≤ rk.length := getP_len hgp
      have hd2 := HD.out.read hx2 hr2 hi2 hrl
      have hfc := hd2.free 6; have hcc := hd2.cell 6
      simp only [List.getElem?_toArray, List.getElem?_cons_zero, List.getElem?_cons_succ] at hcc
      have hd3 := hd2.put 6 x
      simp only [List.setIfInBounds_toArray, List.set_cons_succ, List.set_cons_zero] at hd3
      have ho2 := own_ext HO.out hx2 (fun j hj s => own_ne_type HO.out HD.out.rd.1.box (by decide) (s ▸ hj))
      obtain ⟨w3, hw3⟩ : ∃ w3, w2.setCell ⟨cb, 6, none⟩ x = w3 := ⟨_, rfl⟩
      have hx3 : Ext (fun j => j = cb) w2 w3 := by rw [← hw3]; exact (Ext.refl (fun j => j = cb) w2).setCell _ _ (fun _ => rfl)
      rw [hw3] at hd3
      have ho3 := own_ext ho2 hx3 (fun j hj s => own_ne_type ho2 hd2.box (by decide) (s ▸ hj))
      have hf3 : NewF w3 B fs x := NewF.ext hf2 hx3 (fun j cs T _ hb hT s => by
        subst s
        rcases hT with rfl | rfl
        · exact Blk.ne_type hb hd2.box (by decide) rfl
        · exact Blk.ne_type hb hd2.box (by decide) rfl)
      have hcs : w3.cell? ⟨cb, 0, none⟩ = _ ∧ w3.cell? ⟨cb, 1, none⟩ = _ ∧ w3.cell? ⟨cb, 2, none⟩ = _ ∧ w3.cell? ⟨cb, 3, none⟩ = _ ∧ w3.cell? ⟨cb, 4, none⟩ = _ ∧ w3.cell? ⟨cb, 5, none⟩ = _ ∧ w3.cell? ⟨cb, 6, none⟩ = _ ∧ w3.cell? ⟨cb, 7, none⟩ = _ ∧ w3.cell? ⟨cb, 8, none⟩ = _ ∧ w3.cell? ⟨cb, 9, none⟩ = _ ∧ w3.cell? ⟨cb, 10, none⟩ = _ ∧ w3.cell? ⟨cb, 11, none⟩ = _ ∧ w3.cell? ⟨cb, 12, none⟩ = _ :=
        ⟨hd3.cell 0, hd3.cell 1, hd3.cell 2, hd3.cell 3, hd3.cell 4, hd3.cell 5, hd3.cell 6, hd3.cell 7, hd3.cell 8, hd3.cell 9, hd3.cell 10, hd3.cell 11, hd3.cell 12⟩
      simp only [List.getElem?_toArray, List.getElem?_cons_zero, List.getElem?_cons_succ] at hcs
      obtain ⟨hc0, hc1, hc2, hc3, hc4, hc5, hc6, hc7, hc8, hc9, hc10, hc11, hc12⟩ := hcs
      have hbo : IsBools w3 bits (.slice ab k cbc) := by
        have h := IsRow.of_own ho3
        have hbl := HBL.out
        subst hbl
        exact h.congr (fun i hi => by unfold boolV; simp [List.getD_eq_getElem?_getD, hi])
      have hck := check_dec kind mark who n name host last days day near tag bits fs x (.slice ab k cbc) w3 hf3.files hbo
      have hfin := HFT.out.trans (decFin_some kind mark who n name host last days day near tag bits hgp)
      generalize hgk : checkN (decCmd kind mark who n name host last days day near tag bits fs) = ck at hck
      rw [decGo_eq hgk] at hfin
      have HCK := Lib.hid hck; have HFIN := Lib.hid hfin; have HF3 := Lib.hid hf3; have HO3 := Lib.hid ho3; have HD3 := Lib.hid hd3
      subst hxf; subst hw3
      clear hck hfin hf3 ho3 hd3 hd2 ho2 hf2 hgp hx2 hr2 hi2 hrl hx3 hbo hgk
      dsimp only
      go_wp2_with fail
      refine HCK.out.mono ?_
      rintro e w4 ⟨hct, hx4⟩
      have HB4 := Lib.hid (HD3.out.box.ext hx4 (fun s => s)); have HX4 := Lib.hid (HD3.out.ext.trans hx4 (fun _ _ s => s) (fun _ _ s => s.elim))
      have HR4 := Lib.hid (HD3.out.rd.ext hx4 (fun _ _ _ _ _ s => s))
      have HF4 := Lib.hid (NewF.ext HF3.out hx4 (fun _ _ _ _ _ _ s => s)); have HO4 := Lib.hid (own_ext HO3.out hx4 (fun _ _ s => s))
      clear hx4 hfc hcc hc0 hc1 hc2 hc3 hc4 hc5 hc6 hc7 hc8 hc9 hc10 hc11 hc12
      rcases hct with ⟨rfl, rfl⟩ | ⟨hn0, rfl⟩
      · have HFI := Lib.hid (HFIN.out.trans (if_pos rfl)); clear HFIN
        dsimp only
        go_wp2_with fail
        go_end0
        exact ⟨HX4.out, .inl ⟨_, r, v2, HFI.out, rfl, HR4.out.1, _, .slice ab k cbc, by rw [cells_dec]; exact HB4.out, HF4.out, by
          show w4.ownsRow B _ 1 (.slice ab k cbc) bits.length (bits.map .bool)
          rw [HBL.out]
          exact own_le HO4.out HB.out⟩⟩
      · have HFI := Lib.hid (HFIN.out.trans (if_neg hn0)); clear HFIN
        dsimp only
        go_wp2_with fail
        exact ⟨rfl, HX4.out, .inr ⟨HFI.out, ⟨_, HB4.out⟩, ck, rfl, hn0⟩⟩
end Go.Proofs.Ytchejnnfbinclaa
end

section
/- The contract of script.Decode. -/
namespace Go.Proofs.Ytchejnnfbinclaa
open Go.RowKit Go.My

def decodeC (l : List UInt8) : Option CmdI :=
  match dec0 l with
  | some (c, []) => some c
  | _ => none
theorem DecR.ext {cb B : Nat} {c : CmdI} {A A' : World} {S : Nat → Prop} (h : DecR cb B c A) (hx : Ext S A A') (hs : ∀ j cs T, Blk A j cs T → T = 5 ∨ T = 76 ∨ T = 4 ∨ T = 28 → ¬ S j) : DecR cb B c A' := by
  obtain ⟨vf, vb, h1, h2, h3⟩ := h
  refine ⟨vf, vb, h1.ext hx (hs _ _ _ h1 (.inr (.inr (.inr rfl)))), NewF.ext h2 hx (fun j cs T _ hb hT => hs j cs T hb (by rcases hT with e | e; exact .inl e; exact .inr (.inl e))), own_ext h3 hx (fun j hj s => ?_)⟩
  obtain ⟨cs, hb⟩ := own_blkN h3 hj
  exact hs _ _ _ hb (.inr (.inr (.inl rfl))) s
/-- the command that was decoded, or the error -/
def DecodeTold (l : List UInt8) (w : World) (e : Ending) (w' : World) : Prop :=
  Ext No w w' ∧ ((∃ c vf vb, decodeC l = some c ∧ e = .returned (.tuple #[cmdVal c vf vb, .int .i64 0]) ∧ NewF w' w.heap.size c.files vf ∧ w'.ownsRow w.heap.size 4 1 vb c.bits.length (c.bits.map .bool)) ∨
    (decodeC l = none ∧ e = .returned (.tuple #[.agg zeroCells, .int .i64 39])))

set_option maxRecDepth 100000 in
set_option maxHeartbeats 4000000 in
theorem decode29_any (l : List UInt8) (a : Option Addr) (m c : Nat) (w : World) (hv : IsBytes w l (.slice a m c)) (hl : l.length ≤ 1099511627776) :
    Calls Try.prog 17 #[.slice a m c] w (DecodeTold l w) := by
  have hmf := mkf
  obtain ⟨w0, hw0⟩ : ∃ w0, lay w [(zeroCells, 28), (zeroCells, 28)] = w0 := ⟨_, rfl⟩
  have hx0 : Ext No w w0 := by rw [← hw0]; exact lay_ext _ (Ext.refl _ _)
  have hsz : w0.heap.size = w.heap.size + 2 := by rw [← hw0]; exact lay_size _ w
  have hb0 := lay_at hw0 1 _ _ rfl
  have hr0 := lay_at hw0 0 _ _ rfl
  rw [Nat.add_zero] at hr0
  obtain ⟨cb, hcb⟩ : ∃ cb, w.heap.size + 1 = cb := ⟨_, rfl⟩
  rw [hcb] at hb0
  have hrd : Reads 49 #[.pointer (some ⟨cb, 0, none⟩)] (fun j => j = cb) l dec0 (DecR cb w0.heap.size) (DecX cb) w0 := by
    intro rb v w1 hx hrb hr hv
    have hb1 := hb0.ext hx (fun s => s)
    refine (decode29_1 rb cb w0.heap.size l v w1 ⟨⟨hr, hv⟩, hb1, Ext.refl _ _, hl⟩ hx.size).mono ?_
    rintro e w2 ⟨hx2, h⟩
    exact ⟨hx2, h⟩
  have hRx : ∀ a A, DecR cb w0.heap.size a A → DecX cb A := fun a A ⟨vf, vb, h1, _⟩ => ⟨_, h1⟩
  have hRxE : ∀ A B, DecX cb A → ErrExt A B → DecX cb B := fun A B ⟨cs, h1⟩ hE => ⟨cs, h1.ext hE (fun ⟨cs', hb⟩ => Blk.ne_type h1 hb (by decide) rfl)⟩
  have hR : ∀ a A B, DecR cb w0.heap.size a A → ErrExt A B → DecR cb w0.heap.size a B := fun a A B h hE => h.ext hE (fun j cs T hb hT ⟨cs', hb'⟩ => by
    rcases hT with rfl | rfl | rfl | rfl
    · exact Blk.ne_type hb hb' (by decide) rfl
    · exact Blk.ne_type hb hb' (by decide) rfl
    · exact Blk.ne_type hb hb' (by decide) rfl
    · exact Blk.ne_type hb hb' (by decide) rfl)
  have hd := decode_any 49 #[.pointer (some ⟨cb, 0, none⟩)] (fun j => j = cb) l dec0 (DecR cb w0.heap.size) (DecX cb) hRx hRxE a m c w0 (fun args w => by kernel_rfl) hrd (fun j hj => by omega) (hv.ext0 hx0) hl hR
  unfold zeroCells at hw0 hr0
  simp only [lay] at hw0
  obtain ⟨db, hdb⟩ : ∃ db, w.heap.size = db := ⟨_, rfl⟩
  rw [hdb] at hr0
  have HD := Lib.hid hd; have HX0 := Lib.hid hx0; have HW0 := Lib.hid hw0; have HSZ := Lib.hid hsz; have HCB := Lib.hid hcb; have HR0 := Lib.hid hr0; have HDB := Lib.hid hdb
  clear hd hR hRxE hRx hrd hb0 hx0 hw0 hsz hv hl hcb hr0 hdb
  go_enter Try.func17, Try.ntmps17
  go_wp2_with fail
  rw [HW0.out, HCB.out, HDB.out]; clear HW0
  refine HD.out.mono ?_
  clear HD
  rintro e w1 ⟨n, rfl, ht, hx1⟩
  have HX1 := Lib.hid (HX0.out.trans hx1 (fun _ _ s => s) (fun j hj s => by have := HCB.out; omega))
  have hr1 := HR0.out.ext hx1 (by have := HCB.out; have := HDB.out; omega)
  have HR1 := Lib.hid hr1
  have hcf : w1.frozen? ⟨db, 0, none⟩ = false ∧ w1.frozen? ⟨db, 1, none⟩ = false ∧ w1.frozen? ⟨db, 2, none⟩ = false ∧ w1.frozen? ⟨db, 3, none⟩ = false ∧ w1.frozen? ⟨db, 4, none⟩ = false ∧ w1.frozen? ⟨db, 5, none⟩ = false ∧ w1.frozen? ⟨db, 6, none⟩ = false ∧ w1.frozen? ⟨db, 7, none⟩ = false ∧ w1.frozen? ⟨db, 8, none⟩ = false ∧ w1.frozen? ⟨db, 9, none⟩ = false ∧ w1.frozen? ⟨db, 10, none⟩ = false ∧ w1.frozen? ⟨db, 11, none⟩ = false ∧ w1.frozen? ⟨db, 12, none⟩ = false :=
    ⟨hr1.free 0, hr1.free 1, hr1.free 2, hr1.free 3, hr1.free 4, hr1.free 5, hr1.free 6, hr1.free 7, hr1.free 8, hr1.free 9, hr1.free 10, hr1.free 11, hr1.free 12⟩
  have hcd : w1.cell? ⟨db, 0, none⟩ = _ ∧ w1.cell? ⟨db, 1, none⟩ = _ ∧ w1.cell? ⟨db, 2, none⟩ = _ ∧ w1.cell? ⟨db, 3, none⟩ = _ ∧ w1.cell? ⟨db, 4, none⟩ = _ ∧ w1.cell? ⟨db, 5, none⟩ = _ ∧ w1.cell? ⟨db, 6, none⟩ = _ ∧ w1.cell? ⟨db, 7, none⟩ = _ ∧ w1.cell? ⟨db, 8, none⟩ = _ ∧ w1.cell? ⟨db, 9, none⟩ = _ ∧ w1.cell? ⟨db, 10, none⟩ = _ ∧ w1.cell? ⟨db, 11, none⟩ = _ ∧ w1.cell? ⟨db, 12, none⟩ = _ :=
    ⟨hr1.cell 0, hr1.cell 1, hr1.cell 2, hr1.cell 3, hr1.cell 4, hr1.cell 5, hr1.cell 6, hr1.cell 7, hr1.cell 8, hr1.cell 9, hr1.cell 10, hr1.cell 11, hr1.cell 12⟩
  simp only [List.getElem?_toArray, List.getElem?_cons_zero, List.getElem?_cons_succ] at hcd
  obtain ⟨hf0, hf1, hf2, hf3, hf4, hf5, hf6, hf7, hf8, hf9, hf10, hf11, hf12⟩ := hcf
  obtain ⟨hd0, hd1, hd2, hd3, hd4, hd5, hd6, hd7, hd8, hd9, hd10, hd11, hd12⟩ := hcd
  clear hx1 hr1
  rcases ht with ⟨rfl, cc, hp, vf, vb, h1, h2, h3⟩ | ⟨hn0, hp, cs, h1⟩
  · have hdc : decodeC l = some cc := by unfold decodeC; rw [hp]
    obtain ⟨kind, n, who, flag, name, host, files, last, days, day, within, tag, bits⟩ := cc
    rw [cells_flat] at h1
    obtain ⟨af, nf, cf, rfl⟩ : ∃ a n c, vf = .slice a n c := by obtain ⟨a, c, h⟩ := OwnSeq.len h2; exact ⟨a, _, c, h⟩
    obtain ⟨ab, nb, cbb, rfl⟩ : ∃ a n c, vb = .slice a n c := by obtain ⟨a, c, h⟩ := own_form h3; exact ⟨a, _, c, h⟩
    have hcs : w1.cell? ⟨cb, 0, none⟩ = _ ∧ w1.cell? ⟨cb, 1, none⟩ = _ ∧ w1.cell? ⟨cb, 2, none⟩ = _ ∧ w1.cell? ⟨cb, 3, none⟩ = _ ∧ w1.cell? ⟨cb, 4, none⟩ = _ ∧ w1.cell? ⟨cb, 5, none⟩ = _ ∧ w1.cell? ⟨cb, 6, none⟩ = _ ∧ w1.cell? ⟨cb, 7, none⟩ = _ ∧ w1.cell? ⟨cb, 8, none⟩ = _ ∧ w1.cell? ⟨cb, 9, none⟩ = _ ∧ w1.cell? ⟨cb, 10, none⟩ = _ ∧ w1.cell? ⟨cb, 11, none⟩ = _ ∧ w1.cell? ⟨cb, 12, none⟩ = _ :=
        ⟨h1.cell 0, h1.cell 1, h1.cell 2, h1.cell 3, h1.cell 4, h1.cell 5, h1.cell 6, h1.cell 7, h1.cell 8, h1.cell 9, h1.cell 10, h1.cell 11, h1.cell 12⟩
    simp only [List.getElem?_toArray, List.getElem?_cons_zero, List.getElem?_cons_succ] at hcs
    obtain ⟨hc0, hc1, hc2, hc3, hc4, hc5, hc6, hc7, hc8, hc9, hc10, hc11, hc12⟩ := hcs
    have HDC := Lib.hid hdc
    have HF := Lib.hid (show NewF w1 w.heap.size files (.slice af nf cf) by
      obtain ⟨us, o1, o2⟩ := h2
      exact ⟨us, own_le o1 (by have := HSZ.out; omega), fun i x hx => by
        obtain ⟨y, e, hy1, hy2, hy3⟩ := o2 i x hx
        exact ⟨y, e, hy1, fun j hj => ⟨by have := (hy2 j hj).1; have := HSZ.out; omega, (hy2 j hj).2⟩, hy3⟩⟩)
    have HB := Lib.hid (own_le h3 (by have := HSZ.out; omega) : w1.ownsRow w.heap.size _ 1 (.slice ab nb cbb) _ _)
    clear h1 h2 h3 hp hdc
    dsimp only
    go_wp2_with fail
    obtain ⟨w2, hw2⟩ : ∃ w2, putAll w1 db 0 [.int .i64 kind, .int .i64 n, .int .u64 (who : Nat), .bool flag, .string (strB name), .string (strB host), .slice af nf cf, .int .i64 last, .int .i64 days, .int .i64 day, .int .i64 within, .string (strB tag), .slice ab nb cbb] = w2 := ⟨_, rfl⟩
    have hx2 := putAll_ext db [.int .i64 kind, .int .i64 n, .int .u64 (who : Nat), .bool flag, .string (strB name), .string (strB host), .slice af nf cf, .int .i64 last, .int .i64 days, .int .i64 day, .int .i64 within, .string (strB tag), .slice ab nb cbb] w1 0
    have hb2 := putAll_all HR1.out [.int .i64 kind, .int .i64 n, .int .u64 (who : Nat), .bool flag, .string (strB name), .string (strB host), .slice af nf cf, .int .i64 last, .int .i64 days, .int .i64 day, .int .i64 within, .string (strB tag), .slice ab nb cbb] rfl
    rw [hw2] at hx2 hb2
    simp only [putAll] at hw2
    rw [hw2]
    clear hw2 hc0 hc1 hc2 hc3 hc4 hc5 hc6 hc7 hc8 hc9 hc10 hc11 hc12 hf0 hf1 hf2 hf3 hf4 hf5 hf6 hf7 hf8 hf9 hf10 hf11 hf12 hd0 hd1 hd2 hd3 hd4 hd5 hd6 hd7 hd8 hd9 hd10 hd11 hd12
    have hcs : w2.cell? ⟨db, 0, none⟩ = _ ∧ w2.cell? ⟨db, 1, none⟩ = _ ∧ w2.cell? ⟨db, 2, none⟩ = _ ∧ w2.cell? ⟨db, 3, none⟩ = _ ∧ w2.cell? ⟨db, 4, none⟩ = _ ∧ w2.cell? ⟨db, 5, none⟩ = _ ∧ w2.cell? ⟨db, 6, none⟩ = _ ∧ w2.cell? ⟨db, 7, none⟩ = _ ∧ w2.cell? ⟨db, 8, none⟩ = _ ∧ w2.cell? ⟨db, 9, none⟩ = _ ∧ w2.cell? ⟨db, 10, none⟩ = _ ∧ w2.cell? ⟨db, 11, none⟩ = _ ∧ w2.cell? ⟨db, 12, none⟩ = _ :=
        ⟨hb2.cell 0, hb2.cell 1, hb2.cell 2, hb2.cell 3, hb2.cell 4, hb2.cell 5, hb2.cell 6, hb2.cell 7, hb2.cell 8, hb2.cell 9, hb2.cell 10, hb2.cell 11, hb2.cell 12⟩
    simp only [List.getElem?_toArray, List.getElem?_cons_zero, List.getElem?_cons_succ] at hcs
    obtain ⟨hc0, hc1, hc2, hc3, hc4, hc5, hc6, hc7, hc8, hc9, hc10, hc11, hc12⟩ := hcs
    refine bodyPost_ret (v := .tuple #[.agg #[.int .i64 kind, .int .i64 n, .int .u64 (who : Nat), .bool flag, .string (strB name), .string (strB host), .slice af nf cf, .int .i64 last, .int .i64 days, .int .i64 day, .int .i64 within, .string (strB tag), .slice ab nb cbb], .int .i64 0]) (by simp [results, Try.results17, go_sem, hc0, hc1, hc2, hc3, hc4, hc5, hc6, hc7, hc8, hc9, hc10, hc11, hc12]) rfl ?_
    refine ⟨HX1.out.trans hx2 (fun _ _ s => s) (fun j hj s => by have := HDB.out; omega), .inl ⟨_, _, _, HDC.out, rfl, NewF.ext HF.out hx2 (fun j cs T _ hb hT s => ?_), own_ext HB.out hx2 (fun j hj s => own_ne_type HB.out HR1.out (by decide) (s ▸ hj))⟩⟩
    subst s
    rcases hT with rfl | rfl
    · exact Blk.ne_type hb HR1.out (by decide) rfl
    · exact Blk.ne_type hb HR1.out (by decide) rfl
  · have hdc : decodeC l = none := by
      unfold decodeC
      split
      · rename_i c' h; exact absurd h (hp c')
      · rfl
    have hnn : (n == 0) = false := by simpa using hn0
    have hnn' : ¬ n = 0 := hn0
    have HDC := Lib.hid hdc
    clear hdc hp h1
    dsimp only
    go_wp2_with fail
    obtain ⟨w2, hw2⟩ : ∃ w2, putAll w1 db 0 [.int .i64 0, .int .i64 0, .int .u64 0, .bool false, .string ⟨#[]⟩, .string ⟨#[]⟩, .slice none 0 0, .int .i64 0, .int .i64 0, .int .i64 0, .int .i64 0, .string ⟨#[]⟩, .slice none 0 0] = w2 := ⟨_, rfl⟩
    have hx2 := putAll_ext db [.int .i64 0, .int .i64 0, .int .u64 0, .bool false, .string ⟨#[]⟩, .string ⟨#[]⟩, .slice none 0 0, .int .i64 0, .int .i64 0, .int .i64 0, .int .i64 0, .string ⟨#[]⟩, .slice none 0 0] w1 0
    have hb2 := putAll_all HR1.out [.int .i64 0, .int .i64 0, .int .u64 0, .bool false, .string ⟨#[]⟩, .string ⟨#[]⟩, .slice none 0 0, .int .i64 0, .int .i64 0, .int .i64 0, .int .i64 0, .string ⟨#[]⟩, .slice none 0 0] rfl
    rw [hw2] at hx2 hb2
    simp only [putAll] at hw2
    rw [hw2]
    clear hw2 hf0 hf1 hf2 hf3 hf4 hf5 hf6 hf7 hf8 hf9 hf10 hf11 hf12 hd0 hd1 hd2 hd3 hd4 hd5 hd6 hd7 hd8 hd9 hd10 hd11 hd12
    have hcs : w2.cell? ⟨db, 0, none⟩ = _ ∧ w2.cell? ⟨db, 1, none⟩ = _ ∧ w2.cell? ⟨db, 2, none⟩ = _ ∧ w2.cell? ⟨db, 3, none⟩ = _ ∧ w2.cell? ⟨db, 4, none⟩ = _ ∧ w2.cell? ⟨db, 5, none⟩ = _ ∧ w2.cell? ⟨db, 6, none⟩ = _ ∧ w2.cell? ⟨db, 7, none⟩ = _ ∧ w2.cell? ⟨db, 8, none⟩ = _ ∧ w2.cell? ⟨db, 9, none⟩ = _ ∧ w2.cell? ⟨db, 10, none⟩ = _ ∧ w2.cell? ⟨db, 11, none⟩ = _ ∧ w2.cell? ⟨db, 12, none⟩ = _ :=
        ⟨hb2.cell 0, hb2.cell 1, hb2.cell 2, hb2.cell 3, hb2.cell 4, hb2.cell 5, hb2.cell 6, hb2.cell 7, hb2.cell 8, hb2.cell 9, hb2.cell 10, hb2.cell 11, hb2.cell 12⟩
    simp only [List.getElem?_toArray, List.getElem?_cons_zero, List.getElem?_cons_succ] at hcs
    obtain ⟨hc0, hc1, hc2, hc3, hc4, hc5, hc6, hc7, hc8, hc9, hc10, hc11, hc12⟩ := hcs
    refine bodyPost_ret (v := .tuple #[.agg #[.int .i64 0, .int .i64 0, .int .u64 0, .bool false, .string ⟨#[]⟩, .string ⟨#[]⟩, .slice none 0 0, .int .i64 0, .int .i64 0, .int .i64 0, .int .i64 0, .string ⟨#[]⟩, .slice none 0 0], .int .i64 39]) (by simp [results, Try.results17, go_sem, hc0, hc1, hc2, hc3, hc4, hc5, hc6, hc7, hc8, hc9, hc10, hc11, hc12]) rfl ?_
    exact ⟨HX1.out.trans hx2 (fun _ _ s => s) (fun j hj s => by have := HDB.out; omega), .inr ⟨HDC.out, rfl⟩⟩

end Go.Proofs.Ytchejnnfbinclaa
end

section
/- Answers as values; the contract of script.Reply. Printed by wip/mkreply.py. -/
namespace Go.Proofs.Ytchejnnfbinclaa
open Go.RowKit Go.My

structure AnsI where
  code : Int
  names : List (List UInt8)
  files : List FileL
  done : Bool
  n : Int
def ansVal (a : AnsI) (vn vf : Value) : Value := .agg #[.int .i64 a.code, vn, vf, .bool a.done, .int .i64 a.n]
def strV (ns : List (List UInt8)) (i : Nat) : Value := .string (strB (ns.getD i []))
def IsStrs (w : World) (ns : List (List UInt8)) (v : Value) : Prop := IsRow w (strV ns) ns.length v
def replyB (a : AnsI) : List UInt8 := numB (u64N a.code) 2 ++ numB (flagN a.done) 1 ++ numB (u64N a.n) 8 ++ numB a.names.length 4 ++ joinB a.names ++ filesB a.files
theorem joinB_len (ns : List (List UInt8)) : ns.length ≤ (joinB ns).length := by
  unfold joinB
  induction ns with
  | nil => simp
  | cons n ns ih => simp only [List.map_cons, List.flatten_cons, List.length_append, List.length_cons, bytesB_length]; omega

/-- an answer's box and a writer, while the writer writes -/
structure EncA (w0 w wr : World) (pb wb : Nat) (cells : Array Value) (l : List UInt8) (v : Value) : Prop where
  cmd : Blk wr pb cells 46
  wrt : WrT wr wb w.heap.size l v
  ext : Ext (fun j => j = wb) w wr
  no : Ext No w0 wr
  pb1 : pb < w.heap.size
  pb2 : pb ≠ wb
  wb0 : w0.heap.size ≤ wb
  w00 : w0.heap.size ≤ w.heap.size
theorem EncA.step {w0 w wr w2 : World} {pb wb : Nat} {cells : Array Value} {l l2 : List UInt8} {v v2 : Value} (h : EncA w0 w wr pb wb cells l v) (hw : WrT w2 wb w.heap.size l2 v2) (ht : Wrote wb wr w2 v v2) : EncA w0 w w2 pb wb cells l2 v2 :=
  ⟨ht.blk h.cmd h.pb2 (fun s => by have := (h.wrt.own.lt pb s).1; have := h.pb1; omega), hw,
   h.ext.trans ht.ext (fun _ _ s => s) (fun j hj s => by
     rcases s with s | s
     · exact s
     · have := (h.wrt.own.lt j s).1; omega),
   ht.no h.no h.wb0 (fun j hj => Nat.le_trans h.w00 (h.wrt.own.lt j hj).1), h.pb1, h.pb2, h.wb0, h.w00⟩
theorem EncA.le {w0 w wr : World} {pb wb : Nat} {cells : Array Value} {l : List UInt8} {v : Value} (h : EncA w0 w wr pb wb cells l v) : w.heap.size ≤ wr.heap.size := h.ext.size
theorem EncA.cell {w0 w wr : World} {pb wb : Nat} {cells : Array Value} {l : List UInt8} {v : Value} (h : EncA w0 w wr pb wb cells l v) (i : Nat) : wr.cell? ⟨pb, i, none⟩ = cells[i]? := h.cmd.cell i
theorem EncA.ext0 {w0 w wr w2 : World} {pb wb : Nat} {cells : Array Value} {l : List UInt8} {v : Value} (h : EncA w0 w wr pb wb cells l v) (x : Ext No wr w2) : EncA w0 w w2 pb wb cells l v :=
  ⟨h.cmd.ext x (fun s => s), h.wrt.ext0 x, h.ext.trans x (fun _ _ s => s) (fun _ _ s => s.elim), h.no.trans' x, h.pb1, h.pb2, h.wb0, h.w00⟩


set_option maxRecDepth 100000 in
set_option maxHeartbeats 4000000 in
theorem reply_any (a : AnsI) (vn vf : Value) (w0 : World) (hn : IsStrs w0 a.names vn) (hf : IsFiles w0 a.files vf) (hl : 100 + (joinB a.names).length + (filesB a.files).length ≤ 1099511627776) :
    Calls Try.prog 31 #[ansVal a vn vf] w0 fun e w' => ∃ x, e = .returned x ∧ OwnB w' 5 w0.heap.size (replyB a) x ∧ Ext No w0 w' := by
  obtain ⟨code, names, files, done, n⟩ := a
  simp only at hn hf hl
  obtain ⟨an, nn, cn, hvn⟩ : ∃ a n c, vn = .slice a n c := by obtain ⟨a, c, h, -⟩ := hn; exact ⟨a, _, c, h⟩
  obtain ⟨af, nf, cf, hvf⟩ : ∃ a n c, vf = .slice a n c := by obtain ⟨a, c, h, -⟩ := hf; exact ⟨a, _, c, h⟩
  subst hvn; subst hvf
  obtain ⟨hnn, hnc1, hnc2⟩ := IsRow.len hn
  obtain ⟨w, hw⟩ : ∃ w, lay w0 [(#[.int .i64 code, .slice an nn cn, .slice af nf cf, .bool done, .int .i64 n], 46), (#[.slice none 0 0], 78)] = w := ⟨_, rfl⟩
  have hx0 : Ext No w0 w := by rw [← hw]; exact lay_ext _ (Ext.refl _ _)
  have hsz : w.heap.size = w0.heap.size + 2 := by rw [← hw]; exact lay_size _ _
  have hb0 := lay_at hw 0 _ _ rfl
  have hb1 := lay_at hw 1 _ _ rfl
  rw [Nat.add_zero] at hb0
  simp only [lay] at hw
  obtain ⟨pb, hpb⟩ : ∃ pb, w0.heap.size = pb := ⟨_, rfl⟩
  obtain ⟨wb, hwb⟩ : ∃ wb, pb + 1 = wb := ⟨_, rfl⟩
  rw [hpb] at hb0 hb1
  rw [hwb] at hb1
  have hs : EncA w0 w w pb wb #[.int .i64 code, .slice an nn cn, .slice af nf cf, .bool done, .int .i64 n] [] (.slice none 0 0) :=
    ⟨hb0, ⟨hb1, ⟨rfl, .inl ⟨rfl, rfl⟩⟩⟩, Ext.refl _ _, hx0, by omega, by omega, by omega, by omega⟩
  obtain ⟨fin, hfin⟩ : ∃ fin, replyB ⟨code, names, files, done, n⟩ = fin := ⟨_, rfl⟩
  rw [hfin]
  unfold replyB at hfin
  have hjn := joinB_len names
  have HT := Lib.hid hfin; have H0 := Lib.hid hs; have HW := Lib.hid hw; have HPB := Lib.hid hpb; have HWB := Lib.hid hwb; have HNM := Lib.hid hn; have HF := Lib.hid hf; have HL := Lib.hid hl; have HNB := Lib.hid hnn; have HJN := Lib.hid hjn; have HSZ := Lib.hid hsz
  have hn40 : nn ≤ 1099511627776 := by omega
  clear hfin hs hw hpb hwb hn hf hl hb0 hb1 hx0 hsz hnn hjn
  have hu1 := u64N_lt code; have hu2 := u64N_lt n
  have HU := Lib.hid (And.intro hu1 hu2); clear hu1 hu2
  unfold ansVal
  go_enter Try.func31, Try.ntmps31
  have hc : w.cell? ⟨pb, 0, none⟩ = some (.int .i64 code) := H0.out.cell 0
  go_wp2_with fail
  rw [HW.out, HPB.out, HWB.out]
  try go_wp2_with fail
  try rw [u64N_wrap]
  try rw [u64N_mod]
  clear hc
  refine (num_any (u64N code) 2 HU.out.1 (by decide) (by decide) wb w.heap.size _ _ w H0.out.wrt (by have := HL.out; simp only [List.length_append, numB_length, List.length_nil]; omega) H0.out.le).mono ?_
  rintro e w2 ⟨rfl, v2, hw, ht⟩
  have H1 := Lib.hid (H0.out.step hw ht); clear hw ht H0
  have hc : w2.cell? ⟨pb, 3, none⟩ = some (.bool done) := H1.out.cell 3
  dsimp only
  go_wp2_with fail
  refine (flag_any done _).mono ?_
  rintro e w' ⟨rfl, rfl⟩
  dsimp only
  go_wp2_with fail
  refine (num_any (flagN done) 1 (by cases done <;> decide) (by decide) (by decide) wb w.heap.size _ _ w2 H1.out.wrt (by have := HL.out; simp only [List.length_append, numB_length, List.length_nil]; omega) H1.out.le).mono ?_
  rintro e w3 ⟨rfl, v3, hw, ht⟩
  have H2 := Lib.hid (H1.out.step hw ht); clear hw ht hc H1
  have hc : w3.cell? ⟨pb, 4, none⟩ = some (.int .i64 n) := H2.out.cell 4
  dsimp only
  go_wp2_with fail
  try rw [u64N_wrap]
  try rw [u64N_mod]
  refine (num_any (u64N n) 8 HU.out.2 (by decide) (by decide) wb w.heap.size _ _ w3 H2.out.wrt (by have := HL.out; simp only [List.length_append, numB_length, List.length_nil]; omega) H2.out.le).mono ?_
  rintro e w4 ⟨rfl, v4, hw, ht⟩
  have H3 := Lib.hid (H2.out.step hw ht); clear hw ht hc H2
  have hc : w4.cell? ⟨pb, 1, none⟩ = some (.slice an nn cn) := H3.out.cell 1
  dsimp only
  go_wp2_with fail
  refine (num_any nn 4 (by omega) (by decide) (by decide) wb w.heap.size _ _ w4 H3.out.wrt (by have := HL.out; simp only [List.length_append, numB_length, List.length_nil]; omega) H3.out.le).mono ?_
  rintro e w5 ⟨rfl, v5, hw, ht⟩
  have H4 := Lib.hid (H3.out.step hw ht); clear hw ht hc H3
  have hc : w5.cell? ⟨pb, 1, none⟩ = some (.slice an nn cn) := H4.out.cell 1
  dsimp only
  go_wp2_with fail
  clear hc
  obtain ⟨pre, HP, hpl, hpf⟩ : ∃ pre, Hid (EncA w0 w w5 pb wb #[.int .i64 code, .slice an nn cn, .slice af nf cf, .bool done, .int .i64 n] pre v5) ∧ pre.length = 15 ∧ fin = pre ++ joinB names ++ filesB files :=
    ⟨_, H4, by simp only [List.length_append, numB_length, List.length_nil], by rw [← HT.out]; simp only [List.nil_append, List.append_assoc, HNB.out]⟩
  clear H4 HT
  have HPL := Lib.hid hpl; have HPF := Lib.hid hpf; clear hpl hpf
  go_loopw [26] (fun i wr => ∃ (k : Nat) (v : Value), i = .int .i64 k ∧ k ≤ nn ∧ EncA w0 w wr pb wb #[.int .i64 code, .slice an nn cn, .slice af nf cf, .bool done, .int .i64 n] (pre ++ joinB (names.take k)) v) (fun i _ => nn - (intOf i).toNat)
  case atStart => exact ⟨0, _, rfl, by omega, by simpa [joinB] using HP.out⟩
  case round =>
    obtain ⟨q, vk, rfl, hq, hs⟩ := hrel
    have HS1 := Lib.hid hs; clear hs
    by_cases hlt : q < nn
    · obtain ⟨b, off, rfl, hcb⟩ := IsRow.get (HNM.out.ext0 HS1.out.no) q hlt
      unfold strV at hcb
      have hbt := joinB_take names q (by rw [← HNB.out]; exact hlt)
      have hle := joinB_take_le names (q + 1)
      generalize names.getD q [] = t at *
      rw [hbt, List.length_append, bytesB_length] at hle
      have HBT := Lib.hid hbt; have HLE := Lib.hid hle; clear hbt hle
      go_wp2_with fail
      refine (wtext_any t wb w.heap.size _ _ wr HS1.out.wrt (by have := HL.out; have := HPL.out; have := HLE.out; simp only [List.length_append]; omega) HS1.out.le).mono ?_
      rintro e w2 ⟨rfl, v2, hw, ht⟩
      have HS2 := Lib.hid (HS1.out.step hw ht); clear hw ht
      dsimp only
      go_wp2_with fail
      go_roundw
      case rel =>
        refine ⟨q + 1, v2, by go_num, by omega, ?_⟩
        have := HS2.out
        rw [HBT.out]
        simpa only [List.append_assoc] using this
      case measure => simp [intOf]; omega
    · have hqn : q = nn := by omega
      subst hqn
      have hc : wr.cell? ⟨pb, 2, none⟩ = some (.slice af nf cf) := HS1.out.cell 2
      go_wp2_with fail
      refine (put_any files _ wb w.heap.size _ vk w0 wr HF.out HS1.out.no HS1.out.wrt HS1.out.wb0 HS1.out.w00 HS1.out.le (by have := HL.out; have := HPL.out; have := joinB_take_le names q; simp only [List.length_append]; omega)).mono ?_
      rintro e w2 ⟨rfl, v2, hw, ht⟩
      have hfin := hw
      rw [List.take_of_length_le (by rw [HNB.out]; exact Nat.le_refl _), ← HPF.out] at hfin
      have HFI := Lib.hid hfin
      have HS2 := Lib.hid (HS1.out.step hw ht); clear hw ht hc hfin
      dsimp only
      go_wp2_with fail
      refine (done_any wb w.heap.size fin v2 w2 HFI.out (by have := HL.out; have := HPL.out; rw [HPF.out]; simp only [List.length_append]; omega)).mono ?_
      rintro e w3 ⟨x, rfl, ho, hx⟩
      have HO := Lib.hid ho; have HX := Lib.hid (HS2.out.no.trans' hx); have HZ := Lib.hid HS2.out.no.size; clear ho hx
      dsimp only
      go_wp2_with fail
      go_ret
      exact ⟨x, rfl, own_le HO.out (by have := HZ.out; have := HPB.out; omega), HX.out⟩
end Go.Proofs.Ytchejnnfbinclaa
end

section
/- The contract of script.Parse's closure. Printed by wip/mkparse.py. -/
namespace Go.Proofs.Ytchejnnfbinclaa
open Go.RowKit Go.My

/-- n texts, read -/
def namesP : Nat → List UInt8 → Option (List (List UInt8) × List UInt8)
  | 0, l => some ([], l)
  | n + 1, l => match bytesP 120 l with
    | none => none
    | some (t, r) => (namesP n r).map fun z => (t :: z.1, z.2)
theorem namesP_zero (l : List UInt8) : namesP 0 l = some ([], l) := rfl
theorem namesP_succ (n : Nat) (l : List UInt8) : namesP (n + 1) l = match bytesP 120 l with
    | none => none
    | some (t, r) => (namesP n r).map fun z => (t :: z.1, z.2) := rfl

def parAns (code : Nat) (mark : Bool) (n : Nat) (names : List (List UInt8)) (files : List FileL) : AnsI := ⟨wrap64 (code : Int), names, files, mark, wrap64 (n : Int)⟩
def parFin (code : Nat) (mark : Bool) (n : Nat) (names : List (List UInt8)) (l : List UInt8) : Option (AnsI × List UInt8) := (getP 1048576 l).bind fun x => some (parAns code mark n names x.1, x.2)
theorem parFin_some (code : Nat) (mark : Bool) (n : Nat) (names : List (List UInt8)) {l r : List UInt8} {fs : List FileL} (h : getP 1048576 l = some (fs, r)) : parFin code mark n names l = some (parAns code mark n names fs, r) := by unfold parFin; rw [h, Option.bind_some]
theorem parFin_none (code : Nat) (mark : Bool) (n : Nat) (names : List (List UInt8)) {l : List UInt8} (h : getP 1048576 l = none) : parFin code mark n names l = none := by unfold parFin; rw [h]; rfl
def par4 (code : Nat) (mark : Bool) (n : Nat) (many : Nat) (l : List UInt8) : Option (AnsI × List UInt8) := (namesP many l).bind fun x => parFin code mark n x.1 x.2
theorem par4_some (code : Nat) (mark : Bool) (n many : Nat) {l r : List UInt8} {ns : List (List UInt8)} (h : namesP many l = some (ns, r)) : par4 code mark n many l = parFin code mark n ns r := by unfold par4; rw [h, Option.bind_some]
theorem par4_none (code : Nat) (mark : Bool) (n many : Nat) {l : List UInt8} (h : namesP many l = none) : par4 code mark n many l = none := by unfold par4; rw [h]; rfl
def ansCells (a : AnsI) (vn vf : Value) : Array Value := #[.int .i64 a.code, vn, vf, .bool a.done, .int .i64 a.n]
theorem acells_flat (code : Int) (names : List (List UInt8)) (files : List FileL) (done : Bool) (n : Int) (vn vf : Value) : ansCells ⟨code, names, files, done, n⟩ vn vf = #[.int .i64 code, vn, vf, .bool done, .int .i64 n] := rfl
theorem acells_par (code : Nat) (mark : Bool) (n : Nat) (names : List (List UInt8)) (files : List FileL) (vn vf : Value) : ansCells (parAns code mark n names files) vn vf = #[.int .i64 (wrap64 (code : Int)), vn, vf, .bool mark, .int .i64 (wrap64 (n : Int))] := by
  unfold parAns
  exact acells_flat (wrap64 (code : Int)) names files mark (wrap64 (n : Int)) vn vf
def par3 (code : Nat) (mark : Bool) (n : Nat) (l : List UInt8) : Option (AnsI × List UInt8) := (numP 4 l).bind fun x => par4 code mark n x.1 x.2
theorem par3_none (code : Nat) (mark : Bool) (n : Nat) {l : List UInt8} (h : numP 4 l = none) : par3 code mark n l = none := by unfold par3; rw [h]; rfl
theorem par3_some (code : Nat) (mark : Bool) (n : Nat) {l r : List UInt8} {many : Nat} (h : numP 4 l = some (many, r)) : par3 code mark n l = par4 code mark n many r := by unfold par3; rw [h]; rfl
def par2 (code : Nat) (mark : Bool) (l : List UInt8) : Option (AnsI × List UInt8) := (numP 8 l).bind fun x => par3 code mark x.1 x.2
theorem par2_none (code : Nat) (mark : Bool) {l : List UInt8} (h : numP 8 l = none) : par2 code mark l = none := by unfold par2; rw [h]; rfl
theorem par2_some (code : Nat) (mark : Bool) {l r : List UInt8} {n : Nat} (h : numP 8 l = some (n, r)) : par2 code mark l = par3 code mark n r := by unfold par2; rw [h]; rfl
def par1 (code : Nat) (l : List UInt8) : Option (AnsI × List UInt8) := (isP l).bind fun x => par2 code x.1 x.2
theorem par1_none (code : Nat) {l : List UInt8} (h : isP l = none) : par1 code l = none := by unfold par1; rw [h]; rfl
theorem par1_some (code : Nat) {l r : List UInt8} {mark : Bool} (h : isP l = some (mark, r)) : par1 code l = par2 code mark r := by unfold par1; rw [h]; rfl
def par0  (l : List UInt8) : Option (AnsI × List UInt8) := (numP 2 l).bind fun x => par1  x.1 x.2
theorem par0_none  {l : List UInt8} (h : numP 2 l = none) : par0  l = none := by unfold par0; rw [h]; rfl
theorem par0_some  {l r : List UInt8} {code : Nat} (h : numP 2 l = some (code, r)) : par0  l = par1 code r := by unfold par0; rw [h]; rfl

/-- the closure's state: the reader, the answer's box -/
structure DecA (w wr : World) (rb cb B : Nat) (cells : Array Value) (l : List UInt8) (v : Value) : Prop where
  rd : RdN wr rb B l v
  box : Blk wr cb cells 46
  ext : Ext (fun j => j = rb ∨ j = cb) w wr
  len : l.length ≤ 1099511627776
theorem DecA.ne {w wr : World} {rb cb B : Nat} {cells : Array Value} {l : List UInt8} {v : Value} (h : DecA w wr rb cb B cells l v) : cb ≠ rb := Blk.ne_type h.box h.rd.1.box (by decide)
theorem DecA.read {w wr w2 : World} {rb cb B : Nat} {cells : Array Value} {l r : List UInt8} {v v2 : Value} (h : DecA w wr rb cb B cells l v) (hx : Ext (fun j => j = rb) wr w2) (hr : RdS w2 rb r v2) (hi : Inn v v2) (hl : r.length ≤ l.length) : DecA w w2 rb cb B cells r v2 :=
  ⟨h.rd.next hx hr hi, h.box.ext hx h.ne, h.ext.trans hx (fun _ _ s => s) (fun _ _ s => .inl s), Nat.le_trans hl h.len⟩
theorem DecA.put {w wr : World} {rb cb B : Nat} {cells : Array Value} {l : List UInt8} {v : Value} (h : DecA w wr rb cb B cells l v) (k : Nat) (x : Value) : DecA w (wr.setCell ⟨cb, k, none⟩ x) rb cb B (cells.setIfInBounds k x) l v := by
  have hx : Ext (fun j => j = cb) wr (wr.setCell ⟨cb, k, none⟩ x) := (Ext.refl _ wr).setCell _ _ (fun _ => rfl)
  refine ⟨h.rd.ext hx (fun j cs T hb hT s => ?_), h.box.set k x, h.ext.trans hx (fun _ _ s => s) (fun _ _ s => .inr s), h.len⟩
  subst s
  rcases hT with rfl | rfl
  · exact Blk.ne_type hb h.box (by decide) rfl
  · exact Blk.ne_type hb h.box (by decide) rfl
theorem DecA.cell {w wr : World} {rb cb B : Nat} {cells : Array Value} {l : List UInt8} {v : Value} (h : DecA w wr rb cb B cells l v) (i : Nat) : wr.cell? ⟨cb, i, none⟩ = cells[i]? := h.box.cell i
theorem DecA.free {w wr : World} {rb cb B : Nat} {cells : Array Value} {l : List UInt8} {v : Value} (h : DecA w wr rb cb B cells l v) (i : Nat) : wr.frozen? ⟨cb, i, none⟩ = false := h.box.free i

theorem DecA.drew {w wr : World} {rb cb B : Nat} {cells : Array Value} {l : List UInt8} {v : Value} (h : DecA w wr rb cb B cells l v) : DecA w wr.drew rb cb B cells l v :=
  ⟨h.rd.ext ((Ext.refl No wr).drew) (fun _ _ _ _ _ s => s), h.box.drew, h.ext.drew, h.len⟩
theorem DecA.more {w wr w2 : World} {rb cb B : Nat} {cells : Array Value} {l : List UInt8} {v : Value} {S : Nat → Prop} (h : DecA w wr rb cb B cells l v) (hx : Ext S wr w2) (hs : ∀ j cs T, Blk wr j cs T → T = 5 ∨ T = 119 ∨ T = 46 → ¬ S j) (hs2 : ∀ j, j < w.heap.size → ¬ S j) : DecA w w2 rb cb B cells l v :=
  ⟨h.rd.ext hx (fun j cs T hb hT => hs j cs T hb (by rcases hT with e | e; exact .inl e; exact .inr (.inl e))), h.box.ext hx (hs _ _ _ h.box (.inr (.inr rfl))), h.ext.trans hx (fun _ _ s => s) (fun j hj s => absurd s (hs2 j hj)), h.len⟩
theorem str_info : (Try.prog.info? 9).map (fun i => (i.zero, i.size, i.bytes)) = some (some (.string ⟨#[]⟩), 1, 16) := by kernel_rfl
def strVs (ns : List (List UInt8)) : List Value := ns.map fun s => .string (strB s)
def ParR (cb B : Nat) (c : AnsI) (w : World) : Prop := ∃ vn vf, Blk w cb (ansCells c vn vf) 46 ∧ NewF w B c.files vf ∧ w.ownsRow B 9 1 vn c.names.length (strVs c.names)
def ParX (cb : Nat) (w : World) : Prop := ∃ cs, Blk w cb cs 46
def ParTold (rb cb B : Nat) (w1 : World) (l : List UInt8) (e : Ending) (w2 : World) : Prop :=
  Ext (fun j => j = rb ∨ j = cb) w1 w2 ∧ ((∃ a r v', par0 l = some (a, r) ∧ e = .returned (.tuple #[]) ∧ RdS w2 rb r v' ∧ ParR cb B a w2) ∨ (par0 l = none ∧ ParX cb w2 ∧ ∃ n : Int, e = .panicked (thrown n) ∧ n ≠ 0))
theorem ParTold.no {w1 w2 : World} {rb cb B : Nat} {l l2 : List UInt8} {v : Value} {cells : Array Value} {n : Int} (h : DecA w1 w2 rb cb B cells l2 v) (hd : par0 l = none) (hn : n ≠ 0) : ParTold rb cb B w1 l (.panicked (thrown n)) w2 :=
  ⟨h.ext, .inr ⟨hd, ⟨_, h.box⟩, n, rfl, hn⟩⟩

def zeroAns : Array Value := #[.int .i64 0, .slice none 0 0, .slice none 0 0, .bool false, .int .i64 0]
set_option maxRecDepth 100000 in
set_option maxHeartbeats 8000000 in
theorem parse29_1 (rb cb B : Nat) (l : List UInt8) (v : Value) (w1 : World) (hs : DecA w1 w1 rb cb B zeroAns l v) (hB : B ≤ w1.heap.size) :
    Calls Try.prog 54 #[.pointer (some ⟨rb, 0, none⟩), .pointer (some ⟨cb, 0, none⟩)] w1 (ParTold rb cb B w1 l) := by
  unfold zeroAns at hs
  have H := Lib.hid hs; have HB := Lib.hid hB; have HT := Lib.hid (rfl : par0 l = par0 l)
  clear hs hB
  obtain ⟨l0, hl0⟩ : ∃ l0, l0 = l := ⟨_, rfl⟩
  conv at HT => arg 1; lhs; rw [← hl0]
  rw [← hl0]
  clear hl0
  go_enter Try.func54, Try.ntmps54
  go_wp2_with fail
  -- code
  by_cases h : 2 ≤ l.length
  case neg =>
    refine (rnum_no 2 (by decide) (by decide) rb l v _ H.out.rd.1 (by omega)).mono ?_
    rintro e w9 ⟨rfl, rfl⟩
    dsimp only
    go_wp2_with fail
    exact ⟨rfl, ParTold.no H.out (HT.out.trans (par0_none  (numP_none (by omega)))) (by decide)⟩
  have HP := Lib.hid (numP_some h)
  refine (rnum_ok 2 (by decide) (by decide) rb l v _ H.out.rd.1 h).mono ?_
  rintro e w2a ⟨rfl, v1, hr, hx, hi⟩
  have hlt := getN_take_lt h
  generalize hgx : getN (l.take 2) = code at *
  have hdl : (l.drop 2).length ≤ l.length := by rw [List.length_drop]; omega
  generalize l.drop 2 = l1 at *
  have H2 := Lib.hid (H.out.read hx hr hi hdl)
  have HT2 := Lib.hid (HT.out.trans (par0_some  HP.out))
  skip
  clear hr hx hi hdl h H HT HP hgx hlt
  have hf := H2.out.free 0
  have hc := H2.out.cell 0
  simp only [List.getElem?_toArray, List.getElem?_cons_zero, List.getElem?_cons_succ] at hc
  have H3 := Lib.hid (H2.out.put 0 (.int .i64 (wrap64 ((code : Nat) : Int))))
  clear H2
  simp only [List.setIfInBounds_toArray, List.set_cons_succ, List.set_cons_zero] at H3
  obtain ⟨w2, hw⟩ : ∃ w9, w2a.setCell ⟨cb, 0, none⟩ (.int .i64 (wrap64 ((code : Nat) : Int))) = w9 := ⟨_, rfl⟩
  rw [hw] at H3
  have HW := Lib.hid hw; clear hw
  dsimp only
  go_wp2_with fail
  rw [HW.out]; clear HW hf hc
  have H := H3; have HT := HT2; clear H3 HT2
  -- mark
  refine (is_any rb l1 v1 _ H.out.rd.1).mono ?_
  rintro e w3a ⟨hx, ht⟩
  rcases ht with ⟨mark, l2, v2, hp, rfl, hr, hi⟩ | ⟨hp, n9, rfl, hn9⟩
  case inr =>
    have hh := HT.out.trans (par1_none code hp)
    have HE := Lib.hid (H.out.ext.trans hx (fun _ _ s => s) (fun _ _ s => .inl s)); have HBX := Lib.hid (H.out.box.ext hx H.out.ne)
    clear hp
    dsimp only
    go_wp2_with fail
    exact ⟨rfl, HE.out, .inr ⟨hh, ⟨_, HBX.out⟩, n9, rfl, hn9⟩⟩
  have hdl : l2.length ≤ l1.length := by
    unfold isP numP at hp
    by_cases h : 1 ≤ l1.length
    · simp only [if_pos h] at hp
      split at hp
      · simp only [Option.some.injEq, Prod.mk.injEq] at hp; rw [← hp.2, List.length_drop]; omega
      · cases hp
    · simp only [if_neg h] at hp; cases hp
  have H2 := Lib.hid (H.out.read hx hr hi hdl)
  have HT2 := Lib.hid (HT.out.trans (par1_some code hp))
  clear hr hx hi hdl hp H HT
  have hf := H2.out.free 3
  have hc := H2.out.cell 3
  simp only [List.getElem?_toArray, List.getElem?_cons_zero, List.getElem?_cons_succ] at hc
  have H3 := Lib.hid (H2.out.put 3 (.bool mark))
  clear H2
  simp only [List.setIfInBounds_toArray, List.set_cons_succ, List.set_cons_zero] at H3
  obtain ⟨w3, hw⟩ : ∃ w9, w3a.setCell ⟨cb, 3, none⟩ (.bool mark) = w9 := ⟨_, rfl⟩
  rw [hw] at H3
  have HW := Lib.hid hw; clear hw
  dsimp only
  go_wp2_with fail
  rw [HW.out]; clear HW hf hc
  have H := H3; have HT := HT2; clear H3 HT2
  -- n
  by_cases h : 8 ≤ l2.length
  case neg =>
    refine (rnum_no 8 (by decide) (by decide) rb l2 v2 _ H.out.rd.1 (by omega)).mono ?_
    rintro e w9 ⟨rfl, rfl⟩
    dsimp only
    go_wp2_with fail
    exact ⟨rfl, ParTold.no H.out (HT.out.trans (par2_none code mark (numP_none (by omega)))) (by decide)⟩
  have HP := Lib.hid (numP_some h)
  refine (rnum_ok 8 (by decide) (by decide) rb l2 v2 _ H.out.rd.1 h).mono ?_
  rintro e w4a ⟨rfl, v3, hr, hx, hi⟩
  have hlt := getN_take_lt h
  generalize hgx : getN (l2.take 8) = n at *
  have hdl : (l2.drop 8).length ≤ l2.length := by rw [List.length_drop]; omega
  generalize l2.drop 8 = l3 at *
  have H2 := Lib.hid (H.out.read hx hr hi hdl)
  have HT2 := Lib.hid (HT.out.trans (par2_some code mark HP.out))
  skip
  clear hr hx hi hdl h H HT HP hgx hlt
  have hf := H2.out.free 4
  have hc := H2.out.cell 4
  simp only [List.getElem?_toArray, List.getElem?_cons_zero, List.getElem?_cons_succ] at hc
  have H3 := Lib.hid (H2.out.put 4 (.int .i64 (wrap64 ((n : Nat) : Int))))
  clear H2
  simp only [List.setIfInBounds_toArray, List.set_cons_succ, List.set_cons_zero] at H3
  obtain ⟨w4, hw⟩ : ∃ w9, w4a.setCell ⟨cb, 4, none⟩ (.int .i64 (wrap64 ((n : Nat) : Int))) = w9 := ⟨_, rfl⟩
  rw [hw] at H3
  have HW := Lib.hid hw; clear hw
  dsimp only
  go_wp2_with fail
  rw [HW.out]; clear HW hf hc
  have H := H3; have HT := HT2; clear H3 HT2
  -- many
  by_cases h : 4 ≤ l3.length
  case neg =>
    refine (rnum_no 4 (by decide) (by decide) rb l3 v3 _ H.out.rd.1 (by omega)).mono ?_
    rintro e w9 ⟨rfl, rfl⟩
    dsimp only
    go_wp2_with fail
    exact ⟨rfl, ParTold.no H.out (HT.out.trans (par3_none code mark n (numP_none (by omega)))) (by decide)⟩
  have HP := Lib.hid (numP_some h)
  refine (rnum_ok 4 (by decide) (by decide) rb l3 v3 _ H.out.rd.1 h).mono ?_
  rintro e w5a ⟨rfl, v4, hr, hx, hi⟩
  have hlt := getN_take_lt h
  generalize hgx : getN (l3.take 4) = many at *
  have hdl : (l3.drop 4).length ≤ l3.length := by rw [List.length_drop]; omega
  generalize l3.drop 4 = l4 at *
  have H2 := Lib.hid (H.out.read hx hr hi hdl)
  have HT2 := Lib.hid (HT.out.trans (par3_some code mark n HP.out))
  have HMB := Lib.hid hlt
  clear hr hx hi hdl h H HT HP hgx hlt
  dsimp only
  go_wp2_with fail
  have H := H2; have HT := HT2; clear H2 HT2
  have hmb : many ≤ 18446744073709551615 := by have := HMB.out; omega
  have HT0 := Lib.hid (HT.out); clear HT
  have hlen := H.out.len
  have HLEN := Lib.hid hlen; clear hlen
  go_loopw [16] (fun i wr => ∃ (k : Nat) (bits : List (List UInt8)) (rk : List UInt8) (vk vb : Value), i = .int .u64 k ∧ k ≤ many ∧ DecA w1 wr rb cb B #[.int .i64 (wrap64 ((code : Nat) : Int)), vb, .slice none 0 0, .bool mark, .int .i64 (wrap64 ((n : Nat) : Int))] rk vk ∧ wr.ownsRow w1.heap.size 9 1 vb k (strVs bits) ∧ bits.length = k ∧ k + rk.length ≤ l4.length ∧
    namesP many l4 = (namesP (many - k) rk).map (fun z => (bits ++ z.1, z.2))) (fun i _ => many - (intOf i).toNat)
  case atStart =>
    refine ⟨0, [], l4, v4, .slice none 0 0, rfl, by omega, H.out, World.ownsRow_nil _ _ _ _, rfl, by omega, ?_⟩
    rw [Nat.sub_zero]
    cases namesP many l4 <;> rfl
  case round =>
    obtain ⟨k, bits, rk, vk, vb, rfl, hk, hd, hown, hbl, hkl, hbp⟩ := hrel
    obtain ⟨ab, cbc, rfl⟩ := own_form hown
    have HD := Lib.hid hd; have HO := Lib.hid hown; have HBL := Lib.hid hbl; have HKL := Lib.hid hkl; have HBP := Lib.hid hbp
    clear hd hown hbl hkl hbp
    by_cases hlt : k < many
    · obtain ⟨m, hm1⟩ : ∃ m, many - k = m + 1 := ⟨many - k - 1, by omega⟩
      have hbp := HBP.out
      rw [hm1, namesP_succ] at hbp
      have hD := HD.out.drew
      have hc0 := HD.out.cell 1; have hf0 := HD.out.free 1
      simp only [List.getElem?_toArray, List.getElem?_cons_zero, List.getElem?_cons_succ] at hc0
      cases hp : bytesP 120 rk with
      | none =>
        simp only [hp, Option.map_none] at hbp
        have hdn : par0 l0 = none := HT0.out.trans (par4_none _ _ _ _ hbp)
        have HDN := Lib.hid hdn; have HP := Lib.hid hp; have HDD := Lib.hid hD
        clear hdn hp hbp hD
        go_wp2_with fail
        go_region_dies
        all_goals
          refine (rtext_no 120 (by decide) rb rk vk _ HDD.out.rd.1 HDD.out.rd.len HP.out).mono ?_
          rintro e w9 ⟨n9, rfl, hn9, hx⟩
          exact ⟨rfl, HDD.out.ext.trans hx (fun _ _ s => s) (fun _ _ s => .inl s), .inr ⟨HDN.out, ⟨_, HDD.out.box.ext hx HDD.out.ne⟩, n9, rfl, hn9⟩⟩
      | some tr =>
        obtain ⟨t, r⟩ := tr
        simp only [hp] at hbp
        have hrl : r.length + 1 ≤ rk.length := by have := bytesP_len hp; omega
        have HBP2 := Lib.hid hbp; have HP := Lib.hid hp; have HDD := Lib.hid hD; have HRL := Lib.hid hrl
        have HOD := Lib.hid (own_ext HO.out (Ext.drewN_self No wr 1) (fun _ _ s => s) : (wr.drew).ownsRow w1.heap.size 9 1 (.slice ab k cbc) k (strVs bits))
        have HKM := Lib.hid (show k + 1 ≤ 9223372036854775807 ∧ (k + 1) * 16 ≤ 140737488355328 by have := HLEN.out; have := HKL.out; omega)
        clear hbp hp hD hrl
        go_wp2_with fail
        have HB1 := Lib.hid (show w1.heap.size ≤ wr.drew.heap.size from HD.out.ext.size)
        go_region_law (first
          | (go_simp; go_at_call 52; refine (rtext_ok 120 (of_decide_eq_true rfl) rb rk t r vk wr.drew HDD.out.rd.1 HP.out).mono ?_; rintro e w2 ⟨rfl, v2, hr2, hx2, hi2⟩; have hd2 := HDD.out.read hx2 hr2 hi2 (Nat.le_of_succ_le HRL.out); have HO2 := Lib.hid (own_ext HOD.out hx2 (fun j hj s => own_ne_type HOD.out HDD.out.rd.1.box (by decide) (s ▸ hj))); have HD2 := Lib.hid hd2; have hc2 := hd2.cell 1; have hf2 := hd2.free 1; have hca2 := (hd2.box.alloc (.cells #[.string (strB t)] 9)).cell 1; simp only [List.getElem?_toArray, List.getElem?_cons_zero, List.getElem?_cons_succ] at hc2 hca2; have HB2 := Lib.hid (Nat.le_trans HB1.out hx2.size); clear hr2 hx2 hi2 hd2)
          | (refine step_app1 _ _ rfl _ _ 44 rfl w1.heap.size 9 _ _ str_info Try.underlying44 rfl _ _ _ rfl (HO2.out.alloc _) _ rfl (cell_new _ _ _ rfl) rfl HKM.out.1 HKM.out.2 (le_alloc HB2.out _) ?_; intro v' w7 hown7 hg7; obtain ⟨a7, c7, rfl⟩ := own_form hown7; have hb7 := (HD2.out.box.alloc _).grown hg7 (own_ne_type HO2.out HD2.out.box (by decide)); have hc7 := hb7.cell 1; have hf7 := hb7.free 1; simp only [List.getElem?_toArray, List.getElem?_cons_zero, List.getElem?_cons_succ] at hc7; have HO7 := Lib.hid hown7; have HG7 := Lib.hid hg7; clear hown7 hg7 hb7))
        all_goals
          have hx7 : Ext (fun j => (Value.slice ab k cbc).ownBlock = some j) w2 w7 := ((Ext.refl _ w2).alloc _).grown HG7.out (fun j hj _ => hj)
          have hd7 := HD2.out.more hx7 (fun j cs T hb hT s => by
            obtain ⟨cs', hb'⟩ := own_blkN HO2.out s
            rcases hT with rfl | rfl | rfl
            · exact Blk.ne_type hb hb' (by decide) rfl
            · exact Blk.ne_type hb hb' (by decide) rfl
            · exact Blk.ne_type hb hb' (by decide) rfl) (fun j hj s => by have := (World.ownsRow.lt HO2.out j s).1; omega)
          have HD9 := Lib.hid (hd7.put 1 (.slice a7 (k + 1) c7))
          simp only [List.setIfInBounds_toArray, List.set_cons_succ, List.set_cons_zero] at HD9
          have HO9 := Lib.hid (own_ext HO7.out ((Ext.refl (fun j => j = cb) w7).setCell ⟨cb, 1, none⟩ (.slice a7 (k + 1) c7) (fun _ => rfl)) (fun j hj s => own_ne_type HO7.out hd7.box (by decide) (s ▸ hj)))
          clear hx7 hd7 hc7 hf7
          go_wp2_with fail
          go_roundw
          case rel =>
            refine ⟨k + 1, bits ++ [t], r, v2, _, by go_num, by omega, HD9.out, ?_, by rw [List.length_append, HBL.out]; rfl, by have := HKL.out; have := HRL.out; omega, ?_⟩
            · unfold strVs; rw [List.map_append]; exact HO9.out
            · rw [HBP2.out, show many - (k + 1) = m by omega]
              cases namesP m r <;> simp
          case measure => simp [intOf]; omega
    · have hkm : k = many := by omega
      subst hkm
      rw [Nat.sub_self] at HBP
      have hbp := HBP.out
      simp only [namesP_zero, Option.map_some, List.append_nil] at hbp
      have hft : par0 l0 = parFin code mark n bits rk := HT0.out.trans (par4_some _ _ _ _ hbp)
      have HFT := Lib.hid hft; clear hft hbp
      go_wp2_with fail
      refine (get_any 1048576 (by decide) rb B rk vk wr HD.out.rd (Nat.le_trans HB.out HD.out.ext.size) HD.out.len).mono ?_
      rintro e w2 ⟨hx2, ht2⟩
      rcases ht2 with ⟨fs, r, v2, x, hgp, rfl, hr2, hi2, hf2⟩ | ⟨hgp, n9, rfl, hn9⟩
      case inr =>
        have HDN := Lib.hid (show par0 l0 = none from HFT.out.trans (parFin_none _ _ _ _ hgp)); have HX2 := Lib.hid hx2
        clear hgp hx2
        dsimp only
        go_wp2_with fail
        exact ⟨rfl, HD.out.ext.trans HX2.out (fun _ _ s => s) (fun _ _ s => .inl s), .inr ⟨HDN.out, ⟨_, HD.out.box.ext HX2.out HD.out.ne⟩, n9, rfl, hn9⟩⟩
      obtain ⟨ax, nx, cx, hxf⟩ : ∃ a n c, x = .slice a n c := by obtain ⟨a, c, h⟩ := OwnSeq.len hf2; exact ⟨a, _, c, h⟩
      have hrl : r.length ≤ rk.length := getP_len hgp
      have hd2 := HD.out.read hx2 hr2 hi2 hrl
      have hfc := hd2.free 2; have hcc := hd2.cell 2
      simp only [List.getElem?_toArray, List.getElem?_cons_zero, List.getElem?_cons_succ] at hcc
      have hd3 := hd2.put 2 x
      simp only [List.setIfInBounds_toArray, List.set_cons_succ, List.set_cons_zero] at hd3
      have ho2 := own_ext HO.out hx2 (fun j hj s => own_ne_type HO.out HD.out.rd.1.box (by decide) (s ▸ hj))
      obtain ⟨w3, hw3⟩ : ∃ w3, w2.setCell ⟨cb, 2, none⟩ x = w3 := ⟨_, rfl⟩
      have hx3 : Ext (fun j => j = cb) w2 w3 := by rw [← hw3]; exact (Ext.refl (fun j => j = cb) w2).setCell _ _ (fun _ => rfl)
      rw [hw3] at hd3
      have ho3 := own_ext ho2 hx3 (fun j hj s => own_ne_type ho2 hd2.box (by decide) (s ▸ hj))
      have hf3 : NewF w3 B fs x := NewF.ext hf2 hx3 (fun j cs T _ hb hT s => by
        subst s
        rcases hT with rfl | rfl
        · exact Blk.ne_type hb hd2.box (by decide) rfl
        · exact Blk.ne_type hb hd2.box (by decide) rfl)
      have hfin := HFT.out.trans (parFin_some _ _ _ _ hgp)
      have HFIN := Lib.hid hfin; have HF3 := Lib.hid hf3; have HO3 := Lib.hid ho3; have HD3 := Lib.hid hd3
      subst hxf; subst hw3
      clear hfin hf3 ho3 hd3 hd2 ho2 hf2 hgp hx2 hr2 hi2 hrl hx3
      dsimp only
      go_wp2_with fail
      go_end0
      exact ⟨HD3.out.ext, .inl ⟨_, r, v2, HFIN.out, rfl, HD3.out.rd.1, .slice ab k cbc, _, by rw [acells_par]; exact HD3.out.box, HF3.out, by
        show World.ownsRow _ B _ 1 (.slice ab k cbc) bits.length (strVs bits)
        rw [HBL.out]
        exact own_le HO3.out HB.out⟩⟩
end Go.Proofs.Ytchejnnfbinclaa
end

section
/- The contract of script.Parse. Printed by wip/mkparse2.py. -/
namespace Go.Proofs.Ytchejnnfbinclaa
open Go.RowKit Go.My

def parseA (l : List UInt8) : Option AnsI :=
  match par0 l with
  | some (c, []) => some c
  | _ => none
theorem ParR.ext {cb B : Nat} {c : AnsI} {A A' : World} {S : Nat → Prop} (h : ParR cb B c A) (hx : Ext S A A') (hs : ∀ j cs T, Blk A j cs T → T = 5 ∨ T = 76 ∨ T = 9 ∨ T = 46 → ¬ S j) : ParR cb B c A' := by
  obtain ⟨vb, vf, h1, h2, h3⟩ := h
  refine ⟨vb, vf, h1.ext hx (hs _ _ _ h1 (.inr (.inr (.inr rfl)))), NewF.ext h2 hx (fun j cs T _ hb hT => hs j cs T hb (by rcases hT with e | e; exact .inl e; exact .inr (.inl e))), own_ext h3 hx (fun j hj s => ?_)⟩
  obtain ⟨cs, hb⟩ := own_blkN h3 hj
  exact hs _ _ _ hb (.inr (.inr (.inl rfl))) s
/-- the answer that was decoded, or the error -/
def ParseTold (l : List UInt8) (w : World) (e : Ending) (w' : World) : Prop :=
  Ext No w w' ∧ ((∃ a vn vf, parseA l = some a ∧ e = .returned (.tuple #[ansVal a vn vf, .int .i64 0]) ∧ NewF w' w.heap.size a.files vf ∧ w'.ownsRow w.heap.size 9 1 vn a.names.length (strVs a.names)) ∨
    (parseA l = none ∧ e = .returned (.tuple #[.agg zeroAns, .int .i64 39])))

set_option maxRecDepth 100000 in
set_option maxHeartbeats 4000000 in
theorem parse29_any (l : List UInt8) (a : Option Addr) (m c : Nat) (w : World) (hv : IsBytes w l (.slice a m c)) (hl : l.length ≤ 1099511627776) :
    Calls Try.prog 18 #[.slice a m c] w (ParseTold l w) := by
  have hmf := mkf
  obtain ⟨w0, hw0⟩ : ∃ w0, lay w [(zeroAns, 46), (zeroAns, 46)] = w0 := ⟨_, rfl⟩
  have hx0 : Ext No w w0 := by rw [← hw0]; exact lay_ext _ (Ext.refl _ _)
  have hsz : w0.heap.size = w.heap.size + 2 := by rw [← hw0]; exact lay_size _ w
  have hb0 := lay_at hw0 1 _ _ rfl
  have hr0 := lay_at hw0 0 _ _ rfl
  rw [Nat.add_zero] at hr0
  obtain ⟨cb, hcb⟩ : ∃ cb, w.heap.size + 1 = cb := ⟨_, rfl⟩
  rw [hcb] at hb0
  have hrd : Reads 54 #[.pointer (some ⟨cb, 0, none⟩)] (fun j => j = cb) l par0 (ParR cb w0.heap.size) (ParX cb) w0 := by
    intro rb v w1 hx hrb hr hv
    have hb1 := hb0.ext hx (fun s => s)
    refine (parse29_1 rb cb w0.heap.size l v w1 ⟨⟨hr, hv⟩, hb1, Ext.refl _ _, hl⟩ hx.size).mono ?_
    rintro e w2 ⟨hx2, h⟩
    exact ⟨hx2, h⟩
  have hRx : ∀ a A, ParR cb w0.heap.size a A → ParX cb A := fun a A ⟨vf, vb, h1, _⟩ => ⟨_, h1⟩
  have hRxE : ∀ A B, ParX cb A → ErrExt A B → ParX cb B := fun A B ⟨cs, h1⟩ hE => ⟨cs, h1.ext hE (fun ⟨cs', hb⟩ => Blk.ne_type h1 hb (by decide) rfl)⟩
  have hR : ∀ a A B, ParR cb w0.heap.size a A → ErrExt A B → ParR cb w0.heap.size a B := fun a A B h hE => h.ext hE (fun j cs T hb hT ⟨cs', hb'⟩ => by
    rcases hT with rfl | rfl | rfl | rfl
    · exact Blk.ne_type hb hb' (by decide) rfl
    · exact Blk.ne_type hb hb' (by decide) rfl
    · exact Blk.ne_type hb hb' (by decide) rfl
    · exact Blk.ne_type hb hb' (by decide) rfl)
  have hd := decode_any 54 #[.pointer (some ⟨cb, 0, none⟩)] (fun j => j = cb) l par0 (ParR cb w0.heap.size) (ParX cb) hRx hRxE a m c w0 (fun args w => by kernel_rfl) hrd (fun j hj => by omega) (hv.ext0 hx0) hl hR
  unfold zeroAns at hw0 hr0
  simp only [lay] at hw0
  obtain ⟨db, hdb⟩ : ∃ db, w.heap.size = db := ⟨_, rfl⟩
  rw [hdb] at hr0
  have HD := Lib.hid hd; have HX0 := Lib.hid hx0; have HW0 := Lib.hid hw0; have HSZ := Lib.hid hsz; have HCB := Lib.hid hcb; have HR0 := Lib.hid hr0; have HDB := Lib.hid hdb
  clear hd hR hRxE hRx hrd hb0 hx0 hw0 hsz hv hl hcb hr0 hdb
  go_enter Try.func18, Try.ntmps18
  go_wp2_with fail
  rw [HW0.out, HCB.out, HDB.out]; clear HW0
  refine HD.out.mono ?_
  clear HD
  rintro e w1 ⟨n, rfl, ht, hx1⟩
  have HX1 := Lib.hid (HX0.out.trans hx1 (fun _ _ s => s) (fun j hj s => by have := HCB.out; omega))
  have hr1 := HR0.out.ext hx1 (by have := HCB.out; have := HDB.out; omega)
  have HR1 := Lib.hid hr1
  have hcf : w1.frozen? ⟨db, 0, none⟩ = false ∧ w1.frozen? ⟨db, 1, none⟩ = false ∧ w1.frozen? ⟨db, 2, none⟩ = false ∧ w1.frozen? ⟨db, 3, none⟩ = false ∧ w1.frozen? ⟨db, 4, none⟩ = false :=
    ⟨hr1.free 0, hr1.free 1, hr1.free 2, hr1.free 3, hr1.free 4⟩
  have hcd : w1.cell? ⟨db, 0, none⟩ = _ ∧ w1.cell? ⟨db, 1, none⟩ = _ ∧ w1.cell? ⟨db, 2, none⟩ = _ ∧ w1.cell? ⟨db, 3, none⟩ = _ ∧ w1.cell? ⟨db, 4, none⟩ = _ :=
    ⟨hr1.cell 0, hr1.cell 1, hr1.cell 2, hr1.cell 3, hr1.cell 4⟩
  simp only [List.getElem?_toArray, List.getElem?_cons_zero, List.getElem?_cons_succ] at hcd
  obtain ⟨hf0, hf1, hf2, hf3, hf4⟩ := hcf
  obtain ⟨hd0, hd1, hd2, hd3, hd4⟩ := hcd
  clear hx1 hr1
  rcases ht with ⟨rfl, cc, hp, vb, vf, h1, h2, h3⟩ | ⟨hn0, hp, cs, h1⟩
  · have hdc : parseA l = some cc := by unfold parseA; rw [hp]
    obtain ⟨code, names, files, done, n⟩ := cc
    rw [acells_flat] at h1
    obtain ⟨af, nf, cf, rfl⟩ : ∃ a n c, vf = .slice a n c := by obtain ⟨a, c, h⟩ := OwnSeq.len h2; exact ⟨a, _, c, h⟩
    obtain ⟨ab, nb, cbb, rfl⟩ : ∃ a n c, vb = .slice a n c := by obtain ⟨a, c, h⟩ := own_form h3; exact ⟨a, _, c, h⟩
    have hcs : w1.cell? ⟨cb, 0, none⟩ = _ ∧ w1.cell? ⟨cb, 1, none⟩ = _ ∧ w1.cell? ⟨cb, 2, none⟩ = _ ∧ w1.cell? ⟨cb, 3, none⟩ = _ ∧ w1.cell? ⟨cb, 4, none⟩ = _ :=
        ⟨h1.cell 0, h1.cell 1, h1.cell 2, h1.cell 3, h1.cell 4⟩
    simp only [List.getElem?_toArray, List.getElem?_cons_zero, List.getElem?_cons_succ] at hcs
    obtain ⟨hc0, hc1, hc2, hc3, hc4⟩ := hcs
    have HDC := Lib.hid hdc
    have HF := Lib.hid (show NewF w1 w.heap.size files (.slice af nf cf) by
      obtain ⟨us, o1, o2⟩ := h2
      exact ⟨us, own_le o1 (by have := HSZ.out; omega), fun i x hx => by
        obtain ⟨y, e, hy1, hy2, hy3⟩ := o2 i x hx
        exact ⟨y, e, hy1, fun j hj => ⟨by have := (hy2 j hj).1; have := HSZ.out; omega, (hy2 j hj).2⟩, hy3⟩⟩)
    have HB := Lib.hid (own_le h3 (by have := HSZ.out; omega) : w1.ownsRow w.heap.size _ 1 (.slice ab nb cbb) _ _)
    clear h1 h2 h3 hp hdc
    dsimp only
    go_wp2_with fail
    obtain ⟨w2, hw2⟩ : ∃ w2, putAll w1 db 0 [.int .i64 code, .slice ab nb cbb, .slice af nf cf, .bool done, .int .i64 n] = w2 := ⟨_, rfl⟩
    have hx2 := putAll_ext db [.int .i64 code, .slice ab nb cbb, .slice af nf cf, .bool done, .int .i64 n] w1 0
    have hb2 := putAll_all HR1.out [.int .i64 code, .slice ab nb cbb, .slice af nf cf, .bool done, .int .i64 n] rfl
    rw [hw2] at hx2 hb2
    simp only [putAll] at hw2
    rw [hw2]
    clear hw2 hc0 hc1 hc2 hc3 hc4 hf0 hf1 hf2 hf3 hf4 hd0 hd1 hd2 hd3 hd4
    have hcs : w2.cell? ⟨db, 0, none⟩ = _ ∧ w2.cell? ⟨db, 1, none⟩ = _ ∧ w2.cell? ⟨db, 2, none⟩ = _ ∧ w2.cell? ⟨db, 3, none⟩ = _ ∧ w2.cell? ⟨db, 4, none⟩ = _ :=
        ⟨hb2.cell 0, hb2.cell 1, hb2.cell 2, hb2.cell 3, hb2.cell 4⟩
    simp only [List.getElem?_toArray, List.getElem?_cons_zero, List.getElem?_cons_succ] at hcs
    obtain ⟨hc0, hc1, hc2, hc3, hc4⟩ := hcs
    refine bodyPost_ret (v := .tuple #[.agg #[.int .i64 code, .slice ab nb cbb, .slice af nf cf, .bool done, .int .i64 n], .int .i64 0]) (by simp [results, Try.results18, go_sem, hc0, hc1, hc2, hc3, hc4]) rfl ?_
    refine ⟨HX1.out.trans hx2 (fun _ _ s => s) (fun j hj s => by have := HDB.out; omega), .inl ⟨_, _, _, HDC.out, rfl, NewF.ext HF.out hx2 (fun j cs T _ hb hT s => ?_), own_ext HB.out hx2 (fun j hj s => own_ne_type HB.out HR1.out (by decide) (s ▸ hj))⟩⟩
    subst s
    rcases hT with rfl | rfl
    · exact Blk.ne_type hb HR1.out (by decide) rfl
    · exact Blk.ne_type hb HR1.out (by decide) rfl
  · have hdc : parseA l = none := by
      unfold parseA
      split
      · rename_i c' h; exact absurd h (hp c')
      · rfl
    have hnn : (n == 0) = false := by simpa using hn0
    have hnn' : ¬ n = 0 := hn0
    have HDC := Lib.hid hdc
    clear hdc hp h1
    dsimp only
    go_wp2_with fail
    obtain ⟨w2, hw2⟩ : ∃ w2, putAll w1 db 0 [.int .i64 0, .slice none 0 0, .slice none 0 0, .bool false, .int .i64 0] = w2 := ⟨_, rfl⟩
    have hx2 := putAll_ext db [.int .i64 0, .slice none 0 0, .slice none 0 0, .bool false, .int .i64 0] w1 0
    have hb2 := putAll_all HR1.out [.int .i64 0, .slice none 0 0, .slice none 0 0, .bool false, .int .i64 0] rfl
    rw [hw2] at hx2 hb2
    simp only [putAll] at hw2
    rw [hw2]
    clear hw2 hf0 hf1 hf2 hf3 hf4 hd0 hd1 hd2 hd3 hd4
    have hcs : w2.cell? ⟨db, 0, none⟩ = _ ∧ w2.cell? ⟨db, 1, none⟩ = _ ∧ w2.cell? ⟨db, 2, none⟩ = _ ∧ w2.cell? ⟨db, 3, none⟩ = _ ∧ w2.cell? ⟨db, 4, none⟩ = _ :=
        ⟨hb2.cell 0, hb2.cell 1, hb2.cell 2, hb2.cell 3, hb2.cell 4⟩
    simp only [List.getElem?_toArray, List.getElem?_cons_zero, List.getElem?_cons_succ] at hcs
    obtain ⟨hc0, hc1, hc2, hc3, hc4⟩ := hcs
    refine bodyPost_ret (v := .tuple #[.agg #[.int .i64 0, .slice none 0 0, .slice none 0 0, .bool false, .int .i64 0], .int .i64 39]) (by simp [results, Try.results18, go_sem, hc0, hc1, hc2, hc3, hc4]) rfl ?_
    exact ⟨HX1.out.trans hx2 (fun _ _ s => s) (fun j hj s => by have := HDB.out; omega), .inr ⟨HDC.out, rfl⟩⟩

end Go.Proofs.Ytchejnnfbinclaa
end
