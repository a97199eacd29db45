/-
  PROVED HERE: 'Rows.PathAboveCardSaid' (the tied card): of every input the law 'coldstorelaw05.PathAbove' answers true, and each argument reads behind the call as it read before. No condition but the form's own; the listed tables of the library are tied to the program's text.
-/
import Derived.Test.YtajilboimjcfjaaDoorPZE
import Derived.Test.YtajilboimjcfjaaDoorRows
import Derived.Test.YtajilboimjcfjaaDoorCards
import Derived.Test.YtajilboimjcfjaaDoorTie
import Derived.Lay
import Derived.LaidOnce
import Derived.SevenTiedAt
set_option linter.unusedVariables false
set_option linter.unusedSimpArgs false

section
/- The walk of PathAbove. -/
namespace Go.Proofs.YtajilboimjcfjaaDoor
open Go.RowKit Go.My

set_option maxRecDepth 100000 in
set_option maxHeartbeats 8000000 in
theorem pathAbove_fr (p a b : List UInt8) (w : World) (lp : p.length ≤ 9223372036854775807) (la : a.length ≤ 9223372036854775807) (lb : b.length ≤ 9223372036854775807) :
    Calls Tryd.prog 7 #[.string (strB p), .string (strB a), .string (strB b)] w fun e w' => e = .returned (.bool true) ∧ Ext No w w' := by
  have HLP := Lib.hid lp; have HLA := Lib.hid la; have HLB := Lib.hid lb
  clear lp la lb
  have HCK : Hid (∀ (l : List UInt8) W, Hid (l.length ≤ 9223372036854775807) → Calls Tryd.prog 13 #[.string (strB l)] W fun e w' => e = .returned (.int .i64 (checkE l)) ∧ Ext No W w') :=
    Lib.hid fun l W h => check_all l W h.out
  by_cases hcp : ¬ checkE p = 0
  · have hcp2 : checkE p = 38 := (checkE_or p).resolve_left hcp
    clear hcp
    go_enter Tryd.func7, Tryd.ntmps7
    go_wp2_with fail
    refine (alive_any w).mono ?_
    rintro e w1 ⟨rfl, hE1⟩
    have HE := Lib.hid hE1
    clear hE1
    dsimp only
    go_wp2_with (go_at_call 13; refine (HCK.out _ _ ?_).mono ?_; assumption; rintro e w' ⟨rfl, hE'⟩; replace HE := Lib.hid (HE.out.trans' hE'); clear hE')
    go_ret
    exact ⟨rfl, HE.out⟩
  replace hcp := Classical.not_not.1 hcp
  by_cases hca : ¬ checkE a = 0
  · have hca2 : checkE a = 38 := (checkE_or a).resolve_left hca
    clear hca
    go_enter Tryd.func7, Tryd.ntmps7
    go_wp2_with fail
    refine (alive_any w).mono ?_
    rintro e w1 ⟨rfl, hE1⟩
    have HE := Lib.hid hE1
    clear hE1
    dsimp only
    go_wp2_with (go_at_call 13; refine (HCK.out _ _ ?_).mono ?_; assumption; rintro e w' ⟨rfl, hE'⟩; replace HE := Lib.hid (HE.out.trans' hE'); clear hE')
    go_ret
    exact ⟨rfl, HE.out⟩
  replace hca := Classical.not_not.1 hca
  by_cases hcb : ¬ checkE b = 0
  · have hcb2 : checkE b = 38 := (checkE_or b).resolve_left hcb
    clear hcb
    go_enter Tryd.func7, Tryd.ntmps7
    go_wp2_with fail
    refine (alive_any w).mono ?_
    rintro e w1 ⟨rfl, hE1⟩
    have HE := Lib.hid hE1
    clear hE1
    dsimp only
    go_wp2_with (go_at_call 13; refine (HCK.out _ _ ?_).mono ?_; assumption; rintro e w' ⟨rfl, hE'⟩; replace HE := Lib.hid (HE.out.trans' hE'); clear hE')
    go_ret
    exact ⟨rfl, HE.out⟩
  replace hcb := Classical.not_not.1 hcb
  have zp := strB_size p; have za := strB_size a; have zb := strB_size b
  have bp := ((check_iff p).1 hcp).1; have ba := ((check_iff a).1 hca).1; have bb := ((check_iff b).1 hcb).1
  obtain ⟨np, hnp⟩ : ∃ n, n = p.length := ⟨_, rfl⟩
  obtain ⟨na, hna⟩ : ∃ n, n = a.length := ⟨_, rfl⟩
  obtain ⟨nb, hnb⟩ : ∃ n, n = b.length := ⟨_, rfl⟩
  rw [← hnp] at zp bp; rw [← hna] at za ba; rw [← hnb] at zb bb
  have HNP := Lib.hid hnp; have HNA := Lib.hid hna; have HNB := Lib.hid hnb
  clear hnp hna hnb
  have w1 : np + na ≤ 9223372036854775807 := by omega
  have w2 : np + na + nb ≤ 9223372036854775807 := by omega
  have w3 : ¬ 9223372036854775807 < np + na := by omega
  have w4 : ¬ 9223372036854775807 < np + na + nb := by omega
  by_cases hs : 110 < np + na + nb
  · have hsi : (110 : Int) < (np : Int) + na + nb := by omega
    clear hs
    go_enter Tryd.func7, Tryd.ntmps7
    go_wp2_with fail
    refine (alive_any w).mono ?_
    rintro e w1 ⟨rfl, hE1⟩
    have HE := Lib.hid hE1
    clear hE1
    dsimp only
    go_wp2_with (go_at_call 13; refine (HCK.out _ _ ?_).mono ?_; assumption; rintro e w' ⟨rfl, hE'⟩; replace HE := Lib.hid (HE.out.trans' hE'); clear hE')
    go_ret
    exact ⟨rfl, HE.out⟩
  have hsi : decide ((110 : Int) < (np : Int) + na + nb) = false := by simp; omega
  have HSUM := Lib.hid (show p.length + a.length + b.length ≤ 110 by have := HNP.out; have := HNA.out; have := HNB.out; omega)
  have HHP := Lib.hid hcp; have HHA := Lib.hid hca; have HHB := Lib.hid hcb
  clear hs
  obtain ⟨pu, hpu⟩ : ∃ l, l = p ++ [47, 46, 46] := ⟨_, rfl⟩
  obtain ⟨ps, hps⟩ : ∃ l, l = p ++ [47, 120, 47, 46, 46] := ⟨_, rfl⟩
  obtain ⟨pa, hpa⟩ : ∃ l, l = joinL p a := ⟨_, rfl⟩
  obtain ⟨ab, hab⟩ : ∃ l, l = joinL a b := ⟨_, rfl⟩
  obtain ⟨al, hal⟩ : ∃ l, l = joinL pa b := ⟨_, rfl⟩
  obtain ⟨P, hP⟩ : ∃ l, l = parentL p := ⟨_, rfl⟩
  have hpn := check_ne hcp
  have han := check_ne hca
  have hj := joins (b := b) hpn han
  have hal2 : al = p ++ 47 :: (a ++ 47 :: b) := by rw [hal, hpa]; exact hj.1
  have hab1 : ab = a ++ 47 :: b := by rw [hab, joinL, if_neg han]
  have hj1 : joinL p a = pa := hpa.symm
  have hj2 : joinL pa b = al := hal.symm
  have hj3 : joinL a b = ab := hab.symm
  have hj4 : joinL p ab = al := by rw [hal2, hab]; exact hj.2
  have hln : p.length + a.length + b.length ≤ 110 := HSUM.out
  have hck : checkE al = 0 := by
    rw [hal2]
    have h1 := check_join hca hcb (by omega)
    refine check_join hcp h1 ?_
    rw [List.length_append, List.length_cons]; omega
  have hwi : withinB al p = true := by rw [hal2]; exact within_of _ _
  have hle : lessB p al = true := within_less hpn hwi
  have hba : baseL al = baseL b := by rw [hal2, base_behind, base_behind]
  obtain ⟨B, hB⟩ : ∃ l, l = baseL b := ⟨_, rfl⟩
  have hb1 : baseL al = B := by rw [hba, hB]
  have hb2 : baseL b = B := hB.symm
  have hpP : parentL p = P := hP.symm
  have hcs : cleanT ps = .tuple #[.string (strB p), .int .i64 0] := by rw [hps]; exact cleanT_some (same_clean hcp)
  have e1 : strB p ++ (⟨#[47, 46, 46]⟩ : ByteArray) = strB pu := by rw [hpu]; exact strB_append p [47, 46, 46]
  have e2 : strB p ++ (⟨#[47, 120, 47, 46, 46]⟩ : ByteArray) = strB ps := by rw [hps]; exact strB_append p [47, 120, 47, 46, 46]
  have n1 : ¬ 9223372036854775807 < np + 3 := by omega
  have n2 : ¬ 9223372036854775807 < np + 5 := by omega
  have LPU := Lib.hid (show pu.length ≤ 1000 by rw [hpu, List.length_append]; simp; omega)
  have LPS := Lib.hid (show ps.length ≤ 1000 by rw [hps, List.length_append]; simp; omega)
  have Lp := Lib.hid (show p.length ≤ 1000 by omega)
  have La := Lib.hid (show a.length ≤ 1000 by omega)
  have Lb := Lib.hid (show b.length ≤ 1000 by omega)
  have Lab := Lib.hid (show ab.length ≤ 1000 by rw [hab1, List.length_append, List.length_cons]; omega)
  have Lpa := Lib.hid (show pa.length ≤ 1000 by rw [hpa, joinL, if_neg hpn, List.length_append, List.length_cons]; omega)
  have Lal := Lib.hid (show al.length ≤ 1000 by rw [hal2, List.length_append, List.length_cons, List.length_append, List.length_cons]; omega)
  have Lal2 := Lib.hid (show al.length ≤ 9223372036854775807 by have := Lal.out; omega)
  have HCL : Hid (∀ (l : List UInt8) W, Hid (l.length ≤ 1000) → Calls Tryd.prog 9 #[.string (strB l)] W fun e w' => e = .returned (cleanT l) ∧ Ext No W w') :=
    Lib.hid fun l W h => cleanT_any l W (by have := h.out; omega)
  have HPA : Hid (∀ (l : List UInt8) W, Hid (l.length ≤ 1000) → Calls Tryd.prog 15 #[.string (strB l)] W fun e w' => e = .returned (.string (strB (parentL l))) ∧ W = w') :=
    Lib.hid fun l W h => parent_any l W (by have := h.out; omega)
  have HBA : Hid (∀ (l : List UInt8) W, Hid (l.length ≤ 1000) → Calls Tryd.prog 16 #[.string (strB l)] W fun e w' => e = .returned (.string (strB (baseL l))) ∧ W = w') :=
    Lib.hid fun l W h => base_any l W (by have := h.out; omega)
  have HJO : Hid (∀ (l k : List UInt8) W, Hid (l.length ≤ 1000) → Hid (k.length ≤ 1000) → Calls Tryd.prog 17 #[.string (strB l), .string (strB k)] W fun e w' => e = .returned (.string (strB (joinL l k))) ∧ W = w') :=
    Lib.hid fun l k W h h' => join_all l k W (by have := h.out; have := h'.out; omega)
  have HLL : Hid (∀ (l l' : List UInt8) W, Hid (l.length ≤ 1000) → Hid (l'.length ≤ 1000) → Calls Tryd.prog 18 #[.string (strB l), .string (strB l')] W fun e w' => e = .returned (.bool (lessB l l')) ∧ Ext No W w') :=
    Lib.hid fun l l' W h h' => less_any l l' W (by have := h.out; omega) (by have := h'.out; omega)
  have HWW : Hid (∀ (l l' : List UInt8) W, Hid (l.length ≤ 1000) → Hid (l'.length ≤ 1000) → Calls Tryd.prog 20 #[.string (strB l), .string (strB l')] W fun e w' => e = .returned (.bool (withinB l l')) ∧ W = w') :=
    Lib.hid fun l l' W h h' => within_any l l' W (by have := h.out; omega) (by have := h'.out; omega)
  have hup : (P = [] ∧ cleanT pu = .tuple #[.string ⟨#[]⟩, .int .i64 38]) ∨ (P ≠ [] ∧ cleanT pu = .tuple #[.string (strB P), .int .i64 0]) := by
    rw [hpu, hP]
    by_cases h : parentL p = []
    · exact .inl ⟨h, cleanT_none (up_none hcp h)⟩
    · exact .inr ⟨h, cleanT_some (up_some hcp h)⟩
  clear hpu hps hpa hab hal hP hpn han hj hal2 hab1 hln hba hB
  rcases hup with ⟨hP, hup⟩ | ⟨hP, hup⟩
  · have q1 : ((strB P).toList == []) = true := by rw [strB_list, hP]; rfl
    have q2 : (strB P).toList.isEmpty = true := by rw [strB_list, hP]; rfl
    clear hP
    go_enter Tryd.func7, Tryd.ntmps7
    go_wp2_with fail
    refine (alive_any w).mono ?_
    rintro e w1 ⟨rfl, hE1⟩
    have HE := Lib.hid hE1
    clear hE1
    dsimp only
    go_wp2_with (first | (go_at_call 13; refine (HCK.out _ _ ?_).mono ?_; assumption; rintro e w' ⟨rfl, hE'⟩; replace HE := Lib.hid (HE.out.trans' hE'); clear hE') | (go_at_call 9; refine (HCL.out _ _ ?_).mono ?_; assumption; rintro e w' ⟨rfl, hE'⟩; replace HE := Lib.hid (HE.out.trans' hE'); clear hE') | (go_at_call 15; refine (HPA.out _ _ ?_).mono ?_; assumption; rintro e w' ⟨rfl, rfl⟩) | (go_at_call 16; refine (HBA.out _ _ ?_).mono ?_; assumption; rintro e w' ⟨rfl, rfl⟩) | (go_at_call 17; refine (HJO.out _ _ _ ?_ ?_).mono ?_; assumption; assumption; rintro e w' ⟨rfl, rfl⟩) | (go_at_call 18; refine (HLL.out _ _ _ ?_ ?_).mono ?_; assumption; assumption; rintro e w' ⟨rfl, hE'⟩; replace HE := Lib.hid (HE.out.trans' hE'); clear hE') | (go_at_call 20; refine (HWW.out _ _ _ ?_ ?_).mono ?_; assumption; assumption; rintro e w' ⟨rfl, rfl⟩))
    go_ret
    exact ⟨rfl, HE.out⟩
  · have q1 : ((strB P).toList == []) = false := by rw [strB_list]; exact list_beq hP
    have q2 : (strB P).toList.isEmpty = false := by rw [strB_list]; cases P with | nil => exact absurd rfl hP | cons x y => rfl
    clear hP
    go_enter Tryd.func7, Tryd.ntmps7
    go_wp2_with fail
    refine (alive_any w).mono ?_
    rintro e w1 ⟨rfl, hE1⟩
    have HE := Lib.hid hE1
    clear hE1
    dsimp only
    go_wp2_with (first | (go_at_call 13; refine (HCK.out _ _ ?_).mono ?_; assumption; rintro e w' ⟨rfl, hE'⟩; replace HE := Lib.hid (HE.out.trans' hE'); clear hE') | (go_at_call 9; refine (HCL.out _ _ ?_).mono ?_; assumption; rintro e w' ⟨rfl, hE'⟩; replace HE := Lib.hid (HE.out.trans' hE'); clear hE') | (go_at_call 15; refine (HPA.out _ _ ?_).mono ?_; assumption; rintro e w' ⟨rfl, rfl⟩) | (go_at_call 16; refine (HBA.out _ _ ?_).mono ?_; assumption; rintro e w' ⟨rfl, rfl⟩) | (go_at_call 17; refine (HJO.out _ _ _ ?_ ?_).mono ?_; assumption; assumption; rintro e w' ⟨rfl, rfl⟩) | (go_at_call 18; refine (HLL.out _ _ _ ?_ ?_).mono ?_; assumption; assumption; rintro e w' ⟨rfl, hE'⟩; replace HE := Lib.hid (HE.out.trans' hE'); clear hE') | (go_at_call 20; refine (HWW.out _ _ _ ?_ ?_).mono ?_; assumption; assumption; rintro e w' ⟨rfl, rfl⟩))
    go_ret
    exact ⟨rfl, HE.out⟩

end Go.Proofs.YtajilboimjcfjaaDoor
end

section
/-
  PROVED HERE: 'Rows.PathAboveCardSaid' (the tied card): of every input the law 'coldstorelaw05.PathAbove' answers true, and each argument reads behind the call as it read before. No condition but the form's own.
-/
namespace Go.Proofs.YtajilboimjcfjaaDoor.pathAbove
open Go.ChangeShapes Go.WideShapes Go.ChangeAt Go.RowKit Go.My
open Go.ChangeMaps (open_string shut_string)
set_option linter.unusedVariables false

theorem own : ownKnob Tryd.prog.godebug = none := by kernel_rfl
theorem laidOut : laidOutB Tryd.prog = true := by kernel_rfl

/-- what the row lists -/
noncomputable def laid : List (String × DataW Unit) := Rows.pathAboveRow.laid
set_option maxRecDepth 100000 in
theorem lifted (os : Os) (started : os.Started) (H : Type) (enc : TypeId × Value → H) :
    ReturnsInHanded {} Tryd.checked os 7 .any (fun w args => (Rows.pathAboveSpec.pre enc Tryd.prog Tryd.f7 [] false w args ∧ laidMetH Tryd.prog laid w) ∧ sizedMet enc Tryd.prog Tryd.f7 (OpenSpec.ofChange Rows.pathAboveSpec) false w args)
      (Rows.pathAboveSpec.post enc Tryd.prog Tryd.f7 false true false false) := by
  refine returnsInHanded_of_change_and (C := Tryd.checked) (X := fun w _ => laidMetH Tryd.prog laid w) (fun _ _ _ hh h => h.of_heap hh) own started (by kernel_rfl) Tryd.func7
    (ChangeSpec.witness_shaped (enc := enc) (C := Tryd.checked) (os := os) (X := fun w _ => laidMetH Tryd.prog laid w) false (World.laidAll Tryd.prog os laid) #[.string ⟨#[]⟩, .string ⟨#[]⟩, .string ⟨#[]⟩] 8 (World.laidAll_os _ _ _)
      (World.shaped_of_ZipB (by kernel_rfl) (by kernel_rfl)) (by kernel_rfl) (by kernel_rfl) (by kernel_rfl)
      (by rw [MakeChecks.laidMetH_plain _ _ _ (by kernel_rfl)]; exact laidMet_laidAll _ (by kernel_rfl) (by kernel_rfl))) ?_
  intro W base args ds gs before hval0 hW _ _ hL _
  have hval : ∀ (j : Nat) t v, Tryd.f7.params[j]? = some t → args[j]? = some v → Value.okWide Tryd.prog W .any base t v := hval0
  have hW' := hW
  obtain ⟨p, q, hA0, hV, rfl, hfz, hnd⟩ := hW
  have hA : DataW.TrodAll enc Tryd.prog W 0 (fun _ => true) true Tryd.f7.params.toList args.toList ds p := hA0
  rw [Tryd.params7] at hA hval
  obtain ⟨v0, vs0, d0, ds0, p0, q0, hargs, rfl, rfl, h0, r0⟩ := trodAll_cons hA
  obtain ⟨v1, vs1, d1, ds1, p1, q1, rfl, rfl, rfl, h1, r1⟩ := trodAll_cons r0
  obtain ⟨v2, vs2, d2, ds2, p2, q2, rfl, rfl, rfl, h2, r2⟩ := trodAll_cons r1
  obtain ⟨rfl, rfl, rfl⟩ := trodAll_nil r2
  obtain rfl : args = #[v0, v1, v2] := by cases args; simp_all
  obtain ⟨rfl, rfl⟩ := trodVars_none hV
  have k0 := h0
  have lt0 : ∀ x ∈ p0, x.block < W.heap.size := by obtain ⟨m, hm⟩ := k0; exact DataW.trod_lt m _ _ _ hm
  have k1 := h1
  have lt1 : ∀ x ∈ p1, x.block < W.heap.size := by obtain ⟨m, hm⟩ := k1; exact DataW.trod_lt m _ _ _ hm
  have k2 := h2
  have lt2 : ∀ x ∈ p2, x.block < W.heap.size := by obtain ⟨m, hm⟩ := k2; exact DataW.trod_lt m _ _ _ hm
  obtain ⟨a0, rfl, le0⟩ := op_str Tryd.underlying9 (hval 0 9 v0 rfl rfl) h0
  obtain ⟨a1, rfl, le1⟩ := op_str Tryd.underlying9 (hval 1 9 v1 rfl rfl) h1
  obtain ⟨a2, rfl, le2⟩ := op_str Tryd.underlying9 (hval 2 9 v2 rfl rfl) h2
  clear hA0 hval0
  refine (pathAbove_fr a0 a1 a2 W le0 le1 le2).mono fun e W' ⟨he, ext⟩ => ?_
  subst he
  have bel := ext.below
  exact ⟨_, rfl, _, _, _, [], _, [], hW', trodAll_mk1 (shut_bool Tryd.underlying4 _), (trodAll_cons_mk (Below.trod laidOut (by kernel_rfl) (of_decide_eq_true (by kernel_rfl)) k0 bel lt0) (trodAll_cons_mk (Below.trod laidOut (by kernel_rfl) (of_decide_eq_true (by kernel_rfl)) k1 bel lt1) (trodAll_cons_mk (Below.trod laidOut (by kernel_rfl) (of_decide_eq_true (by kernel_rfl)) k2 bel lt2) trodAll_mk0))), rfl, bel.frame _, fun h => by cases h⟩

theorem over : Rows.pathAboveRow.holds Tryd.pinned (OpenSpec.ofChange Rows.pathAboveSpec) :=
  OpenClaim.holds_of_wide 7 Tryd.f7 rfl rfl rfl rfl rfl rfl rfl ⟨rfl, rfl, rfl, rfl, rfl⟩ rfl rfl rfl rfl rfl (by kernel_rfl) Tryd.func7 (by kernel_rfl)
    (of_decide_eq_true (by kernel_rfl)) (by unfold Func.isWrapper; first | (rw [if_pos (by decide +kernel)]; kernel_rfl) | (rw [if_neg (by decide +kernel)]; exact ⟨rfl, rfl⟩))
    (fun os started H enc _ => lifted os started H enc)

/-- THE STATEMENT: the card over the row, tied to the program's text -/
theorem proved : Rows.PathAboveCardSaid :=
  Claim7.holds_tied_plain_at .later [] [.data, .pinned] true (true, "0ea52a9c6a5f6601e2c5d4469c0ca288f1816747c971d0c94f5de6128d0903f0") true over (fun _ h => by cases h) (by kernel_rfl) (fun _ h => by cases h) pathAbove_row_tie rfl ⟨rfl, rfl⟩ (by kernel_rfl) rfl
    (fun f fn hf hfn => by
      obtain rfl : f = 7 := Option.some.inj ((show Tryd.prog.funcNamed "coldstore/coldstorelaw05.PathAbove" = some 7 by kernel_rfl).symm.trans hf) |>.symm
      obtain rfl : fn = Tryd.f7 := (Option.some.inj (Tryd.func7.symm.trans hfn)).symm
      exact ⟨by kernel_rfl, fun j t ht => by
        rw [Tryd.params7] at ht
        have hm : t ∈ [9, 9, 9] := by simpa using Array.mem_of_getElem? ht
        have hall : ([9, 9, 9].all fun u => !Tryd.prog.wantsStandIn u) = true := by kernel_rfl
        exact (show Tryd.prog.wantsStandIn t = false by simpa using List.all_eq_true.1 hall t hm)⟩)
    (by kernel_rfl)
#print axioms proved
end Go.Proofs.YtajilboimjcfjaaDoor.pathAbove
end
