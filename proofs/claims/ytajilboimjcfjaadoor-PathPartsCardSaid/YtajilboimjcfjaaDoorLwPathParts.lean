/-
  PROVED HERE: 'Rows.PathPartsCardSaid' (the tied card): of every input the law 'coldstorelaw05.PathParts' answers true, and each argument reads behind the call as it read before. No condition but the form's own; the listed tables of the library are tied to the program's text.
-/
import Derived.Test.YtajilboimjcfjaaDoorPZE
import Derived.Test.YtajilboimjcfjaaDoorRows
import Derived.Test.YtajilboimjcfjaaDoorCards
import Derived.Test.YtajilboimjcfjaaDoorTie
import Derived.Lay
import Derived.LaidOnce
import Derived.SevenTiedAt
set_option linter.unusedVariables false
set_option linter.unusedSimpArgs false

section
/- The walk of PathParts. Printed by wip/mkpatht.py. -/
namespace Go.Proofs.YtajilboimjcfjaaDoor
open Go.RowKit Go.My

theorem strs_cell {w : World} {ns : List (List UInt8)} {b o n c : Nat} (h : IsStrs w ns (.slice (some ⟨b, o, none⟩) n c)) (i : Nat) (hi : i < n) : w.cell? ⟨b, o + i, none⟩ = some (.string (strB (ns.getD i []))) := by
  obtain ⟨b1, o1, h1, h2⟩ := strs_get h i hi
  cases h1
  exact h2
theorem strs_form {w : World} {ns : List (List UInt8)} {v : Value} (h : IsStrs w ns v) (h0 : 0 < ns.length) : ∃ b o c, v = .slice (some ⟨b, o, none⟩) ns.length c ∧ ns.length ≤ c ∧ c ≤ 9223372036854775807 := by
  obtain ⟨a, c, rfl, h1, h2, -⟩ := id h
  obtain ⟨b1, o1, rfl, -⟩ := strs_get h 0 h0
  exact ⟨b1, o1, c, rfl, h1, h2⟩
theorem atL_eq_nil {p : List UInt8} (hp : checkE p = 0) (k : Nat) : atL p k = [] ↔ k = 0 := by
  constructor
  · intro h
    by_cases h0 : k = 0
    · exact h0
    · exact absurd h (atL_ne hp (by omega))
  · rintro rfl; rfl

set_option maxRecDepth 100000 in
set_option maxHeartbeats 16000000 in
theorem pathParts_fr (p d : List UInt8) (w : World) (lp : p.length ≤ 9223372036854775807) (ld : d.length ≤ 9223372036854775807) :
    Calls Tryd.prog 6 #[.string (strB p), .string (strB d)] w fun e w' => e = .returned (.bool true) ∧ Ext No w w' := by
  have HLP := Lib.hid lp
  have HCK : Hid (∀ (l : List UInt8) W, Hid (l.length ≤ 9223372036854775807) → Calls Tryd.prog 13 #[.string (strB l)] W fun e w' => e = .returned (.int .i64 (checkE l)) ∧ Ext No W w') :=
    Lib.hid fun l W h => check_all l W h.out
  clear lp
  have zd := strB_size d
  obtain ⟨nd, hnd⟩ : ∃ n, n = d.length := ⟨_, rfl⟩
  rw [← hnd] at zd ld
  have HND := Lib.hid hnd
  clear hnd
  by_cases hcp : ¬ checkE p = 0
  · have hcp2 : checkE p = 38 := (checkE_or p).resolve_left hcp
    clear hcp
    go_enter Tryd.func6, Tryd.ntmps6
    go_wp2_with fail
    refine (alive_any w).mono ?_
    rintro e w1 ⟨rfl, hE1⟩
    have HE := Lib.hid hE1
    clear hE1
    dsimp only
    go_wp2_with (go_at_call 13; refine (HCK.out _ _ ?_).mono ?_; assumption; rintro e w' ⟨rfl, hE'⟩; replace HE := Lib.hid (HE.out.trans' hE'); clear hE')
    go_ret
    exact ⟨rfl, HE.out⟩
  replace hcp := Classical.not_not.1 hcp
  by_cases hs : 120 < nd
  · have hsi : (120 : Int) < (nd : Int) := by omega
    clear hs
    go_enter Tryd.func6, Tryd.ntmps6
    go_wp2_with fail
    refine (alive_any w).mono ?_
    rintro e w1 ⟨rfl, hE1⟩
    have HE := Lib.hid hE1
    clear hE1
    dsimp only
    go_wp2_with (go_at_call 13; refine (HCK.out _ _ ?_).mono ?_; assumption; rintro e w' ⟨rfl, hE'⟩; replace HE := Lib.hid (HE.out.trans' hE'); clear hE')
    go_ret
    exact ⟨rfl, HE.out⟩
  have hsi : decide ((120 : Int) < (nd : Int)) = false := by simp; omega
  have hlp := ((check_iff p).1 hcp).1
  have HC0 := Lib.hid hcp
  have Lp := Lib.hid (show p.length ≤ 1000 by omega)
  have Ld := Lib.hid (show d.length ≤ 1000 by have := HND.out; omega)
  have HCN := Lib.hid (partsL_count p)
  have HPS : Hid (∀ W, Calls Tryd.prog 23 #[.string (strB p), .int .i64 1000] W fun e w' => ∃ v, e = .returned v ∧ IsStrs w' (partsL p) v ∧ Ext No W w') :=
    Lib.hid fun W => (partsS_any p 1000 W (by omega)).mono (by
      rintro e w' ⟨v, rfl, ho, hE⟩
      rw [show (partsL p).take (1000 : Int).toNat = partsL p from List.take_of_length_le (by show _ ≤ 1000; have := partsL_count p; omega)] at ho
      exact ⟨v, rfl, strs_own ho, hE⟩)
  have HPA : Hid (∀ (l : List UInt8) W, Hid (l.length ≤ 1000) → Calls Tryd.prog 15 #[.string (strB l)] W fun e w' => e = .returned (.string (strB (parentL l))) ∧ W = w') :=
    Lib.hid fun l W h => parent_any l W (by have := h.out; omega)
  have HBA : Hid (∀ (l : List UInt8) W, Hid (l.length ≤ 1000) → Calls Tryd.prog 16 #[.string (strB l)] W fun e w' => e = .returned (.string (strB (baseL l))) ∧ W = w') :=
    Lib.hid fun l W h => base_any l W (by have := h.out; omega)
  have HJO : Hid (∀ (l k : List UInt8) W, Hid (l.length ≤ 1000) → Hid (k.length ≤ 1000) → Calls Tryd.prog 17 #[.string (strB l), .string (strB k)] W fun e w' => e = .returned (.string (strB (joinL l k))) ∧ W = w') :=
    Lib.hid fun l k W h h' => join_all l k W (by have := h.out; have := h'.out; omega)
  have HLL : Hid (∀ (l l' : List UInt8) W, Hid (l.length ≤ 1000) → Hid (l'.length ≤ 1000) → Calls Tryd.prog 18 #[.string (strB l), .string (strB l')] W fun e w' => e = .returned (.bool (lessB l l')) ∧ Ext No W w') :=
    Lib.hid fun l l' W h h' => less_any l l' W (by have := h.out; omega) (by have := h'.out; omega)
  have HWW : Hid (∀ (l l' : List UInt8) W, Hid (l.length ≤ 1000) → Hid (l'.length ≤ 1000) → Calls Tryd.prog 20 #[.string (strB l), .string (strB l')] W fun e w' => e = .returned (.bool (withinB l l')) ∧ W = w') :=
    Lib.hid fun l l' W h h' => within_any l l' W (by have := h.out; omega) (by have := h'.out; omega)
  obtain ⟨m, hm⟩ : ∃ m, (partsL p).length = m + 1 := ⟨(partsL p).length - 1, by have := List.length_pos_iff.2 (partsL_ne p); omega⟩
  have HM := Lib.hid hm
  have HLP2 := Lib.hid hlp
  clear hs hm hlp
  go_enter Tryd.func6, Tryd.ntmps6
  go_wp2_with fail
  refine (alive_any w).mono ?_
  rintro e w1 ⟨rfl, hE1⟩
  have HE := Lib.hid hE1
  clear hE1
  dsimp only
  go_wp2_with (go_at_call 13; refine (HCK.out _ _ ?_).mono ?_; assumption; rintro e w' ⟨rfl, hE'⟩; replace HE := Lib.hid (HE.out.trans' hE'); clear hE')
  refine (HPS.out _).mono ?_
  rintro e w3 ⟨v, rfl, hv, hE3⟩
  replace HE := Lib.hid (HE.out.trans' hE3)
  obtain ⟨b, o, c, rfl, hc1, hc2⟩ := strs_form hv (by rw [HM.out]; omega)
  rw [HM.out] at hv hc1 ⊢
  have HV := Lib.hid hv
  have hc3 : (m : Int) ≤ c := by omega
  have hcn := HCN.out
  rw [HM.out] at hcn
  have HMN := Lib.hid (show m ≤ 121 by have := HLP2.out; omega)
  have HEw := HE
  clear hv hE3 hcn HE
  dsimp only
  go_wp2_with fail
  go_loopw [6, 27] (fun at_ i wr => ∃ k : Nat, i = .int .i64 k ∧ k ≤ m + 1 ∧ at_ = .string (strB (atL p k)) ∧ Ext No w3 wr) (fun _ i _ => m + 1 - (intOf i).toNat)
  case atStart => exact ⟨0, rfl, Nat.zero_le _, rfl, Ext.refl _ _⟩
  case round =>
    obtain ⟨k, rfl, hk, rfl, hE5⟩ := hrel
    have HE := Lib.hid hE5
    clear hE5
    by_cases hlt : k < m + 1
    · have hltI : (k : Int) < (m : Int) + 1 := by omega
      have hcl := strs_cell (HV.out.ext0 HE.out) k hlt
      have hlt' : k < (partsL p).length := by rw [HM.out]; exact hlt
      have f1 := atL_within p hlt'
      have f2 := part_check HC0.out hlt'
      have f3 := atL_succ HC0.out hlt'
      have f4 := atL_eq_nil HC0.out k
      have f5 : k ≠ 0 → checkE (atL p k) = 0 ∧ lessB (atL p k) p = true := fun h => ⟨atL_check HC0.out (by omega) (by omega), atL_less HC0.out (by omega) hlt'⟩
      have f6 : k = m → baseL p = (partsL p).getD k [] := fun h => by rw [base_last, HM.out, h]; rfl
      have g1 := atL_len p (k := k) (by omega)
      have g2 : ((partsL p).getD k []).length ≤ 40 := (partB_ne (((check_iff p).1 HC0.out).2 _ (parts_get p k hlt').1)).2.2.2
      have hlp := HLP2.out
      generalize (partsL p).getD k [] = x at *
      generalize hA2 : atL p (k + 1) = A2 at *
      generalize hA : atL p k = A at *
      have LA := Lib.hid (show A.length ≤ 1000 by omega)
      have LX := Lib.hid (show x.length ≤ 1000 by omega)
      have LA2 := Lib.hid (show A.length ≤ 9223372036854775807 by omega)
      have LX2 := Lib.hid (show x.length ≤ 9223372036854775807 by omega)
      have HA2 := Lib.hid hA2
      have hmn := HMN.out
      have n1 : ¬ (m : Int) + 1 < 1 := by omega
      have hcase : (k = 0 ∧ ((strB A).toList == []) = true ∧ (strB A).toList.isEmpty = true) ∨ (k ≠ 0 ∧ ((strB A).toList == []) = false ∧ (strB A).toList.isEmpty = false ∧ checkE A = 0 ∧ lessB A p = true) := by
        by_cases h : k = 0
        · exact .inl ⟨h, by rw [strB_list, f4.2 h]; rfl, by rw [strB_list, f4.2 h]; rfl⟩
        · refine .inr ⟨h, ?_, ?_, (f5 h).1, (f5 h).2⟩
          · rw [strB_list]; exact list_beq (fun h' => h (f4.1 h'))
          · rw [strB_list]; cases hh : A with
            | nil => exact absurd (f4.1 hh) h
            | cons y z => rfl
      have hcase2 : (((strB A).toList == (strB d).toList) = false) ∨ (((strB A).toList == (strB d).toList) = true ∧ ((strB d).toList == []) = ((strB A).toList == []) ∧ (strB d).toList.isEmpty = (strB A).toList.isEmpty ∧ withinB p d = true) := by
        by_cases h : A = d
        · exact .inr ⟨by rw [h]; simp, by rw [h], by rw [h], by rw [← h]; exact f1⟩
        · exact .inl (by rw [strB_list, strB_list]; exact list_beq h)
      have hcase3 : (k ≠ m ∧ decide ((k : Int) = m) = false ∧ ((k : Int) == m) = false) ∨ ((k = m ∧ True) ∧ decide ((k : Int) = m) = true ∧ ((k : Int) == m) = true ∧ baseL p = x) := by
        by_cases h : k = m
        · exact .inr ⟨⟨h, trivial⟩, by simp; omega, by simp; omega, f6 h⟩
        · exact .inl ⟨h, by simp; omega, by simp; omega⟩
      clear f4 f5 f6 g1 g2 hlp hlt' hA hA2 hmn
      rcases hcase with ⟨u1, u2, u3⟩ | ⟨u1, u2, u3, u4, u5⟩
      all_goals rcases hcase2 with s1 | ⟨s1, s2, s3, s4⟩
      all_goals rcases hcase3 with ⟨t1, t2, t3⟩ | ⟨⟨t1, -⟩, t2, t3, t4⟩
      all_goals try rw [u2] at s2
      all_goals try rw [u3] at s3
      all_goals clear u1 t1
      all_goals go_wp2_with (first | (go_at_call 13; refine (HCK.out _ _ ?_).mono ?_; assumption; rintro e w' ⟨rfl, hE'⟩; replace HE := Lib.hid (HE.out.trans' hE'); clear hE') | (go_at_call 15; refine (HPA.out _ _ ?_).mono ?_; assumption; rintro e w' ⟨rfl, rfl⟩) | (go_at_call 16; refine (HBA.out _ _ ?_).mono ?_; assumption; rintro e w' ⟨rfl, rfl⟩) | (go_at_call 17; refine (HJO.out _ _ _ ?_ ?_).mono ?_; assumption; assumption; rintro e w' ⟨rfl, rfl⟩) | (go_at_call 18; refine (HLL.out _ _ _ ?_ ?_).mono ?_; assumption; assumption; rintro e w' ⟨rfl, hE'⟩; replace HE := Lib.hid (HE.out.trans' hE'); clear hE') | (go_at_call 20; refine (HWW.out _ _ _ ?_ ?_).mono ?_; assumption; assumption; rintro e w' ⟨rfl, rfl⟩))
      all_goals go_roundw
      all_goals first | exact ⟨k + 1, rfl, by omega, by rw [HA2.out], HE.out⟩ | (simp [intOf]; omega)
    · have hkn : k = m + 1 := by omega
      subst hkn
      have hA : atL p (m + 1) = p := by rw [← HM.out]; exact atL_all p
      rw [hA]
      have hd0 : ∃ g, g = inK p d 0 ∧ ((strB d).toList == []) = g ∧ (strB d).toList.isEmpty = g := by
        refine ⟨_, rfl, ?_, ?_⟩
        · rw [strB_list, inK, Bool.eq_iff_iff, decide_eq_true_eq, beq_iff_eq]
        · rw [strB_list, inK, Bool.eq_iff_iff, decide_eq_true_eq, List.isEmpty_iff]
      obtain ⟨g, hg0, hg1, hg2⟩ := hd0
      have HG0 := Lib.hid hg0
      have n1 : ¬ (m : Int) + 1 < 1 := by omega
      clear hA hg0
      go_wp2_with fail
      go_loopw [9, 10, 92] (fun in_ hd i wz => ∃ k : Nat, i = .int .i64 k ∧ k ≤ m ∧ in_ = .bool (inK p d k) ∧ hd = .string (strB (atL p k)) ∧ wz = wr) (fun _ _ i _ => m - (intOf i).toNat)
      case atStart => exact ⟨0, rfl, Nat.zero_le _, by rw [HG0.out], rfl, rfl⟩
      case round =>
        obtain ⟨k, rfl, hk, rfl, rfl, rfl⟩ := hrel
        by_cases hlt : k < m
        · have hltI : (k : Int) < m := by omega
          have hcl := strs_cell (HV.out.ext0 HE.out) k (by omega)
          have hlt' : k < (partsL p).length := by rw [HM.out]; omega
          have f3 := atL_succ HC0.out hlt'
          have f4 : inK p d (k + 1) = (inK p d k || decide (atL p (k + 1) = d)) := rfl
          have g1 := atL_len p (k := k) (by omega)
          have g2 : ((partsL p).getD k []).length ≤ 40 := (partB_ne (((check_iff p).1 HC0.out).2 _ (parts_get p k hlt').1)).2.2.2
          have hlp := HLP2.out
          have q1 := strB_eq (atL p (k + 1)) d
          generalize (partsL p).getD k [] = x at *
          generalize hA2 : atL p (k + 1) = A2 at *
          generalize hA : atL p k = A at *
          have LA := Lib.hid (show A.length ≤ 1000 by omega)
          have LX := Lib.hid (show x.length ≤ 1000 by omega)
          have HA2 := Lib.hid hA2
          have HF4 := Lib.hid f4
          have hmn := HMN.out
          generalize inK p d k = ik at *
          generalize decide (A2 = d) = y at *
          clear f4 g1 g2 hlp hlt' hA hA2 hg1 hg2 HG0
          cases ik <;> cases y
          all_goals go_wp2_with (first | (go_at_call 13; refine (HCK.out _ _ ?_).mono ?_; assumption; rintro e w' ⟨rfl, hE'⟩; replace HE := Lib.hid (HE.out.trans' hE'); clear hE') | (go_at_call 15; refine (HPA.out _ _ ?_).mono ?_; assumption; rintro e w' ⟨rfl, rfl⟩) | (go_at_call 16; refine (HBA.out _ _ ?_).mono ?_; assumption; rintro e w' ⟨rfl, rfl⟩) | (go_at_call 17; refine (HJO.out _ _ _ ?_ ?_).mono ?_; assumption; assumption; rintro e w' ⟨rfl, rfl⟩) | (go_at_call 18; refine (HLL.out _ _ _ ?_ ?_).mono ?_; assumption; assumption; rintro e w' ⟨rfl, hE'⟩; replace HE := Lib.hid (HE.out.trans' hE'); clear hE') | (go_at_call 20; refine (HWW.out _ _ _ ?_ ?_).mono ?_; assumption; assumption; rintro e w' ⟨rfl, rfl⟩))
          all_goals go_roundw
          all_goals first | exact ⟨k + 1, rfl, by omega, by rw [HF4.out]; try rfl, by rw [HA2.out], by trivial⟩ | (simp [intOf]; omega)
        · have hkn : m = k := by omega
          subst hkn
          have h1 := inK_last p d
          have h2 := parent_last p
          rw [show (partsL p).length - 1 = m by rw [HM.out]; rfl] at h1 h2
          generalize inK p d m = y at *
          generalize atL p m = z at *
          clear hg1 hg2 HG0
          go_wp2_with (first | (go_at_call 13; refine (HCK.out _ _ ?_).mono ?_; assumption; rintro e w' ⟨rfl, hE'⟩; replace HE := Lib.hid (HE.out.trans' hE'); clear hE') | (go_at_call 15; refine (HPA.out _ _ ?_).mono ?_; assumption; rintro e w' ⟨rfl, rfl⟩) | (go_at_call 16; refine (HBA.out _ _ ?_).mono ?_; assumption; rintro e w' ⟨rfl, rfl⟩) | (go_at_call 17; refine (HJO.out _ _ _ ?_ ?_).mono ?_; assumption; assumption; rintro e w' ⟨rfl, rfl⟩) | (go_at_call 18; refine (HLL.out _ _ _ ?_ ?_).mono ?_; assumption; assumption; rintro e w' ⟨rfl, hE'⟩; replace HE := Lib.hid (HE.out.trans' hE'); clear hE') | (go_at_call 20; refine (HWW.out _ _ _ ?_ ?_).mono ?_; assumption; assumption; rintro e w' ⟨rfl, rfl⟩))
          go_ret
          exact ⟨rfl, HEw.out.trans' HE.out⟩

end Go.Proofs.YtajilboimjcfjaaDoor
end

section
/-
  PROVED HERE: 'Rows.PathPartsCardSaid' (the tied card): of every input the law 'coldstorelaw05.PathParts' answers true, and each argument reads behind the call as it read before. No condition but the form's own.
-/
namespace Go.Proofs.YtajilboimjcfjaaDoor.pathParts
open Go.ChangeShapes Go.WideShapes Go.ChangeAt Go.RowKit Go.My
open Go.ChangeMaps (open_string shut_string)
set_option linter.unusedVariables false

theorem own : ownKnob Tryd.prog.godebug = none := by kernel_rfl
theorem laidOut : laidOutB Tryd.prog = true := by kernel_rfl

/-- what the row lists -/
noncomputable def laid : List (String × DataW Unit) := Rows.pathPartsRow.laid
set_option maxRecDepth 100000 in
theorem lifted (os : Os) (started : os.Started) (H : Type) (enc : TypeId × Value → H) :
    ReturnsInHanded {} Tryd.checked os 6 .any (fun w args => (Rows.pathPartsSpec.pre enc Tryd.prog Tryd.f6 [] false w args ∧ laidMetH Tryd.prog laid w) ∧ sizedMet enc Tryd.prog Tryd.f6 (OpenSpec.ofChange Rows.pathPartsSpec) false w args)
      (Rows.pathPartsSpec.post enc Tryd.prog Tryd.f6 false true false false) := by
  refine returnsInHanded_of_change_and (C := Tryd.checked) (X := fun w _ => laidMetH Tryd.prog laid w) (fun _ _ _ hh h => h.of_heap hh) own started (by kernel_rfl) Tryd.func6
    (ChangeSpec.witness_shaped (enc := enc) (C := Tryd.checked) (os := os) (X := fun w _ => laidMetH Tryd.prog laid w) false (World.laidAll Tryd.prog os laid) #[.string ⟨#[]⟩, .string ⟨#[]⟩] 8 (World.laidAll_os _ _ _)
      (World.shaped_of_ZipB (by kernel_rfl) (by kernel_rfl)) (by kernel_rfl) (by kernel_rfl) (by kernel_rfl)
      (by rw [MakeChecks.laidMetH_plain _ _ _ (by kernel_rfl)]; exact laidMet_laidAll _ (by kernel_rfl) (by kernel_rfl))) ?_
  intro W base args ds gs before hval0 hW _ _ hL _
  have hval : ∀ (j : Nat) t v, Tryd.f6.params[j]? = some t → args[j]? = some v → Value.okWide Tryd.prog W .any base t v := hval0
  have hW' := hW
  obtain ⟨p, q, hA0, hV, rfl, hfz, hnd⟩ := hW
  have hA : DataW.TrodAll enc Tryd.prog W 0 (fun _ => true) true Tryd.f6.params.toList args.toList ds p := hA0
  rw [Tryd.params6] at hA hval
  obtain ⟨v0, vs0, d0, ds0, p0, q0, hargs, rfl, rfl, h0, r0⟩ := trodAll_cons hA
  obtain ⟨v1, vs1, d1, ds1, p1, q1, rfl, rfl, rfl, h1, r1⟩ := trodAll_cons r0
  obtain ⟨rfl, rfl, rfl⟩ := trodAll_nil r1
  obtain rfl : args = #[v0, v1] := by cases args; simp_all
  obtain ⟨rfl, rfl⟩ := trodVars_none hV
  have k0 := h0
  have lt0 : ∀ x ∈ p0, x.block < W.heap.size := by obtain ⟨m, hm⟩ := k0; exact DataW.trod_lt m _ _ _ hm
  have k1 := h1
  have lt1 : ∀ x ∈ p1, x.block < W.heap.size := by obtain ⟨m, hm⟩ := k1; exact DataW.trod_lt m _ _ _ hm
  obtain ⟨a0, rfl, le0⟩ := op_str Tryd.underlying9 (hval 0 9 v0 rfl rfl) h0
  obtain ⟨a1, rfl, le1⟩ := op_str Tryd.underlying9 (hval 1 9 v1 rfl rfl) h1
  clear hA0 hval0
  refine (pathParts_fr a0 a1 W le0 le1).mono fun e W' ⟨he, ext⟩ => ?_
  subst he
  have bel := ext.below
  exact ⟨_, rfl, _, _, _, [], _, [], hW', trodAll_mk1 (shut_bool Tryd.underlying4 _), (trodAll_cons_mk (Below.trod laidOut (by kernel_rfl) (of_decide_eq_true (by kernel_rfl)) k0 bel lt0) (trodAll_cons_mk (Below.trod laidOut (by kernel_rfl) (of_decide_eq_true (by kernel_rfl)) k1 bel lt1) trodAll_mk0)), rfl, bel.frame _, fun h => by cases h⟩

theorem over : Rows.pathPartsRow.holds Tryd.pinned (OpenSpec.ofChange Rows.pathPartsSpec) :=
  OpenClaim.holds_of_wide 6 Tryd.f6 rfl rfl rfl rfl rfl rfl rfl ⟨rfl, rfl, rfl, rfl, rfl⟩ rfl rfl rfl rfl rfl (by kernel_rfl) Tryd.func6 (by kernel_rfl)
    (of_decide_eq_true (by kernel_rfl)) (by unfold Func.isWrapper; first | (rw [if_pos (by decide +kernel)]; kernel_rfl) | (rw [if_neg (by decide +kernel)]; exact ⟨rfl, rfl⟩))
    (fun os started H enc _ => lifted os started H enc)

/-- THE STATEMENT: the card over the row, tied to the program's text -/
theorem proved : Rows.PathPartsCardSaid :=
  Claim7.holds_tied_plain_at .later [] [.data, .pinned] true (true, "0ea52a9c6a5f6601e2c5d4469c0ca288f1816747c971d0c94f5de6128d0903f0") true over (fun _ h => by cases h) (by kernel_rfl) (fun _ h => by cases h) pathParts_row_tie rfl ⟨rfl, rfl⟩ (by kernel_rfl) rfl
    (fun f fn hf hfn => by
      obtain rfl : f = 6 := Option.some.inj ((show Tryd.prog.funcNamed "coldstore/coldstorelaw05.PathParts" = some 6 by kernel_rfl).symm.trans hf) |>.symm
      obtain rfl : fn = Tryd.f6 := (Option.some.inj (Tryd.func6.symm.trans hfn)).symm
      exact ⟨by kernel_rfl, fun j t ht => by
        rw [Tryd.params6] at ht
        have hm : t ∈ [9, 9] := by simpa using Array.mem_of_getElem? ht
        have hall : ([9, 9].all fun u => !Tryd.prog.wantsStandIn u) = true := by kernel_rfl
        exact (show Tryd.prog.wantsStandIn t = false by simpa using List.all_eq_true.1 hall t hm)⟩)
    (by kernel_rfl)
#print axioms proved
end Go.Proofs.YtajilboimjcfjaaDoor.pathParts
end
