/-
  PROVED HERE: 'Rows.PathCleansCardSaid' (the tied card): of every input the law 'coldstorelaw05.PathCleans' answers true, and each argument reads behind the call as it read before. No condition but the form's own; the listed tables of the library are tied to the program's text.
-/
import Derived.Test.YtajilboimjcfjaaDoorPZE
import Derived.Test.YtajilboimjcfjaaDoorRows
import Derived.Test.YtajilboimjcfjaaDoorCards
import Derived.Test.YtajilboimjcfjaaDoorTie
import Derived.Lay
import Derived.LaidOnce
import Derived.SevenTiedAt
set_option linter.unusedVariables false
set_option linter.unusedSimpArgs false

section
/- The walk of PathCleans. -/
namespace Go.Proofs.YtajilboimjcfjaaDoor
open Go.RowKit Go.My

theorem strB_before (k l : List UInt8) : (⟨k.toArray⟩ : ByteArray) ++ strB l = strB (k ++ l) := strB_append k l
set_option maxRecDepth 100000 in
set_option maxHeartbeats 8000000 in
theorem pathCleans_fr (p : List UInt8) (w : World) (lp : p.length ≤ 9223372036854775807) :
    Calls Tryd.prog 4 #[.string (strB p)] w fun e w' => e = .returned (.bool true) ∧ Ext No w w' := by
  have zp := strB_size p
  obtain ⟨np, hnp⟩ : ∃ n, n = p.length := ⟨_, rfl⟩
  rw [← hnp] at zp lp
  have HNP := Lib.hid hnp
  clear hnp
  by_cases hs : 120 < np
  · have hsi : (120 : Int) < (np : Int) := by omega
    go_enter Tryd.func4, Tryd.ntmps4
    go_wp2_with fail
    refine (alive_any w).mono ?_
    rintro e w1 ⟨rfl, hE1⟩
    have HE := Lib.hid hE1
    clear hE1
    dsimp only
    go_wp2_with fail
    go_ret
    exact ⟨rfl, HE.out⟩
  have hsi : decide ((120 : Int) < (np : Int)) = false := by simp; omega
  have Lp := Lib.hid (show p.length ≤ 1000 by have := HNP.out; omega)
  have Lp2 := Lib.hid (show p.length ≤ 9223372036854775807 by have := HNP.out; omega)
  have HNP2 := Lib.hid (show np ≤ 120 by omega)
  clear hs
  have HCK : Hid (∀ (l : List UInt8) W, Hid (l.length ≤ 9223372036854775807) → Calls Tryd.prog 13 #[.string (strB l)] W fun e w' => e = .returned (.int .i64 (checkE l)) ∧ Ext No W w') :=
    Lib.hid fun l W h => check_all l W h.out
  have HCL : Hid (∀ (l : List UInt8) W, Hid (l.length ≤ 1000000) → Calls Tryd.prog 9 #[.string (strB l)] W fun e w' => e = .returned (cleanT l) ∧ Ext No W w') :=
    Lib.hid fun l W h => cleanT_any l W (by have := h.out; omega)
  have Lp3 := Lib.hid (show p.length ≤ 1000000 by have := Lp.out; omega)
  cases hcl : cleanL p with
  | none =>
    have hck : checkE p = 38 := (checkE_or p).resolve_left fun h => by rw [clean_self h] at hcl; cases hcl
    have hct := cleanT_none hcl
    clear hcl
    go_enter Tryd.func4, Tryd.ntmps4
    go_wp2_with fail
    refine (alive_any w).mono ?_
    rintro e w1 ⟨rfl, hE1⟩
    have HE := Lib.hid hE1
    clear hE1
    dsimp only
    go_wp2_with (first | (go_at_call 13; refine (HCK.out _ _ ?_).mono ?_; assumption; rintro e w' ⟨rfl, hE'⟩; replace HE := Lib.hid (HE.out.trans' hE'); clear hE') | (go_at_call 9; refine (HCL.out _ _ ?_).mono ?_; assumption; rintro e w' ⟨rfl, hE'⟩; replace HE := Lib.hid (HE.out.trans' hE'); clear hE'))
    go_ret
    exact ⟨rfl, HE.out⟩
  | some c =>
    have hc0 := clean_is hcl
    have hct := cleanT_some hcl
    have hcc := cleanT_some (clean_self hc0)
    have bc := ((check_iff c).1 hc0).1
    have hpb := join_pb c (fun x hx => (partB_ne (((check_iff c).1 hc0).2 x hx)).1)
    have hcn := partsL_count c
    have hll := loose_len (partsL c) (fun x hx => (partB_ne (((check_iff c).1 hc0).2 x hx)).2.2.2)
    have hlc := cleanT_some (loose_clean hc0)
    have hpc : (checkE p = 38 ∧ True) ∨ (checkE p = 0 ∧ p = c) := by
      rcases checkE_or p with h | h
      · exact .inr ⟨h, by rw [clean_self h] at hcl; exact Option.some.inj hcl⟩
      · exact .inl ⟨h, trivial⟩
    have Lc := Lib.hid (show c.length ≤ 1000 by omega)
    have Lc2 := Lib.hid (show c.length ≤ 9223372036854775807 by omega)
    have Lc3 := Lib.hid (show c.length ≤ 1000000 by omega)
    have Lc4 := Lib.hid (show c.length ≤ 1000000000 by omega)
    have hpl : (parentL c).length ≤ 1000 := by have := take_len c; omega
    have hbl : (baseL c).length ≤ 1000 := by unfold baseL; rw [List.length_drop]; omega
    have HPP : Hid ((partsL c).take (1000 : Int).toNat = partsL c) := Lib.hid (List.take_of_length_le (by show _ ≤ 1000; omega))
    have HPS : Hid (∀ W, Calls Tryd.prog 23 #[.string (strB c), .int .i64 1000] W fun e w' => ∃ v, e = .returned v ∧ IsStrs w' (partsL c) v ∧ Ext No W w') :=
      Lib.hid fun W => (partsS_any c 1000 W Lc4.out).mono (by
        rintro e w' ⟨v, rfl, ho, hE⟩
        rw [HPP.out] at ho
        exact ⟨v, rfl, strs_own ho, hE⟩)
    obtain ⟨P, hP⟩ : ∃ x, x = parentL c := ⟨_, rfl⟩
    obtain ⟨B, hB⟩ : ∃ x, x = baseL c := ⟨_, rfl⟩
    rw [← hP] at hpl; rw [← hB] at hbl; rw [← hP, ← hB] at hpb
    have LP := Lib.hid hpl; have LB := Lib.hid hbl
    have hPe := hP.symm; have hBe := hB.symm
    have HPA : Hid (∀ (l : List UInt8) W, Hid (l.length ≤ 1000) → Calls Tryd.prog 15 #[.string (strB l)] W fun e w' => e = .returned (.string (strB (parentL l))) ∧ W = w') :=
      Lib.hid fun l W h => parent_any l W (by have := h.out; omega)
    have HBA : Hid (∀ (l : List UInt8) W, Hid (l.length ≤ 1000) → Calls Tryd.prog 16 #[.string (strB l)] W fun e w' => e = .returned (.string (strB (baseL l))) ∧ W = w') :=
      Lib.hid fun l W h => base_any l W (by have := h.out; omega)
    have HJO : Hid (∀ (l k : List UInt8) W, Hid (l.length ≤ 1000) → Hid (k.length ≤ 1000) → Calls Tryd.prog 17 #[.string (strB l), .string (strB k)] W fun e w' => e = .returned (.string (strB (joinL l k))) ∧ W = w') :=
      Lib.hid fun l k W h h' => join_all l k W (by have := h.out; have := h'.out; omega)
    obtain ⟨ps, hps⟩ : ∃ x, x = partsL c := ⟨_, rfl⟩
    rw [← hps] at HPS hlc hll hcn
    obtain ⟨n, hn⟩ : ∃ n, n = ps.length := ⟨_, rfl⟩
    rw [← hn] at hcn hll
    have HN := Lib.hid hn
    have HL4 : Hid (∀ k, (looseL (ps.take k)).length ≤ n * 49) := Lib.hid fun k => by
      refine Nat.le_trans (loose_len (ps.take k) (fun x hx => ?_)) (Nat.mul_le_mul_right _ (by rw [List.length_take, HN.out]; exact Nat.min_le_right ..))
      exact (partB_ne (((check_iff c).1 hc0).2 x (by rw [← hps]; exact List.mem_of_mem_take hx))).2.2.2
    have HPL : Hid (∀ x ∈ ps, x.length ≤ 40) := Lib.hid fun x hx => (partB_ne (((check_iff c).1 hc0).2 x (by rw [← hps]; exact hx))).2.2.2
    have HCN := Lib.hid (show n ≤ 121 by omega)
    clear hcl hP hB hps hn hll bc hcn hpl hbl HPP
    go_enter Tryd.func4, Tryd.ntmps4
    go_wp2_with fail
    refine (alive_any w).mono ?_
    rintro e w1 ⟨rfl, hE1⟩
    have HE := Lib.hid hE1
    clear hE1
    dsimp only
    go_wp2_with (go_at_call 9; refine (HCL.out _ _ ?_).mono ?_; assumption; rintro e w' ⟨rfl, hE'⟩; replace HE := Lib.hid (HE.out.trans' hE'); clear hE')
    refine (HPS.out _).mono ?_
    rintro e w3 ⟨v, rfl, hv, hE3⟩
    replace HE := Lib.hid (HE.out.trans' hE3)
    obtain ⟨va, vc, rfl, -⟩ := id hv
    rw [← HN.out] at hv ⊢
    have HV := Lib.hid hv
    clear hv hE3
    dsimp only
    go_wp2_with fail
    go_loopw [7, 39] (fun loose i wr => ∃ k : Nat, i = .int .i64 k ∧ k ≤ n ∧ loose = .string (strB (looseL (ps.take k))) ∧ wr = w3) (fun _ i _ => n - (intOf i).toNat)
    case atStart => exact ⟨0, rfl, Nat.zero_le _, rfl, rfl⟩
    case round =>
      obtain ⟨k, rfl, hk, rfl, rfl⟩ := hrel
      by_cases hlt : k < n
      · have hltI : (k : Int) < n := by omega
        obtain ⟨b1, o1, rfl, e1⟩ := strs_get HV.out k hlt
        have hsn := looseL_snoc (ps.take k) (ps.getD k [])
        rw [← takeP_snoc ps k (by rw [← HN.out]; exact hlt)] at hsn
        have hx40 := HPL.out (ps.getD k []) (by rw [List.getD_eq_getElem?_getD, List.getElem?_eq_getElem (by rw [← HN.out]; exact hlt)]; exact List.getElem_mem _)
        have hlk := HL4.out k
        generalize ps.getD k [] = x at *
        generalize hL2 : looseL (ps.take (k + 1)) = L2 at *
        have HL2 := Lib.hid hL2
        generalize looseL (ps.take k) = L1 at *
        obtain ⟨x1, hx1⟩ : ∃ l, l = [47, 46, 47] ++ x := ⟨_, rfl⟩
        obtain ⟨x2, hx2⟩ : ∃ l, l = x1 ++ [47, 120, 47, 46, 46, 47] := ⟨_, rfl⟩
        have q1 : (⟨#[47, 46, 47]⟩ : ByteArray) ++ strB x = strB x1 := by rw [hx1]; exact strB_append [47, 46, 47] x
        have q2 : strB x1 ++ (⟨#[47, 120, 47, 46, 46, 47]⟩ : ByteArray) = strB x2 := by rw [hx2]; exact strB_append x1 [47, 120, 47, 46, 46, 47]
        have q3 : strB L1 ++ strB x2 = strB L2 := by rw [hsn, hx2, hx1]; exact strB_append _ _
        have z1 := strB_size x; have z2 := strB_size x1; have z3 := strB_size x2; have z4 := strB_size L1
        have y1 : x1.length = x.length + 3 := by rw [hx1, List.length_append]; simp; omega
        have y2 : x2.length = x.length + 9 := by rw [hx2, List.length_append, y1]; simp
        rw [y1] at z2; rw [y2] at z3
        have hcn := HCN.out
        generalize x.length = nx at *
        generalize L1.length = nl at *
        have r1 : ¬ 9223372036854775807 < 3 + nx := by omega
        have r2 : ¬ 9223372036854775807 < nx + 3 + 6 := by omega
        have r3 : ¬ 9223372036854775807 < nl + (nx + 9) := by omega
        clear hx1 hx2 hsn y1 y2 hx40 hlk hL2
        go_wp2_with fail
        go_roundw
        case rel => exact ⟨k + 1, by go_num, by omega, by rw [HL2.out], by trivial⟩
        case measure => simp [intOf]; omega
      · have hkn : n = k := by omega
        subst hkn
        have hlk := HL4.out n
        rw [HN.out, List.take_length] at hlk ⊢
        rw [← HN.out] at hlk
        generalize looseL ps = lo at *
        have LO := Lib.hid (show lo.length ≤ 1000000 by have := HCN.out; omega)
        clear hlk
        have hq : (checkE p = 38 ∧ True) ∨ (checkE p = 0 ∧ ((strB p).toList == (strB c).toList) = true) := by
          rcases hpc with h | ⟨h1, h2⟩
          · exact .inl h
          · exact .inr ⟨h1, by rw [h2]; simp⟩
        clear hpc
        rcases hq with ⟨hq, -⟩ | ⟨hq, hq2⟩
        all_goals go_wp2_with (first | (go_at_call 13; refine (HCK.out _ _ ?_).mono ?_; assumption; rintro e w' ⟨rfl, hE'⟩; replace HE := Lib.hid (HE.out.trans' hE'); clear hE') | (go_at_call 9; refine (HCL.out _ _ ?_).mono ?_; assumption; rintro e w' ⟨rfl, hE'⟩; replace HE := Lib.hid (HE.out.trans' hE'); clear hE') | (go_at_call 15; refine (HPA.out _ _ ?_).mono ?_; assumption; rintro e w' ⟨rfl, rfl⟩) | (go_at_call 16; refine (HBA.out _ _ ?_).mono ?_; assumption; rintro e w' ⟨rfl, rfl⟩) | (go_at_call 17; refine (HJO.out _ _ _ ?_ ?_).mono ?_; assumption; assumption; rintro e w' ⟨rfl, rfl⟩))
        all_goals go_ret
        all_goals exact ⟨rfl, HE.out⟩

end Go.Proofs.YtajilboimjcfjaaDoor
end

section
/-
  PROVED HERE: 'Rows.PathCleansCardSaid' (the tied card): of every input the law 'coldstorelaw05.PathCleans' answers true, and each argument reads behind the call as it read before. No condition but the form's own.
-/
namespace Go.Proofs.YtajilboimjcfjaaDoor.pathCleans
open Go.ChangeShapes Go.WideShapes Go.ChangeAt Go.RowKit Go.My
open Go.ChangeMaps (open_string shut_string)
set_option linter.unusedVariables false

theorem own : ownKnob Tryd.prog.godebug = none := by kernel_rfl
theorem laidOut : laidOutB Tryd.prog = true := by kernel_rfl

/-- what the row lists -/
noncomputable def laid : List (String × DataW Unit) := Rows.pathCleansRow.laid
set_option maxRecDepth 100000 in
theorem lifted (os : Os) (started : os.Started) (H : Type) (enc : TypeId × Value → H) :
    ReturnsInHanded {} Tryd.checked os 4 .any (fun w args => (Rows.pathCleansSpec.pre enc Tryd.prog Tryd.f4 [] false w args ∧ laidMetH Tryd.prog laid w) ∧ sizedMet enc Tryd.prog Tryd.f4 (OpenSpec.ofChange Rows.pathCleansSpec) false w args)
      (Rows.pathCleansSpec.post enc Tryd.prog Tryd.f4 false true false false) := by
  refine returnsInHanded_of_change_and (C := Tryd.checked) (X := fun w _ => laidMetH Tryd.prog laid w) (fun _ _ _ hh h => h.of_heap hh) own started (by kernel_rfl) Tryd.func4
    (ChangeSpec.witness_shaped (enc := enc) (C := Tryd.checked) (os := os) (X := fun w _ => laidMetH Tryd.prog laid w) false (World.laidAll Tryd.prog os laid) #[.string ⟨#[]⟩] 8 (World.laidAll_os _ _ _)
      (World.shaped_of_ZipB (by kernel_rfl) (by kernel_rfl)) (by kernel_rfl) (by kernel_rfl) (by kernel_rfl)
      (by rw [MakeChecks.laidMetH_plain _ _ _ (by kernel_rfl)]; exact laidMet_laidAll _ (by kernel_rfl) (by kernel_rfl))) ?_
  intro W base args ds gs before hval0 hW _ _ hL _
  have hval : ∀ (j : Nat) t v, Tryd.f4.params[j]? = some t → args[j]? = some v → Value.okWide Tryd.prog W .any base t v := hval0
  have hW' := hW
  obtain ⟨p, q, hA0, hV, rfl, hfz, hnd⟩ := hW
  have hA : DataW.TrodAll enc Tryd.prog W 0 (fun _ => true) true Tryd.f4.params.toList args.toList ds p := hA0
  rw [Tryd.params4] at hA hval
  obtain ⟨v0, vs0, d0, ds0, p0, q0, hargs, rfl, rfl, h0, r0⟩ := trodAll_cons hA
  obtain ⟨rfl, rfl, rfl⟩ := trodAll_nil r0
  obtain rfl : args = #[v0] := by cases args; simp_all
  obtain ⟨rfl, rfl⟩ := trodVars_none hV
  have k0 := h0
  have lt0 : ∀ x ∈ p0, x.block < W.heap.size := by obtain ⟨m, hm⟩ := k0; exact DataW.trod_lt m _ _ _ hm
  obtain ⟨a0, rfl, le0⟩ := op_str Tryd.underlying9 (hval 0 9 v0 rfl rfl) h0
  clear hA0 hval0
  refine (pathCleans_fr a0 W le0).mono fun e W' ⟨he, ext⟩ => ?_
  subst he
  have bel := ext.below
  exact ⟨_, rfl, _, _, _, [], _, [], hW', trodAll_mk1 (shut_bool Tryd.underlying4 _), (trodAll_cons_mk (Below.trod laidOut (by kernel_rfl) (of_decide_eq_true (by kernel_rfl)) k0 bel lt0) trodAll_mk0), rfl, bel.frame _, fun h => by cases h⟩

theorem over : Rows.pathCleansRow.holds Tryd.pinned (OpenSpec.ofChange Rows.pathCleansSpec) :=
  OpenClaim.holds_of_wide 4 Tryd.f4 rfl rfl rfl rfl rfl rfl rfl ⟨rfl, rfl, rfl, rfl, rfl⟩ rfl rfl rfl rfl rfl (by kernel_rfl) Tryd.func4 (by kernel_rfl)
    (of_decide_eq_true (by kernel_rfl)) (by unfold Func.isWrapper; first | (rw [if_pos (by decide +kernel)]; kernel_rfl) | (rw [if_neg (by decide +kernel)]; exact ⟨rfl, rfl⟩))
    (fun os started H enc _ => lifted os started H enc)

/-- THE STATEMENT: the card over the row, tied to the program's text -/
theorem proved : Rows.PathCleansCardSaid :=
  Claim7.holds_tied_plain_at .later [] [.data, .pinned] true (true, "0ea52a9c6a5f6601e2c5d4469c0ca288f1816747c971d0c94f5de6128d0903f0") true over (fun _ h => by cases h) (by kernel_rfl) (fun _ h => by cases h) pathCleans_row_tie rfl ⟨rfl, rfl⟩ (by kernel_rfl) rfl
    (fun f fn hf hfn => by
      obtain rfl : f = 4 := Option.some.inj ((show Tryd.prog.funcNamed "coldstore/coldstorelaw05.PathCleans" = some 4 by kernel_rfl).symm.trans hf) |>.symm
      obtain rfl : fn = Tryd.f4 := (Option.some.inj (Tryd.func4.symm.trans hfn)).symm
      exact ⟨by kernel_rfl, fun j t ht => by
        rw [Tryd.params4] at ht
        have hm : t ∈ [9] := by simpa using Array.mem_of_getElem? ht
        have hall : ([9].all fun u => !Tryd.prog.wantsStandIn u) = true := by kernel_rfl
        exact (show Tryd.prog.wantsStandIn t = false by simpa using List.all_eq_true.1 hall t hm)⟩)
    (by kernel_rfl)
#print axioms proved
end Go.Proofs.YtajilboimjcfjaaDoor.pathCleans
end
