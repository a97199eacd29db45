/-
  PROVED HERE: 'Rows.PathOrdersCardSaid' (the tied card): of every input the law 'coldstorelaw05.PathOrders' answers true, and each argument reads behind the call as it read before. No condition but the form's own; the listed tables of the library are tied to the program's text.
-/
import Derived.Test.YtajilboimjcfjaaDoorPZD
import Derived.Test.YtajilboimjcfjaaDoorRows
import Derived.Test.YtajilboimjcfjaaDoorCards
import Derived.Test.YtajilboimjcfjaaDoorTie
import Derived.Lay
import Derived.LaidOnce
import Derived.SevenTiedAt
set_option linter.unusedVariables false
set_option linter.unusedSimpArgs false

section
/- The walk of PathOrders. -/
namespace Go.Proofs.YtajilboimjcfjaaDoor
open Go.RowKit Go.My

set_option maxRecDepth 100000 in
set_option maxHeartbeats 8000000 in
theorem pathOrders_fr (a b c : List UInt8) (w : World) (la : a.length ≤ 9223372036854775807) (lb : b.length ≤ 9223372036854775807) (lc : c.length ≤ 9223372036854775807) :
    Calls Tryd.prog 5 #[.string (strB a), .string (strB b), .string (strB c)] w fun e w' => e = .returned (.bool true) ∧ Ext No w w' := by
  have za := strB_size a; have zb := strB_size b; have zc := strB_size c
  obtain ⟨na, hna⟩ : ∃ n, n = a.length := ⟨_, rfl⟩
  obtain ⟨nb, hnb⟩ : ∃ n, n = b.length := ⟨_, rfl⟩
  obtain ⟨nc, hnc⟩ : ∃ n, n = c.length := ⟨_, rfl⟩
  rw [← hna] at za; rw [← hnb] at zb; rw [← hnc] at zc
  have HNA := Lib.hid hna; have HNB := Lib.hid hnb; have HNC := Lib.hid hnc
  have hea := strB_list a
  have heab := strB_eq a b
  have heca := strB_eq c a
  clear hna hnb hnc la lb lc
  have HEA := Lib.hid hea; have HEAB := Lib.hid heab; have HECA := Lib.hid heca
  clear hea heab heca
  go_enter Tryd.func5, Tryd.ntmps5
  go_wp2_with fail
  refine (alive_any w).mono ?_
  rintro e w1 ⟨rfl, hE1⟩
  have HE := Lib.hid hE1
  clear hE1
  by_cases h1 : 120 < na
  · have h1i : (120 : Int) < na := by omega
    go_wp2_with fail
    go_ret
    exact ⟨rfl, HE.out⟩
  have h1i : decide ((120 : Int) < na) = false := by simp; omega
  by_cases h2 : 120 < nb
  · have h2i : (120 : Int) < nb := by omega
    go_wp2_with fail
    go_ret
    exact ⟨rfl, HE.out⟩
  have h2i : decide ((120 : Int) < nb) = false := by simp; omega
  by_cases h3 : 120 < nc
  · have h3i : (120 : Int) < nc := by omega
    go_wp2_with fail
    go_ret
    exact ⟨rfl, HE.out⟩
  have h3i : decide ((120 : Int) < nc) = false := by simp; omega
  have HL := Lib.hid (show a.length ≤ 120 ∧ b.length ≤ 120 ∧ c.length ≤ 120 by have := HNA.out; have := HNB.out; have := HNC.out; omega)
  have HLL : Hid (∀ (l l' : List UInt8) W, Hid (l.length ≤ 120) → Hid (l'.length ≤ 120) → Calls Tryd.prog 18 #[.string (strB l), .string (strB l')] W fun e w' => e = .returned (.bool (lessB l l')) ∧ Ext No W w') :=
    Lib.hid fun l l' W h h' => less_any l l' W (by have := h.out; omega) (by have := h'.out; omega)
  have HWW : Hid (∀ (l l' : List UInt8) W, Hid (l.length ≤ 120) → Hid (l'.length ≤ 120) → Calls Tryd.prog 20 #[.string (strB l), .string (strB l')] W fun e w' => e = .returned (.bool (withinB l l')) ∧ W = w') :=
    Lib.hid fun l l' W h h' => within_any l l' W (by have := h.out; omega) (by have := h'.out; omega)
  have LA := Lib.hid HL.out.1; have LB := Lib.hid HL.out.2.1; have LC := Lib.hid HL.out.2.2
  clear HL
  have f1 := less_asymm a b; have f2 := less_or a b; have f3 := less_trans a b c
  have f4 := fun ha => within_less (a := a) (b := b) ha; have f5 := fun ha => within_same (a := a) (b := b) (c := c) ha
  have fe : decide (a = b) = ((strB a).toList == (strB b).toList) := HEAB.out.symm
  have fc : c ≠ a ↔ ((strB c).toList == (strB a).toList) = false := by rw [HECA.out, decide_eq_false_iff_not]
  have fa : a ≠ [] ↔ (strB a).toList.isEmpty = false := by rw [HEA.out]; cases a <;> simp
  rw [fe] at f2
  rw [fa] at f4 f5
  rw [fc] at f5
  clear fe fc fa HEA HEAB HECA HNA HNB HNC h1 h2 h3
  generalize Hx : lessB a b = x at f1 f2 f3 f4 f5
  generalize Hy : lessB b a = y at f1 f2 f3 f4 f5
  generalize Hz : lessB b c = z at f1 f2 f3 f4 f5
  generalize Hu : lessB a c = u at f1 f2 f3 f4 f5
  generalize Hp : withinB b a = p at f1 f2 f3 f4 f5
  generalize Hq : withinB c a = q at f1 f2 f3 f4 f5
  generalize heab : ((strB a).toList == (strB b).toList) = eab at f1 f2 f3 f4 f5
  generalize heca : ((strB c).toList == (strB a).toList) = eca at f1 f2 f3 f4 f5
  generalize hea : (strB a).toList.isEmpty = ea at f1 f2 f3 f4 f5
  have hall : (x = false ∨ y = false) ∧ ((x || y) = !eab) ∧ (x = true → z = true → u = true) ∧ (ea = false → p = true → x = true) ∧ (ea = false → p = true → q = false → eca = false → u = z) := by
    refine ⟨?_, f2, f3, f4, f5⟩
    cases x
    · exact .inl rfl
    · exact .inr (f1 rfl)
  clear f1 f2 f3 f4 f5
  obtain ⟨g1, g2, g3, g4, g5⟩ := hall
  revert g1 g2 g3 g4 g5
  cases x <;> cases y <;> cases eab <;> intro g1 g2 g3 g4 g5 <;> first | (exfalso; simp at g1 g2; done) | skip
  · -- x=F y=F eab=T
    clear g1 g2 g3
    cases ea
    · cases p
      · (dsimp only; go_wp2_with (first | (go_at_call 18; refine (HLL.out _ _ _ ?_ ?_).mono ?_; assumption; assumption; rintro e w' ⟨rfl, hE'⟩; replace HE := Lib.hid (HE.out.trans' hE'); clear hE') | (go_at_call 20; refine (HWW.out _ _ _ ?_ ?_).mono ?_; assumption; assumption; rintro e w' ⟨rfl, rfl⟩)); go_ret; exact ⟨rfl, HE.out⟩)
      · exfalso; simp at g4
    · (dsimp only; go_wp2_with (first | (go_at_call 18; refine (HLL.out _ _ _ ?_ ?_).mono ?_; assumption; assumption; rintro e w' ⟨rfl, hE'⟩; replace HE := Lib.hid (HE.out.trans' hE'); clear hE') | (go_at_call 20; refine (HWW.out _ _ _ ?_ ?_).mono ?_; assumption; assumption; rintro e w' ⟨rfl, rfl⟩)); go_ret; exact ⟨rfl, HE.out⟩)
  · -- x=F y=T eab=F
    clear g1 g2 g3
    cases ea
    · cases p
      · (dsimp only; go_wp2_with (first | (go_at_call 18; refine (HLL.out _ _ _ ?_ ?_).mono ?_; assumption; assumption; rintro e w' ⟨rfl, hE'⟩; replace HE := Lib.hid (HE.out.trans' hE'); clear hE') | (go_at_call 20; refine (HWW.out _ _ _ ?_ ?_).mono ?_; assumption; assumption; rintro e w' ⟨rfl, rfl⟩)); go_ret; exact ⟨rfl, HE.out⟩)
      · exfalso; simp at g4
    · (dsimp only; go_wp2_with (first | (go_at_call 18; refine (HLL.out _ _ _ ?_ ?_).mono ?_; assumption; assumption; rintro e w' ⟨rfl, hE'⟩; replace HE := Lib.hid (HE.out.trans' hE'); clear hE') | (go_at_call 20; refine (HWW.out _ _ _ ?_ ?_).mono ?_; assumption; assumption; rintro e w' ⟨rfl, rfl⟩)); go_ret; exact ⟨rfl, HE.out⟩)
  · -- x=T y=F eab=F
    clear g1 g2 g4
    cases z <;> cases u <;> first | (exfalso; simp at g3; done) | skip
    all_goals clear g3
    · -- z=F u=F
      cases ea
      · cases p
        · (dsimp only; go_wp2_with (first | (go_at_call 18; refine (HLL.out _ _ _ ?_ ?_).mono ?_; assumption; assumption; rintro e w' ⟨rfl, hE'⟩; replace HE := Lib.hid (HE.out.trans' hE'); clear hE') | (go_at_call 20; refine (HWW.out _ _ _ ?_ ?_).mono ?_; assumption; assumption; rintro e w' ⟨rfl, rfl⟩)); go_ret; exact ⟨rfl, HE.out⟩)
        · cases q
          · cases eca <;> (dsimp only; go_wp2_with (first | (go_at_call 18; refine (HLL.out _ _ _ ?_ ?_).mono ?_; assumption; assumption; rintro e w' ⟨rfl, hE'⟩; replace HE := Lib.hid (HE.out.trans' hE'); clear hE') | (go_at_call 20; refine (HWW.out _ _ _ ?_ ?_).mono ?_; assumption; assumption; rintro e w' ⟨rfl, rfl⟩)); go_ret; exact ⟨rfl, HE.out⟩)
          · (dsimp only; go_wp2_with (first | (go_at_call 18; refine (HLL.out _ _ _ ?_ ?_).mono ?_; assumption; assumption; rintro e w' ⟨rfl, hE'⟩; replace HE := Lib.hid (HE.out.trans' hE'); clear hE') | (go_at_call 20; refine (HWW.out _ _ _ ?_ ?_).mono ?_; assumption; assumption; rintro e w' ⟨rfl, rfl⟩)); go_ret; exact ⟨rfl, HE.out⟩)
      · (dsimp only; go_wp2_with (first | (go_at_call 18; refine (HLL.out _ _ _ ?_ ?_).mono ?_; assumption; assumption; rintro e w' ⟨rfl, hE'⟩; replace HE := Lib.hid (HE.out.trans' hE'); clear hE') | (go_at_call 20; refine (HWW.out _ _ _ ?_ ?_).mono ?_; assumption; assumption; rintro e w' ⟨rfl, rfl⟩)); go_ret; exact ⟨rfl, HE.out⟩)
    · -- z=F u=T
      cases ea
      · cases p
        · (dsimp only; go_wp2_with (first | (go_at_call 18; refine (HLL.out _ _ _ ?_ ?_).mono ?_; assumption; assumption; rintro e w' ⟨rfl, hE'⟩; replace HE := Lib.hid (HE.out.trans' hE'); clear hE') | (go_at_call 20; refine (HWW.out _ _ _ ?_ ?_).mono ?_; assumption; assumption; rintro e w' ⟨rfl, rfl⟩)); go_ret; exact ⟨rfl, HE.out⟩)
        · cases q
          · cases eca
            · exfalso; simp at g5
            · (dsimp only; go_wp2_with (first | (go_at_call 18; refine (HLL.out _ _ _ ?_ ?_).mono ?_; assumption; assumption; rintro e w' ⟨rfl, hE'⟩; replace HE := Lib.hid (HE.out.trans' hE'); clear hE') | (go_at_call 20; refine (HWW.out _ _ _ ?_ ?_).mono ?_; assumption; assumption; rintro e w' ⟨rfl, rfl⟩)); go_ret; exact ⟨rfl, HE.out⟩)
          · (dsimp only; go_wp2_with (first | (go_at_call 18; refine (HLL.out _ _ _ ?_ ?_).mono ?_; assumption; assumption; rintro e w' ⟨rfl, hE'⟩; replace HE := Lib.hid (HE.out.trans' hE'); clear hE') | (go_at_call 20; refine (HWW.out _ _ _ ?_ ?_).mono ?_; assumption; assumption; rintro e w' ⟨rfl, rfl⟩)); go_ret; exact ⟨rfl, HE.out⟩)
      · (dsimp only; go_wp2_with (first | (go_at_call 18; refine (HLL.out _ _ _ ?_ ?_).mono ?_; assumption; assumption; rintro e w' ⟨rfl, hE'⟩; replace HE := Lib.hid (HE.out.trans' hE'); clear hE') | (go_at_call 20; refine (HWW.out _ _ _ ?_ ?_).mono ?_; assumption; assumption; rintro e w' ⟨rfl, rfl⟩)); go_ret; exact ⟨rfl, HE.out⟩)
    · -- z=T u=T
      cases ea
      · cases p
        · (dsimp only; go_wp2_with (first | (go_at_call 18; refine (HLL.out _ _ _ ?_ ?_).mono ?_; assumption; assumption; rintro e w' ⟨rfl, hE'⟩; replace HE := Lib.hid (HE.out.trans' hE'); clear hE') | (go_at_call 20; refine (HWW.out _ _ _ ?_ ?_).mono ?_; assumption; assumption; rintro e w' ⟨rfl, rfl⟩)); go_ret; exact ⟨rfl, HE.out⟩)
        · cases q
          · cases eca <;> (dsimp only; go_wp2_with (first | (go_at_call 18; refine (HLL.out _ _ _ ?_ ?_).mono ?_; assumption; assumption; rintro e w' ⟨rfl, hE'⟩; replace HE := Lib.hid (HE.out.trans' hE'); clear hE') | (go_at_call 20; refine (HWW.out _ _ _ ?_ ?_).mono ?_; assumption; assumption; rintro e w' ⟨rfl, rfl⟩)); go_ret; exact ⟨rfl, HE.out⟩)
          · (dsimp only; go_wp2_with (first | (go_at_call 18; refine (HLL.out _ _ _ ?_ ?_).mono ?_; assumption; assumption; rintro e w' ⟨rfl, hE'⟩; replace HE := Lib.hid (HE.out.trans' hE'); clear hE') | (go_at_call 20; refine (HWW.out _ _ _ ?_ ?_).mono ?_; assumption; assumption; rintro e w' ⟨rfl, rfl⟩)); go_ret; exact ⟨rfl, HE.out⟩)
      · (dsimp only; go_wp2_with (first | (go_at_call 18; refine (HLL.out _ _ _ ?_ ?_).mono ?_; assumption; assumption; rintro e w' ⟨rfl, hE'⟩; replace HE := Lib.hid (HE.out.trans' hE'); clear hE') | (go_at_call 20; refine (HWW.out _ _ _ ?_ ?_).mono ?_; assumption; assumption; rintro e w' ⟨rfl, rfl⟩)); go_ret; exact ⟨rfl, HE.out⟩)

end Go.Proofs.YtajilboimjcfjaaDoor
end

section
/-
  PROVED HERE: 'Rows.PathOrdersCardSaid' (the tied card): of every input the law 'coldstorelaw05.PathOrders' answers true, and each argument reads behind the call as it read before. No condition but the form's own.
-/
namespace Go.Proofs.YtajilboimjcfjaaDoor.pathOrders
open Go.ChangeShapes Go.WideShapes Go.ChangeAt Go.RowKit Go.My
open Go.ChangeMaps (open_string shut_string)
set_option linter.unusedVariables false

theorem own : ownKnob Tryd.prog.godebug = none := by kernel_rfl
theorem laidOut : laidOutB Tryd.prog = true := by kernel_rfl

/-- what the row lists -/
noncomputable def laid : List (String × DataW Unit) := Rows.pathOrdersRow.laid
set_option maxRecDepth 100000 in
theorem lifted (os : Os) (started : os.Started) (H : Type) (enc : TypeId × Value → H) :
    ReturnsInHanded {} Tryd.checked os 5 .any (fun w args => (Rows.pathOrdersSpec.pre enc Tryd.prog Tryd.f5 [] false w args ∧ laidMetH Tryd.prog laid w) ∧ sizedMet enc Tryd.prog Tryd.f5 (OpenSpec.ofChange Rows.pathOrdersSpec) false w args)
      (Rows.pathOrdersSpec.post enc Tryd.prog Tryd.f5 false true false false) := by
  refine returnsInHanded_of_change_and (C := Tryd.checked) (X := fun w _ => laidMetH Tryd.prog laid w) (fun _ _ _ hh h => h.of_heap hh) own started (by kernel_rfl) Tryd.func5
    (ChangeSpec.witness_shaped (enc := enc) (C := Tryd.checked) (os := os) (X := fun w _ => laidMetH Tryd.prog laid w) false (World.laidAll Tryd.prog os laid) #[.string ⟨#[]⟩, .string ⟨#[]⟩, .string ⟨#[]⟩] 8 (World.laidAll_os _ _ _)
      (World.shaped_of_ZipB (by kernel_rfl) (by kernel_rfl)) (by kernel_rfl) (by kernel_rfl) (by kernel_rfl)
      (by rw [MakeChecks.laidMetH_plain _ _ _ (by kernel_rfl)]; exact laidMet_laidAll _ (by kernel_rfl) (by kernel_rfl))) ?_
  intro W base args ds gs before hval0 hW _ _ hL _
  have hval : ∀ (j : Nat) t v, Tryd.f5.params[j]? = some t → args[j]? = some v → Value.okWide Tryd.prog W .any base t v := hval0
  have hW' := hW
  obtain ⟨p, q, hA0, hV, rfl, hfz, hnd⟩ := hW
  have hA : DataW.TrodAll enc Tryd.prog W 0 (fun _ => true) true Tryd.f5.params.toList args.toList ds p := hA0
  rw [Tryd.params5] at hA hval
  obtain ⟨v0, vs0, d0, ds0, p0, q0, hargs, rfl, rfl, h0, r0⟩ := trodAll_cons hA
  obtain ⟨v1, vs1, d1, ds1, p1, q1, rfl, rfl, rfl, h1, r1⟩ := trodAll_cons r0
  obtain ⟨v2, vs2, d2, ds2, p2, q2, rfl, rfl, rfl, h2, r2⟩ := trodAll_cons r1
  obtain ⟨rfl, rfl, rfl⟩ := trodAll_nil r2
  obtain rfl : args = #[v0, v1, v2] := by cases args; simp_all
  obtain ⟨rfl, rfl⟩ := trodVars_none hV
  have k0 := h0
  have lt0 : ∀ x ∈ p0, x.block < W.heap.size := by obtain ⟨m, hm⟩ := k0; exact DataW.trod_lt m _ _ _ hm
  have k1 := h1
  have lt1 : ∀ x ∈ p1, x.block < W.heap.size := by obtain ⟨m, hm⟩ := k1; exact DataW.trod_lt m _ _ _ hm
  have k2 := h2
  have lt2 : ∀ x ∈ p2, x.block < W.heap.size := by obtain ⟨m, hm⟩ := k2; exact DataW.trod_lt m _ _ _ hm
  obtain ⟨a0, rfl, le0⟩ := op_str Tryd.underlying9 (hval 0 9 v0 rfl rfl) h0
  obtain ⟨a1, rfl, le1⟩ := op_str Tryd.underlying9 (hval 1 9 v1 rfl rfl) h1
  obtain ⟨a2, rfl, le2⟩ := op_str Tryd.underlying9 (hval 2 9 v2 rfl rfl) h2
  clear hA0 hval0
  refine (pathOrders_fr a0 a1 a2 W le0 le1 le2).mono fun e W' ⟨he, ext⟩ => ?_
  subst he
  have bel := ext.below
  exact ⟨_, rfl, _, _, _, [], _, [], hW', trodAll_mk1 (shut_bool Tryd.underlying4 _), (trodAll_cons_mk (Below.trod laidOut (by kernel_rfl) (of_decide_eq_true (by kernel_rfl)) k0 bel lt0) (trodAll_cons_mk (Below.trod laidOut (by kernel_rfl) (of_decide_eq_true (by kernel_rfl)) k1 bel lt1) (trodAll_cons_mk (Below.trod laidOut (by kernel_rfl) (of_decide_eq_true (by kernel_rfl)) k2 bel lt2) trodAll_mk0))), rfl, bel.frame _, fun h => by cases h⟩

theorem over : Rows.pathOrdersRow.holds Tryd.pinned (OpenSpec.ofChange Rows.pathOrdersSpec) :=
  OpenClaim.holds_of_wide 5 Tryd.f5 rfl rfl rfl rfl rfl rfl rfl ⟨rfl, rfl, rfl, rfl, rfl⟩ rfl rfl rfl rfl rfl (by kernel_rfl) Tryd.func5 (by kernel_rfl)
    (of_decide_eq_true (by kernel_rfl)) (by unfold Func.isWrapper; first | (rw [if_pos (by decide +kernel)]; kernel_rfl) | (rw [if_neg (by decide +kernel)]; exact ⟨rfl, rfl⟩))
    (fun os started H enc _ => lifted os started H enc)

/-- THE STATEMENT: the card over the row, tied to the program's text -/
theorem proved : Rows.PathOrdersCardSaid :=
  Claim7.holds_tied_plain_at .later [] [.data, .pinned] true (true, "0ea52a9c6a5f6601e2c5d4469c0ca288f1816747c971d0c94f5de6128d0903f0") true over (fun _ h => by cases h) (by kernel_rfl) (fun _ h => by cases h) pathOrders_row_tie rfl ⟨rfl, rfl⟩ (by kernel_rfl) rfl
    (fun f fn hf hfn => by
      obtain rfl : f = 5 := Option.some.inj ((show Tryd.prog.funcNamed "coldstore/coldstorelaw05.PathOrders" = some 5 by kernel_rfl).symm.trans hf) |>.symm
      obtain rfl : fn = Tryd.f5 := (Option.some.inj (Tryd.func5.symm.trans hfn)).symm
      exact ⟨by kernel_rfl, fun j t ht => by
        rw [Tryd.params5] at ht
        have hm : t ∈ [9, 9, 9] := by simpa using Array.mem_of_getElem? ht
        have hall : ([9, 9, 9].all fun u => !Tryd.prog.wantsStandIn u) = true := by kernel_rfl
        exact (show Tryd.prog.wantsStandIn t = false by simpa using List.all_eq_true.1 hall t hm)⟩)
    (by kernel_rfl)
#print axioms proved
end Go.Proofs.YtajilboimjcfjaaDoor.pathOrders
end
