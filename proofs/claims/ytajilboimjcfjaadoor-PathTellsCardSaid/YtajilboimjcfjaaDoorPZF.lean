/-
  JOINED (6): the documents answer: Parts, Part, Glue, Right, Within, Cut, SameStrings, Less, Clean; the head of a drawn region.
-/
import Derived.Test.YtajilboimjcfjaaDoorPZE
import Derived.Deep.QuietTactic
import Derived.BigQuiet
import Derived.StillTail
set_option linter.unusedVariables false
set_option linter.unusedSimpArgs false

section
/- The documents' answer: Parts, Part. -/
namespace Go.Proofs.YtajilboimjcfjaaDoor
open Go.RowKit Go.My

set_option maxRecDepth 100000 in
set_option maxHeartbeats 4000000 in
theorem refParts_any (l : List UInt8) (w : World) (hl : l.length ≤ 1000000000) :
    Calls Tryd.prog 12 #[.string (strB l)] w fun e w' => ∃ v, e = .returned v ∧ w'.ownsRow w.heap.size 9 1 v (partsL l).length (strVs (partsL l)) ∧ Ext No w w' := by
  have hz := strB_size l
  obtain ⟨n, hn⟩ : ∃ n, n = l.length := ⟨_, rfl⟩
  rw [← hn] at hz hl
  have HN := Lib.hid hn
  have HX0 := Lib.hid (show Ext No w (w.alloc (.cells #[] 9)) from (Ext.refl No w).alloc _)
  have HO0 := Lib.hid (show (w.alloc (.cells #[] 9)).ownsRow w.heap.size 9 1 (.slice (some ⟨w.heap.size, 0, none⟩) 0 0) 0 (strVs []) from World.ownsRow_made w #[] 0 (Nat.le_refl _) (by decide) rfl)
  clear hn
  go_enter Tryd.func12, Tryd.ntmps12
  go_wp2_with fail
  go_loopw [3, 4, 5] (fun out fr i wr => ∃ (k f : Nat) (O : List (List UInt8)) (a : Option Addr) (c m : Nat), i = .int .i64 k ∧ fr = .int .i64 f ∧ out = .slice a m c ∧ m = O.length ∧ f ≤ k ∧ k ≤ n ∧ m ≤ k ∧ wr.ownsRow w.heap.size 9 1 (.slice a m c) m (strVs O) ∧ Ext No w wr ∧ O ++ partsL (l.drop f) = partsL l ∧ (47 : UInt8) ∉ (l.take k).drop f) (fun _ _ i _ => n - (intOf i).toNat)
  case atStart => exact ⟨0, 0, [], _, _, 0, rfl, rfl, rfl, rfl, Nat.le_refl _, Nat.zero_le _, Nat.le_refl _, HO0.out, HX0.out, by simp, by simp⟩
  case round =>
    obtain ⟨k, f, O, a, c, m, rfl, rfl, rfl, hm, hfk, hk, hmk, hown, hx, hp, hfree⟩ := hrel
    have HO := Lib.hid hown; have HX := Lib.hid hx; have HP := Lib.hid hp; have HF := Lib.hid hfree; have HM := Lib.hid hm
    have hfi : (f : Int) ≤ k := by omega
    have hkn : (k : Int) ≤ n := by omega
    clear hown hx hp hfree hm
    by_cases hlt : k < n
    · have hltI : (k : Int) < n := by omega
      have hgc := strB_get l k
      have htk : (l.take (k + 1)).drop f = (l.take k).drop f ++ [l.getD k 0] := by
        rw [List.take_add_one, List.getElem?_eq_getElem (by rw [← HN.out]; exact hlt), List.drop_append_of_le_length (by rw [List.length_take, ← HN.out]; omega)]
        simp [List.getD_eq_getElem?_getD, List.getElem?_eq_getElem (show k < l.length by rw [← HN.out]; exact hlt)]
      have hdr : l.drop f = (l.take k).drop f ++ l.getD k 0 :: l.drop (k + 1) := by
        have e := List.take_append_drop k l
        have e2 : l.drop k = l.getD k 0 :: l.drop (k + 1) := by
          rw [List.drop_eq_getElem_cons (by rw [← HN.out]; exact hlt)]
          simp [List.getD_eq_getElem?_getD, List.getElem?_eq_getElem (show k < l.length by rw [← HN.out]; exact hlt)]
        conv => lhs; rw [← e]
        rw [List.drop_append_of_le_length (by rw [List.length_take, ← HN.out]; omega), e2]
      have hex : (strB l).extract f k = strB ((l.take k).drop f) := strB_extract l f k
      generalize l.getD k 0 = x at *
      generalize hy : (l.take k).drop f = y at *
      have HTK := Lib.hid htk; have HDR := Lib.hid hdr; have HY := Lib.hid hy
      clear htk hdr hy
      by_cases h47 : x = 47
      · have q1 : (x.toNat : Int) = 47 := by rw [h47]; rfl
        have H47 := Lib.hid h47
        have HOW := Lib.hid (HO.out.alloc (.cells #[.string (strB y)] 9))
        have HZ := Lib.hid (show w.heap.size ≤ (wr.alloc (.cells #[.string (strB y)] 9)).heap.size by have := HX.out.size; rw [World.size_alloc]; omega)
        have HNM := Lib.hid (show m + 1 ≤ 9223372036854775807 ∧ (m + 1) * 16 ≤ 140737488355328 by omega)
        clear h47
        go_wp2_with (at_builtin; refine wpList_app1 _ _ rfl _ _ 30 rfl w.heap.size 9 _ _ str_info Tryd.underlying30 rfl _ _ _ rfl HOW.out _ rfl (cell_new _ _ _ rfl) rfl HNM.out.1 HNM.out.2 HZ.out ?_; intro v' w2 hown2 hg; obtain ⟨a6, c6, rfl⟩ := own_form hown2)
        go_roundw
        case rel =>
          refine ⟨k + 1, k + 1, O ++ [y], a6, c6, m + 1, by go_num, by go_num, rfl, by rw [List.length_append, ← HM.out]; rfl, Nat.le_refl _, by omega, by omega, ?_, ?_, ?_, ?_⟩
          · have : strVs (O ++ [y]) = strVs O ++ [.string (strB y)] := by unfold strVs; simp
            rw [this]; exact hown2
          · exact (HX.out.alloc _).grown hg (fun i hi hlt => absurd hlt (by have := ((HO.out.alloc (.cells #[] 9)).lt i hi).1; omega))
          · rw [List.append_assoc, ← HP.out, HDR.out, H47.out, parts_append, parts_of_free y HF.out]
          · rw [List.drop_eq_nil_of_le (by rw [List.length_take]; omega)]; simp
        case measure => simp [intOf]; omega
      · have q1 : ((x.toNat : Int) == 47) = false := by
          rw [beq_eq_false_iff_ne]; intro h; apply h47; apply UInt8.toNat_inj.1; show x.toNat = 47; omega
        have q2 : ¬ (x.toNat : Int) = 47 := by
          intro h; apply h47; apply UInt8.toNat_inj.1; show x.toNat = 47; omega
        have H47 := Lib.hid h47
        clear h47
        go_wp2_with fail
        go_roundw
        case rel =>
          refine ⟨k + 1, f, O, a, c, m, by go_num, rfl, rfl, HM.out, by omega, by omega, by omega, HO.out, HX.out, HP.out, ?_⟩
          rw [HTK.out]
          intro h
          rcases List.mem_append.1 h with h | h
          · exact HF.out h
          · exact H47.out (List.mem_singleton.1 h).symm
        case measure => simp [intOf]; omega
    · have hkk : n = k := by omega
      subst hkk
      have hex : (strB l).extract f n = strB ((l.take n).drop f) := strB_extract l f n
      have hy : (l.take n).drop f = l.drop f := by rw [HN.out, List.take_length]
      rw [hy] at hex HF
      generalize hy2 : l.drop f = y at *
      have HOW := Lib.hid (HO.out.alloc (.cells #[.string (strB y)] 9))
      have HZ := Lib.hid (show w.heap.size ≤ (wr.alloc (.cells #[.string (strB y)] 9)).heap.size by have := HX.out.size; rw [World.size_alloc]; omega)
      have HNM := Lib.hid (show m + 1 ≤ 9223372036854775807 ∧ (m + 1) * 16 ≤ 140737488355328 by omega)
      clear hy hy2
      go_wp2_with (at_builtin; refine wpList_app1 _ _ rfl _ _ 30 rfl w.heap.size 9 _ _ str_info Tryd.underlying30 rfl _ _ _ rfl HOW.out _ rfl (cell_new _ _ _ rfl) rfl HNM.out.1 HNM.out.2 HZ.out ?_; intro v' w2 hown2 hg; obtain ⟨a6, c6, rfl⟩ := own_form hown2)
      go_ret
      refine ⟨_, rfl, ?_, (HX.out.alloc _).grown hg (fun i hi hlt => absurd hlt (by have := ((HO.out.alloc (.cells #[] 9)).lt i hi).1; omega))⟩
      have e : partsL l = O ++ [y] := by rw [← HP.out, parts_of_free y HF.out]
      have e2 : strVs (O ++ [y]) = strVs O ++ [.string (strB y)] := by unfold strVs; simp
      rw [e, e2, List.length_append, ← HM.out]
      exact hown2

set_option maxRecDepth 100000 in
set_option maxHeartbeats 4000000 in
theorem refPart_any (s : List UInt8) (w : World) (hs : s.length ≤ 9223372036854775807) :
    Calls Tryd.prog 31 #[.string (strB s)] w fun e w' => e = .returned (.bool (partB s)) ∧ w = w' := by
  have hz := strB_size s
  have hl := strB_list s
  by_cases h0 : s = []
  · subst h0
    go_enter Tryd.func31, Tryd.ntmps31
    go_wp2_with fail
    go_ret
    exact ⟨rfl, rfl⟩
  by_cases h1 : s = [46]
  · subst h1
    go_enter Tryd.func31, Tryd.ntmps31
    go_wp2_with fail
    go_ret
    exact ⟨rfl, rfl⟩
  have b1 : ((strB s).toList == [46]) = false := by rw [hl]; exact list_beq h1
  by_cases h2 : s = [46, 46]
  · subst h2
    go_enter Tryd.func31, Tryd.ntmps31
    go_wp2_with fail
    go_ret
    exact ⟨rfl, rfl⟩
  have b2 : ((strB s).toList == [46, 46]) = false := by rw [hl]; exact list_beq h2
  have hpart : partB s = (decide (s.length ≤ 40) && s.all letterB) := by unfold partB; simp [h0, h1, h2]
  have HP := Lib.hid hpart
  have hpos : 0 < s.length := List.length_pos_iff.2 h0
  obtain ⟨n, hn⟩ : ∃ n, n = s.length := ⟨_, rfl⟩
  rw [← hn] at hz hs hpos
  have HN := Lib.hid hn; have HLs := Lib.hid hl
  have hp1 : decide ((n : Int) < 1) = false := by simp; omega
  clear hpart h0 h1 h2 hn hl
  by_cases h40 : 40 < n
  · have h40i : (40 : Int) < n := by omega
    go_enter Tryd.func31, Tryd.ntmps31
    go_wp2_with fail
    go_ret
    refine ⟨?_, rfl⟩
    rw [HP.out, ← HN.out]
    have : decide (n ≤ 40) = false := by simp; omega
    rw [this]; rfl
  have h40i : decide ((40 : Int) < n) = false := by simp; omega
  go_enter Tryd.func31, Tryd.ntmps31
  go_wp2_with fail
  go_loopw [3] (fun i wr => ∃ k : Nat, i = .int .i64 k ∧ k ≤ n ∧ wr = w ∧ (s.take k).all letterB = true) (fun i _ => n - (intOf i).toNat)
  case atStart => exact ⟨0, rfl, Nat.zero_le _, rfl, rfl⟩
  case round =>
    obtain ⟨k, rfl, hk, rfl, hall⟩ := hrel
    have HALL := Lib.hid hall; clear hall
    by_cases hlt : k < n
    · have hltI : (k : Int) < n := by omega
      have hgc := strB_get s k
      have htk : (s.take (k + 1)).all letterB = ((s.take k).all letterB && letterB (s.getD k 0)) := all_take_step s 0 letterB k (by rw [← HN.out]; exact hlt)
      have hno : letterB (s.getD k 0) = false → s.all letterB = false := fun h => all_false_of s letterB _ (getD_in s (by rw [← HN.out]; exact hlt)) h
      generalize s.getD k 0 = x at *
      have HTK := Lib.hid htk; have HNO := Lib.hid hno
      clear htk hno
      have hlx : letterB x = ((decide (97 ≤ x.toNat) && decide (x.toNat ≤ 122)) || (decide (48 ≤ x.toNat) && decide (x.toNat ≤ 57)) || decide (x.toNat = 46) || decide (x.toNat = 95) || decide (x.toNat = 45)) := rfl
      have HLX := Lib.hid hlx
      clear hlx
      have c1 : (decide ((97 : Int) ≤ x.toNat) = true ∧ decide ((x.toNat : Int) ≤ 122) = true ∧ letterB x = true) ∨ (((decide ((97 : Int) ≤ x.toNat) = true ∧ decide ((x.toNat : Int) ≤ 122) = false) ∨ decide ((97 : Int) ≤ x.toNat) = false) ∧ letterB x = ((decide (48 ≤ x.toNat) && decide (x.toNat ≤ 57)) || decide (x.toNat = 46) || decide (x.toNat = 95) || decide (x.toNat = 45))) := by
        rw [HLX.out]
        by_cases h : 97 ≤ x.toNat ∧ x.toNat ≤ 122
        · exact .inl ⟨by simp; omega, by simp; omega, by simp [h.1, h.2]⟩
        · refine .inr ⟨by simp; omega, ?_⟩
          have e : (decide (97 ≤ x.toNat) && decide (x.toNat ≤ 122)) = false := by simp; omega
          rw [e]; rfl
      have c2 : (decide ((48 : Int) ≤ x.toNat) = true ∧ decide ((x.toNat : Int) ≤ 57) = true ∧ (decide (48 ≤ x.toNat) && decide (x.toNat ≤ 57)) = true) ∨ (((decide ((48 : Int) ≤ x.toNat) = true ∧ decide ((x.toNat : Int) ≤ 57) = false) ∨ decide ((48 : Int) ≤ x.toNat) = false) ∧ (decide (48 ≤ x.toNat) && decide (x.toNat ≤ 57)) = false) := by
        by_cases h : 48 ≤ x.toNat ∧ x.toNat ≤ 57
        · exact .inl ⟨by simp; omega, by simp; omega, by simp [h.1, h.2]⟩
        · exact .inr ⟨by simp; omega, by simp; omega⟩
      have c3 : ∃ y, ((x.toNat : Int) == 46) = y ∧ decide ((x.toNat : Int) = 46) = y ∧ decide (x.toNat = 46) = y := ⟨_, rfl, by rw [Bool.eq_iff_iff]; simp, by rw [Bool.eq_iff_iff]; simp; omega⟩
      have c4 : ∃ y, ((x.toNat : Int) == 95) = y ∧ decide ((x.toNat : Int) = 95) = y ∧ decide (x.toNat = 95) = y := ⟨_, rfl, by rw [Bool.eq_iff_iff]; simp, by rw [Bool.eq_iff_iff]; simp; omega⟩
      have c5 : ∃ y, ((x.toNat : Int) == 45) = y ∧ decide ((x.toNat : Int) = 45) = y ∧ decide (x.toNat = 45) = y := ⟨_, rfl, by rw [Bool.eq_iff_iff]; simp, by rw [Bool.eq_iff_iff]; simp; omega⟩
      obtain ⟨y3, g3, g3', g3''⟩ := c3
      obtain ⟨y4, g4, g4', g4''⟩ := c4
      obtain ⟨y5, g5, g5', g5''⟩ := c5
      have hr : (letterB x = true → (s.take (k + 1)).all letterB = true) := fun h => by rw [HTK.out, HALL.out, h]; rfl
      have HR := Lib.hid hr
      clear hr
      clear HLX
      rcases c1 with ⟨a1, a2, a3⟩ | ⟨a1, a3⟩
      · have HV := Lib.hid a3
        clear a3 c2 g3 g3' g3'' g4 g4' g4'' g5 g5' g5''
        go_wp2_with fail
        go_roundw
        case rel => exact ⟨k + 1, by go_num, by omega, by trivial, HR.out HV.out⟩
        case measure => simp [intOf]; omega
      · rw [g3'', g4'', g5''] at a3
        generalize (decide (48 ≤ x.toNat) && decide (x.toNat ≤ 57)) = B at *
        have HV := Lib.hid a3
        clear a3 g3'' g4'' g5''
        rcases c2 with ⟨b1, b2, b3⟩ | ⟨b1, b3⟩
        · subst b3
          clear g3 g4 g5 g3' g4' g5'
          rcases a1 with ⟨a1, a2⟩ | a1
          all_goals go_wp2_with fail
          all_goals go_roundw
          all_goals first | exact ⟨k + 1, by go_num, by omega, by trivial, HR.out (by rw [HV.out]; rfl)⟩ | (simp [intOf]; omega)
        · subst b3
          rcases a1 with ⟨a1, a2⟩ | a1
          all_goals rcases b1 with ⟨b1, b2⟩ | b1
          all_goals cases y3
          all_goals cases y4
          all_goals cases y5
          all_goals go_wp2_with fail
          all_goals first
            | (go_ret
               refine ⟨?_, rfl⟩
               rw [HP.out, HNO.out (by rw [HV.out]; rfl), Bool.and_false]
               rfl)
            | (go_roundw
               case rel => exact ⟨k + 1, by go_num, by omega, by trivial, HR.out (by rw [HV.out]; rfl)⟩
               case measure => simp [intOf]; omega)
    · have hkn : n = k := by omega
      subst hkn
      go_wp2_with fail
      go_ret
      refine ⟨?_, rfl⟩
      rw [HP.out, ← HN.out]
      have h := HALL.out
      rw [List.take_of_length_le (by rw [← HN.out]; exact Nat.le_refl _)] at h
      have h2 : decide (n ≤ 40) = true := by simp; omega
      rw [h2, h]; rfl

end Go.Proofs.YtajilboimjcfjaaDoor
end

section
/- The documents' answer: Right, Glue, Within, Cut; SameStrings. -/
namespace Go.Proofs.YtajilboimjcfjaaDoor
open Go.RowKit Go.My

theorem strs_cell {w : World} {ns : List (List UInt8)} {b o n c : Nat} (h : IsStrs w ns (.slice (some ⟨b, o, none⟩) n c)) (i : Nat) (hi : i < n) : w.cell? ⟨b, o + i, none⟩ = some (.string (strB (ns.getD i []))) := by
  obtain ⟨b1, o1, h1, h2⟩ := strs_get h i hi
  cases h1
  exact h2
theorem strs_form {w : World} {ns : List (List UInt8)} {v : Value} (h : IsStrs w ns v) (h0 : 0 < ns.length) : ∃ b o c, v = .slice (some ⟨b, o, none⟩) ns.length c ∧ ns.length ≤ c ∧ c ≤ 9223372036854775807 := by
  obtain ⟨a, c, rfl, h1, h2, -⟩ := id h
  obtain ⟨b1, o1, rfl, -⟩ := strs_get h 0 h0
  exact ⟨b1, o1, c, rfl, h1, h2⟩
theorem strs_take {w : World} {ns : List (List UInt8)} {a : Option Addr} {n c k : Nat} (h : IsStrs w ns (.slice a n c)) (hk : k ≤ n) : IsStrs w (ns.take k) (.slice a k c) := by
  obtain ⟨a', c', h1, h2, h3, h4⟩ := h
  cases h1
  refine ⟨a, c, ?_, ?_, h3, ?_⟩
  · rw [List.length_take, Nat.min_eq_left hk]
  · rw [List.length_take]; omega
  · rw [List.length_take, Nat.min_eq_left hk]
    intro i hi
    have := h4 i (by omega)
    unfold strV at this ⊢
    rw [show (ns.take k).getD i [] = ns.getD i [] by rw [List.getD_eq_getElem?_getD, List.getD_eq_getElem?_getD, List.getElem?_take_of_lt hi]]
    exact this

theorem glue_take (ns : List (List UInt8)) (k : Nat) : (glueL (ns.take k)).length ≤ (glueL ns).length := by
  by_cases h1 : ns.take k = []
  · rw [h1]; exact Nat.zero_le _
  by_cases h2 : ns.drop k = []
  · rw [List.take_of_length_le (List.drop_eq_nil_iff.1 h2)]; exact Nat.le_refl _
  have := glue_append _ _ h1 h2
  rw [List.take_append_drop] at this
  rw [this, List.length_append]
  omega
theorem glue_snoc (ns : List (List UInt8)) (k : Nat) (h : k < ns.length) : glueL (ns.take (k + 1)) = if k = 0 then ns.getD k [] else glueL (ns.take k) ++ 47 :: ns.getD k [] := by
  rw [takeP_snoc ns k h]
  by_cases h0 : k = 0
  · subst h0; rw [List.take_zero, if_pos rfl]; rfl
  · rw [if_neg h0, glue_append _ _ (by intro hx; rw [List.take_eq_nil_iff] at hx; rcases hx with hx | hx; exact h0 hx; rw [hx] at h; simp at h) (by simp)]
    rfl
set_option maxRecDepth 100000 in
set_option maxHeartbeats 4000000 in
theorem refGlue_any (ns : List (List UInt8)) (v : Value) (w : World) (h : IsStrs w ns v) (hlen : (glueL ns).length ≤ 1099511627776) :
    Calls Tryd.prog 32 #[v] w fun e w' => e = .returned (.string (strB (glueL ns))) ∧ w = w' := by
  obtain ⟨a, c, rfl, hc1, hc2, -⟩ := id h
  obtain ⟨n, hn⟩ : ∃ n, n = ns.length := ⟨_, rfl⟩
  rw [← hn] at h hc1 ⊢
  have H := Lib.hid h; have HN := Lib.hid hn; have HL := Lib.hid hlen
  clear h hn hlen
  go_enter Tryd.func32, Tryd.ntmps32
  go_wp2_with fail
  go_loopw [3, 4] (fun out i wr => ∃ k : Nat, i = .int .i64 k ∧ k ≤ n ∧ out = .string (strB (glueL (ns.take k))) ∧ wr = w) (fun _ i _ => n - (intOf i).toNat)
  case atStart => exact ⟨0, rfl, Nat.zero_le _, rfl, rfl⟩
  case round =>
    obtain ⟨k, rfl, hk, rfl, rfl⟩ := hrel
    by_cases hlt : k < n
    · have hltI : (k : Int) < n := by omega
      obtain ⟨b1, o1, rfl, e1⟩ := strs_get H.out k hlt
      have hsn := glue_snoc ns k (by rw [← HN.out]; exact hlt)
      have hl1 := glue_take ns k
      have hl2 := glue_take ns (k + 1)
      have hl3 := HL.out
      generalize ns.getD k [] = x at *
      generalize hg2 : glueL (ns.take (k + 1)) = g2 at *
      generalize hg1 : glueL (ns.take k) = g1 at *
      have HG2 := Lib.hid hg2
      by_cases h0 : k = 0
      · rw [if_pos h0] at hsn
        have e0 : g1 = [] := by rw [← hg1, h0]; rfl
        have h0i : decide ((0 : Int) < k) = false := by simp; omega
        have h0n : ¬ 0 < k := by omega
        have h0d : decide (0 < k) = false := by simp; omega
        have z1 := strB_size x; have z2 := strB_size g1
        have q1 : strB g1 ++ strB x = strB g2 := by rw [strB_append, hsn, e0]; rfl
        have hgl : g2.length = x.length := by rw [hsn]
        have hgl0 : g1.length = 0 := by rw [e0]; rfl
        generalize x.length = nx at *
        generalize g1.length = n1 at *
        have r1 : ¬ 9223372036854775807 < n1 + nx := by omega
        clear hsn hl1 hl2 hl3 hg1 hg2 hgl h0 e0 hgl0
        go_wp2_with fail
        go_roundw
        case rel => exact ⟨k + 1, by go_num, by omega, by rw [HG2.out], by trivial⟩
        case measure => simp [intOf]; omega
      · rw [if_neg h0] at hsn
        have z1 := strB_size x; have z2 := strB_size g1
        obtain ⟨g3, hg3⟩ : ∃ g, g = g1 ++ [47] := ⟨_, rfl⟩
        have q1 : strB g1 ++ (⟨#[47]⟩ : ByteArray) = strB g3 := by rw [hg3]; exact strB_append g1 [47]
        have q2 : strB g3 ++ strB x = strB g2 := by rw [strB_append, hsn, hg3]; simp
        have z3 := strB_size g3
        have hgl3 : g3.length = g1.length + 1 := by rw [hg3]; simp
        have hgl : g2.length = g1.length + 1 + x.length := by rw [hsn]; simp; omega
        rw [hgl3] at z3
        have h0i : (0 : Int) < k := by omega
        have h0n : 0 < k := by omega
        generalize x.length = nx at *
        generalize g1.length = n1 at *
        have r1 : ¬ 9223372036854775807 < n1 + 1 := by omega
        have r2 : ¬ 9223372036854775807 < n1 + 1 + nx := by omega
        clear hsn hl1 hl2 hl3 hg1 hg2 hgl hgl3 hg3
        go_wp2_with fail
        go_roundw
        case rel => exact ⟨k + 1, by go_num, by omega, by rw [HG2.out], by trivial⟩
        case measure => simp [intOf]; omega
    · have hkn : n = k := by omega
      subst hkn
      rw [HN.out, List.take_length]
      go_wp2_with fail
      go_ret
      exact ⟨rfl, rfl⟩

set_option maxRecDepth 100000 in
set_option maxHeartbeats 4000000 in
theorem refRight_any (l : List UInt8) (w : World) (hl : l.length ≤ 1000000000) :
    Calls Tryd.prog 14 #[.string (strB l)] w fun e w' => e = .returned (.bool (decide (checkE l = 0))) ∧ Ext No w w' := by
  have hz := strB_size l
  have HC := Lib.hid (check_iff l)
  have HPL := Lib.hid (partsL_len l)
  have HP := Lib.hid (refParts_any l w hl)
  obtain ⟨n, hn⟩ : ∃ n, n = l.length := ⟨_, rfl⟩
  rw [← hn] at hz hl
  have HN := Lib.hid hn
  have HCN := Lib.hid (partsL_count l)
  clear hn
  go_enter Tryd.func14, Tryd.ntmps14
  go_wp2_with fail
  refine HP.out.mono ?_
  rintro e w1 ⟨v, rfl, ho, hE⟩
  have hs := strs_own ho
  obtain ⟨a, c, rfl, hc1, hc2, -⟩ := id hs
  obtain ⟨m, hm⟩ : ∃ m, m = (partsL l).length := ⟨_, rfl⟩
  rw [← hm] at hs hc1 ⊢
  have HS := Lib.hid hs; have HM := Lib.hid hm; have HE := Lib.hid hE
  have hm63 : m ≤ 1000000001 := by have := HCN.out; have := HN.out; omega
  clear hs hm hE ho
  dsimp only
  go_wp2_with fail
  go_loopw [4] (fun i wr => ∃ k : Nat, i = .int .i64 k ∧ k ≤ m ∧ wr = w1 ∧ ((partsL l).take k).all partB = true) (fun i _ => m - (intOf i).toNat)
  case atStart => exact ⟨0, rfl, Nat.zero_le _, rfl, rfl⟩
  case round =>
    obtain ⟨k, rfl, hk, rfl, hall⟩ := hrel
    have HALL := Lib.hid hall; clear hall
    by_cases hlt : k < m
    · have hltI : (k : Int) < m := by omega
      obtain ⟨b1, o1, rfl, e1⟩ := strs_get HS.out k hlt
      have hlt' : k < (partsL l).length := by rw [← HM.out]; exact hlt
      have htk := all_take_step (partsL l) [] partB k hlt'
      have hno := all_false_of (partsL l) partB _ (parts_get l k hlt').1
      have hlx := (parts_get l k hlt').2
      generalize (partsL l).getD k [] = x at *
      have HTK := Lib.hid htk; have HNO := Lib.hid hno
      have HQ := Lib.hid (refPart_any x wr (by have := HN.out; omega))
      generalize partB x = t at *
      clear htk hno hlx hlt'
      go_wp2_with fail
      refine HQ.out.mono ?_
      rintro e w' ⟨rfl, rfl⟩
      dsimp only
      cases t
      · go_wp2_with fail
        go_ret
        refine ⟨?_, HE.out⟩
        have : ¬ checkE l = 0 := fun h => by
          have h1 := (HC.out.1 h).2
          have h2 := HNO.out trivial
          rw [List.all_eq_true.2 h1] at h2
          cases h2
        rw [decide_eq_false this]; rfl
      · go_wp2_with fail
        go_roundw
        case rel => exact ⟨k + 1, by go_num, by omega, by trivial, by rw [HTK.out, HALL.out]; rfl⟩
        case measure => simp [intOf]; omega
    · have hkm : m = k := by omega
      subst hkm
      have hall := HALL.out
      rw [List.take_of_length_le (by rw [← HM.out]; exact Nat.le_refl _)] at hall
      have hd : decide (checkE l = 0) = decide ((n : Int) ≤ 120) := by
        rw [Bool.eq_iff_iff, decide_eq_true_eq, decide_eq_true_eq, HC.out, ← HN.out]
        exact ⟨fun h => by omega, fun h => ⟨by omega, fun p hp => List.all_eq_true.1 hall p hp⟩⟩
      generalize hq : decide ((n : Int) ≤ 120) = q at *
      have HD := Lib.hid hd
      clear hd hall
      go_wp2_with fail
      go_ret
      refine ⟨?_, HE.out⟩
      rw [HD.out]; rfl

end Go.Proofs.YtajilboimjcfjaaDoor
end

section
/- The documents' answer: Within, Cut; SameStrings. -/
namespace Go.Proofs.YtajilboimjcfjaaDoor
open Go.RowKit Go.My

theorem within_iff (p d : List UInt8) : withinB p d = (decide (d = []) || (decide (d.length < p.length) && (decide (p.take d.length = d) && decide (p.getD d.length 0 = 47)))) := by
  unfold withinB preB
  congr 1
  rw [Bool.eq_iff_iff]
  simp only [Bool.and_eq_true, decide_eq_true_eq, List.length_append, List.length_singleton]
  constructor
  · rintro ⟨h1, h2⟩
    have e : p.take (d.length + 1) = p.take d.length ++ [p.getD d.length 0] := by
      rw [List.take_add_one, List.getElem?_eq_getElem (by omega)]
      simp [List.getD_eq_getElem?_getD, List.getElem?_eq_getElem (show d.length < p.length by omega)]
    rw [e] at h2
    have h3 := List.append_inj h2 (by rw [List.length_take]; omega)
    exact ⟨by omega, h3.1, (List.cons.inj h3.2).1⟩
  · rintro ⟨h1, h2, h3⟩
    refine ⟨by omega, ?_⟩
    rw [List.take_add_one, List.getElem?_eq_getElem (by omega), h2]
    have : p[d.length] = 47 := by rw [← h3]; simp [List.getD_eq_getElem?_getD, List.getElem?_eq_getElem (show d.length < p.length by omega)]
    simp [this]
set_option maxRecDepth 100000 in
set_option maxHeartbeats 4000000 in
theorem refWithin_any (p d : List UInt8) (w : World) (hp : p.length ≤ 9223372036854775807) (hd : d.length ≤ 9223372036854775807) :
    Calls Tryd.prog 21 #[.string (strB p), .string (strB d)] w fun e w' => e = .returned (.bool (withinB p d)) ∧ w = w' := by
  have HW := Lib.hid (within_iff p d)
  have z1 := strB_size p; have z2 := strB_size d
  obtain ⟨n, hn⟩ : ∃ n, n = p.length := ⟨_, rfl⟩
  obtain ⟨m, hm⟩ : ∃ m, m = d.length := ⟨_, rfl⟩
  have heq := strB_eq (p.take m) d
  have hex : (strB p).extract 0 m = strB (p.take m) := by rw [strB_extract, List.drop_zero]
  have hgc := strB_get p m
  rw [← hm] at HW; rw [← hn] at HW
  rw [← hn] at z1 hp; rw [← hm] at z2 hd
  have HM := Lib.hid hm
  generalize p.getD m 0 = x at *
  generalize decide (p.take m = d) = t at *
  generalize p.take m = y at *
  by_cases h0 : m = 0
  · subst h0
    have hd0 : d = [] := by cases d with | nil => rfl | cons a b => simp at hm
    have HD := Lib.hid hd0
    clear hd0 hn hm
    go_enter Tryd.func21, Tryd.ntmps21
    go_wp2_with fail
    go_ret
    refine ⟨?_, rfl⟩
    rw [HW.out, HD.out]; rfl
  · have hd0 : decide (d = []) = false := by
      rw [decide_eq_false_iff_not]; rintro rfl; exact h0 (by rw [hm]; rfl)
    have hw := HW.out
    rw [hd0] at hw
    have HW2 := Lib.hid hw
    have hb : ((m : Int) == 0) = false := by simp; omega
    clear hn hm HW hw hd0
    by_cases hmn : m < n
    · have hmi : (m : Int) < n := by omega
      have hmi2 : (m : Int) ≤ n := by omega
      have hw := HW2.out
      rw [decide_eq_true hmn] at hw
      have HW3 := Lib.hid hw
      clear hw HW2
      cases t
      · go_enter Tryd.func21, Tryd.ntmps21
        go_wp2_with fail
        go_ret
        refine ⟨?_, rfl⟩
        rw [HW3.out]; rfl
      · have h47 : ∃ q, decide (x = 47) = q ∧ ((x.toNat : Int) == 47) = q ∧ decide ((x.toNat : Int) = 47) = q := by
          refine ⟨_, rfl, ?_, ?_⟩
          · rw [Bool.eq_iff_iff, beq_iff_eq, decide_eq_true_eq, ← UInt8.toNat_inj]; show _ ↔ x.toNat = 47; omega
          · rw [Bool.eq_iff_iff, decide_eq_true_eq, decide_eq_true_eq, ← UInt8.toNat_inj]; show _ ↔ x.toNat = 47; omega
        obtain ⟨q, q1, q2, q3⟩ := h47
        have Q1 := Lib.hid q1
        clear q1
        go_enter Tryd.func21, Tryd.ntmps21
        go_wp2_with fail
        go_ret
        refine ⟨?_, rfl⟩
        rw [HW3.out, Q1.out]
        cases q <;> rfl
    · have hmi : decide ((m : Int) < n) = false := by simp; omega
      have hw := HW2.out
      rw [decide_eq_false hmn] at hw
      have HW3 := Lib.hid hw
      clear hw HW2 heq hex hgc
      go_enter Tryd.func21, Tryd.ntmps21
      go_wp2_with fail
      go_ret
      refine ⟨?_, rfl⟩
      rw [HW3.out]; rfl

set_option maxRecDepth 100000 in
set_option maxHeartbeats 4000000 in
theorem refCut_any (l : List UInt8) (w : World) (hl : l.length ≤ 1000000000) :
    Calls Tryd.prog 11 #[.string (strB l)] w fun e w' => e = .returned (.tuple #[.string (strB (parentL l)), .string (strB (baseL l))]) ∧ Ext No w w' := by
  have HP := Lib.hid (refParts_any l w hl)
  obtain ⟨m, hm⟩ : ∃ m, (partsL l).length = m + 1 := ⟨(partsL l).length - 1, by have := List.length_pos_iff.2 (partsL_ne l); omega⟩
  have HM := Lib.hid hm
  have hcn := partsL_count l
  rw [hm] at hcn
  have hm63 : m ≤ 1000000001 := by omega
  have hpa := parent_last l
  have hba := base_last l
  rw [hm] at hpa hba
  have hpa2 : parentL l = glueL ((partsL l).take m) := hpa
  have hba2 : baseL l = (partsL l).getD m [] := hba
  have HPA := Lib.hid hpa2; have HBA := Lib.hid hba2
  have HGL := Lib.hid (show (glueL ((partsL l).take m)).length ≤ 1099511627776 by have := glue_take (partsL l) m; rw [glue_parts] at this; omega)
  clear hm hcn hpa hba hpa2 hba2
  go_enter Tryd.func11, Tryd.ntmps11
  go_wp2_with fail
  refine HP.out.mono ?_
  rintro e w1 ⟨v, rfl, ho, hE⟩
  have hv := strs_own ho
  obtain ⟨b, o, c, rfl, hc1, hc2⟩ := strs_form hv (by rw [HM.out]; omega)
  rw [HM.out] at hv hc1 ⊢
  have hcl := strs_cell hv m (by omega)
  have HQ : Hid (∀ j, Calls Tryd.prog 32 #[.slice (some ⟨b, o, none⟩) m c] (w1.drewN j) fun e w'' => e = .returned (.string (strB (glueL ((partsL l).take m)))) ∧ ∃ i, w'' = w1.drewN i) := Lib.hid fun j =>
    quiet_of_eq (refGlue_any _ (.slice (some ⟨b, o, none⟩) m c) _ ((strs_take hv (Nat.le_succ m)).ext0 ((Dr.mk _ _).ext No)) HGL.out)
  have HE := Lib.hid hE
  have hc3 : (m : Int) ≤ c := by omega
  have hc4 : (m : Int) ≤ m + 1 := by omega
  generalize (partsL l).getD m [] = x at *
  generalize glueL ((partsL l).take m) = g at *
  clear ho hv hE HGL
  dsimp only
  go_wp2_with fail
  go_quiet ((go_at_call 32; exact HQ.out _))
  go_wp2_with fail
  go_ret2
  refine ⟨?_, ?_⟩
  · rw [HPA.out, HBA.out]; rfl
  · exact HE.out.trans' ((Dr.mk _ _).ext No)

theorem take_step {α : Type} (ls ks : List α) (d : α) (k : Nat) (h1 : k < ls.length) (h2 : k < ks.length) (h : ls.take k = ks.take k) : ls.take (k + 1) = ks.take (k + 1) ↔ ls.getD k d = ks.getD k d := by
  rw [List.take_add_one, List.take_add_one, h, List.getElem?_eq_getElem h1, List.getElem?_eq_getElem h2, List.getD_eq_getElem?_getD, List.getD_eq_getElem?_getD, List.getElem?_eq_getElem h1, List.getElem?_eq_getElem h2]
  simp only [Option.toList_some, Option.getD_some, List.append_cancel_left_eq, List.cons.injEq, and_true]
set_option maxRecDepth 100000 in
set_option maxHeartbeats 4000000 in
theorem sameStrs_any (ls ks : List (List UInt8)) (v u : Value) (w : World) (h : IsStrs w ls v) (h' : IsStrs w ks u) :
    Calls Tryd.prog 22 #[v, u] w fun e w' => e = .returned (.bool (decide (ls = ks))) ∧ Dr w w' := by
  have H := Lib.hid (And.intro h h')
  obtain ⟨a, c, rfl, hc1, hc2, -⟩ := h
  obtain ⟨b, d, rfl, hc3, hc4, -⟩ := h'
  obtain ⟨m, hm⟩ : ∃ m, m = ls.length := ⟨_, rfl⟩
  obtain ⟨n, hn⟩ : ∃ n, n = ks.length := ⟨_, rfl⟩
  rw [← hm] at hc1 H ⊢; rw [← hn] at hc3 H ⊢
  have HM := Lib.hid hm; have HN := Lib.hid hn; clear hm hn
  go_enter Tryd.func22, Tryd.ntmps22
  by_cases hmn : m = n
  · subst hmn
    go_wp2_with fail
    go_loopw [5] (fun i wr => ∃ k : Nat, i = .int .i64 k ∧ k ≤ m ∧ Dr w wr ∧ ls.take k = ks.take k) (fun i _ => m - (intOf i).toNat)
    case atStart => exact ⟨0, rfl, by omega, Dr.refl _, by simp⟩
    case round =>
      obtain ⟨k, rfl, hk, hdr, ht⟩ := hrel
      have HT := Lib.hid ht; have HDR := Lib.hid hdr
      by_cases hlt : k < m
      · have hltI : (k : Int) < m := by omega
        obtain ⟨b1, o1, rfl, e1⟩ := IsRow.get H.out.1 k hlt
        obtain ⟨b2, o2, rfl, e2⟩ := IsRow.get H.out.2 k hlt
        rw [← hdr.cell] at e1 e2
        unfold strV at e1 e2
        have hst := take_step ls ks [] k (by rw [← HM.out]; exact hlt) (by rw [← HN.out]; exact hlt) HT.out
        have hse := strB_eq (ls.getD k []) (ks.getD k [])
        generalize ls.getD k [] = l1 at *
        generalize ks.getD k [] = l2 at *
        have HST := Lib.hid hst; clear hst hdr ht
        by_cases heq : l1 = l2
        · subst heq
          clear hse
          go_wp2_with fail
          go_quiet (fail)
          go_wp2_with fail
          go_roundw
          case rel => exact ⟨k + 1, by go_num, by omega, HDR.out.more _, HST.out.2 (by trivial)⟩
          case measure => simp [intOf]; omega
        · have hd : decide (l1 = l2) = false := by simpa using heq
          rw [hd] at hse
          have hne : ¬ strB l1 = strB l2 := fun h => heq ((strB_inj _ _).1 h)
          go_wp2_with fail
          go_quiet (fail)
          go_wp2_with fail
          go_ret
          refine ⟨?_, HDR.out.more _⟩
          have : ¬ ls = ks := fun h => heq (HST.out.1 (by rw [h]))
          simp [this]
      · have hkm : k = m := by omega
        subst hkm
        clear hdr ht
        go_wp2_with fail
        go_ret
        refine ⟨?_, HDR.out⟩
        have : ls = ks := by
          have h := HT.out
          rw [List.take_of_length_le (by rw [← HM.out]; exact Nat.le_refl _), List.take_of_length_le (by rw [← HN.out]; exact Nat.le_refl _)] at h
          exact h
        simp [this]
  · have hne : ¬ ((m : Int) = n) := by omega
    go_wp2_with fail
    go_ret
    refine ⟨?_, Dr.refl _⟩
    have : ¬ ls = ks := fun h => hmn (by rw [HM.out, HN.out, h])
    simp [this]

end Go.Proofs.YtajilboimjcfjaaDoor
end

section
/- The documents' answer: Less. -/
namespace Go.Proofs.YtajilboimjcfjaaDoor
open Go.RowKit Go.My

set_option maxRecDepth 100000 in
set_option maxHeartbeats 4000000 in
theorem refLess_any (a b : List UInt8) (w : World) (ha : a.length ≤ 1000000000) (hb : b.length ≤ 1000000000) :
    Calls Tryd.prog 19 #[.string (strB a), .string (strB b)] w fun e w' => e = .returned (.bool (lessB a b)) ∧ Ext No w w' := by
  have HP := Lib.hid (fun W => refParts_any a W ha)
  have HQ := Lib.hid (fun W => refParts_any b W hb)
  have HL := Lib.hid (show lessB a b = decide (cmpLs (partsL a) (partsL b) < 0) from rfl)
  have hca := partsL_count a
  have hcb := partsL_count b
  obtain ⟨ls, hls⟩ : ∃ ls, ls = partsL a := ⟨_, rfl⟩
  obtain ⟨ks, hks⟩ : ∃ ks, ks = partsL b := ⟨_, rfl⟩
  obtain ⟨n, hn⟩ : ∃ n, n = ls.length := ⟨_, rfl⟩
  obtain ⟨m, hm⟩ : ∃ m, m = ks.length := ⟨_, rfl⟩
  rw [← hls] at HP hca HL; rw [← hks] at HQ hcb HL
  rw [← hn] at hca HP; rw [← hm] at hcb HQ
  have hn63 : n ≤ 1000000001 := by omega
  have hm63 : m ≤ 1000000001 := by omega
  have HN := Lib.hid hn; have HM := Lib.hid hm
  clear hca hcb hls hks hn hm
  go_enter Tryd.func19, Tryd.ntmps19
  go_wp2_with fail
  refine (HP.out _).mono ?_
  rintro e w1 ⟨v, rfl, ho, hE⟩
  have HS0 := Lib.hid (show IsStrs w1 ls v from strs_own (by rw [← HN.out]; exact ho))
  have HE := Lib.hid hE
  clear ho hE
  dsimp only
  go_wp2_with fail
  refine (HQ.out _).mono ?_
  rintro e w2 ⟨u, rfl, ho, hE⟩
  have HT := Lib.hid (show IsStrs w2 ks u from strs_own (by rw [← HM.out]; exact ho))
  have HS := Lib.hid (HS0.out.ext0 hE)
  replace HE := Lib.hid (HE.out.trans' hE)
  obtain ⟨va, vc, rfl, -⟩ := id HS.out
  obtain ⟨ua, uc, rfl, -⟩ := id HT.out
  rw [← HN.out] at HS ⊢; rw [← HM.out] at HT ⊢
  clear ho hE HS0
  dsimp only
  go_wp2_with fail
  go_loopw [7] (fun i wr => ∃ k : Nat, i = .int .i64 k ∧ k ≤ n ∧ k ≤ m ∧ Dr w2 wr ∧ cmpLs (ls.drop k) (ks.drop k) = cmpLs ls ks) (fun i _ => n - (intOf i).toNat)
  case atStart => exact ⟨0, rfl, Nat.zero_le _, Nat.zero_le _, Dr.refl _, rfl⟩
  case round =>
    obtain ⟨k, rfl, hk, hkm, hdr, hc⟩ := hrel
    have HC := Lib.hid hc; have HDR := Lib.hid hdr; clear hc
    by_cases hlt : k < n
    · have hltI : (k : Int) < n := by omega
      by_cases hlt2 : k < m
      · have hlt2I : (k : Int) < m := by omega
        obtain ⟨b1, o1, rfl, e1⟩ := strs_get HS.out k hlt
        obtain ⟨b2, o2, rfl, e2⟩ := strs_get HT.out k hlt2
        rw [← hdr.cell] at e1 e2
        have d1 := drop_get ls [] k (by rw [← HN.out]; exact hlt)
        have d2 := drop_get ks [] k (by rw [← HM.out]; exact hlt2)
        have hse := strB_eq (ls.getD k []) (ks.getD k [])
        generalize ls.getD k [] = x at *
        generalize ks.getD k [] = y at *
        have hc := HC.out
        rw [d1, d2] at hc
        have hc2 : (if cmpL x y = 0 then cmpLs (ls.drop (k + 1)) (ks.drop (k + 1)) else cmpL x y) = cmpLs ls ks := hc
        have HC2 := Lib.hid hc2
        clear d1 d2 hc hc2 hdr
        by_cases heq : x = y
        · have HEQ := Lib.hid ((cmpL_zero x y).2 heq)
          subst heq
          clear hse
          go_wp2_with fail
          go_quiet (fail)
          go_wp2_with fail
          go_roundw
          case rel => exact ⟨k + 1, by go_num, by omega, by omega, HDR.out.more _, by rw [← HC2.out, if_pos HEQ.out]⟩
          case measure => simp [intOf]; omega
        · have hd : decide (x = y) = false := by simpa using heq
          rw [hd] at hse
          have hne : ¬ strB x = strB y := fun h => heq ((strB_inj _ _).1 h)
          have hz : ¬ cmpL x y = 0 := fun h => heq ((cmpL_zero x y).1 h)
          have hres : decide (cmpLs ls ks < 0) = Op.bytesLess (strB x).toList (strB y).toList := by
            rw [← HC2.out, if_neg hz, strB_list, strB_list, Bool.eq_iff_iff, decide_eq_true_eq, cmpL_lt]
          have HR := Lib.hid hres
          clear hz hres heq hd HC2 HC
          go_wp2_with fail
          go_quiet (fail)
          go_wp2_with fail
          go_quiet (fail)
          go_wp2_with fail
          go_ret
          refine ⟨?_, HE.out.trans' (((HDR.out.more _).more _).ext No)⟩
          rw [HL.out, HR.out]; rfl
      · have hmk : m = k := by omega
        subst hmk
        have d2 : ks.drop m = [] := List.drop_eq_nil_of_le (by rw [← HM.out]; exact Nat.le_refl _)
        have d1 := drop_get ls [] m (by rw [← HN.out]; exact hlt)
        have hc := HC.out
        rw [d1, d2] at hc
        have hc2 : (1 : Int) = cmpLs ls ks := hc
        have HC2 := Lib.hid hc2
        have hnm : decide ((n : Int) < m) = false := by simp; omega
        have hnm2 : ¬ n < m := by omega
        clear d1 d2 hc hc2 hdr
        go_wp2_with fail
        go_ret
        refine ⟨?_, HE.out.trans' (HDR.out.ext No)⟩
        rw [HL.out, ← HC2.out]; rfl
    · have hkn : n = k := by omega
      subst hkn
      have d1 : ls.drop n = [] := List.drop_eq_nil_of_le (by rw [← HN.out]; exact Nat.le_refl _)
      have hc := HC.out
      rw [d1] at hc
      clear hdr
      by_cases hnm : n < m
      · have hnmI : (n : Int) < m := by omega
        have d2 := drop_get ks [] n (by rw [← HM.out]; exact hnm)
        rw [d2] at hc
        have hc2 : (-1 : Int) = cmpLs ls ks := hc
        have HC2 := Lib.hid hc2
        clear d1 d2 hc hc2
        go_wp2_with fail
        go_ret
        refine ⟨?_, HE.out.trans' (HDR.out.ext No)⟩
        rw [HL.out, ← HC2.out]; rfl
      · have hnmI : decide ((n : Int) < m) = false := by simp; omega
        have d2 : ks.drop n = [] := List.drop_eq_nil_of_le (by rw [← HM.out]; omega)
        rw [d2] at hc
        have hc2 : (0 : Int) = cmpLs ls ks := hc
        have HC2 := Lib.hid hc2
        clear d1 d2 hc hc2
        go_wp2_with fail
        go_ret
        refine ⟨?_, HE.out.trans' (HDR.out.ext No)⟩
        rw [HL.out, ← HC2.out]; rfl
end Go.Proofs.YtajilboimjcfjaaDoor
end

section
/- The documents' answer: Clean. -/
namespace Go.Proofs.YtajilboimjcfjaaDoor
open Go.RowKit Go.My

/-- what the documents' Clean hands back -/
def rcleanT (l : List UInt8) : Value := match cleanL l with
  | some c => .tuple #[.string (strB c), .bool true]
  | none => .tuple #[.string ⟨#[]⟩, .bool false]
theorem rclean_none {l : List UInt8} (h : cleanL l = none) : rcleanT l = .tuple #[.string ⟨#[]⟩, .bool false] := by unfold rcleanT; rw [h]
theorem rclean_some {l c : List UInt8} (h : cleanL l = some c) : rcleanT l = .tuple #[.string (strB c), .bool true] := by unfold rcleanT; rw [h]
theorem strVs_range (ns : List (List UInt8)) : (List.range ns.length).map (strV ns) = strVs ns := by
  unfold strVs strV
  apply List.ext_getElem
  · simp
  · intro i h1 h2
    simp at h1 h2
    simp [List.getD_eq_getElem?_getD, List.getElem?_eq_getElem h1]
theorem fold_one (o : List (List UInt8)) (s : List UInt8) : foldS o [s] = stepL o s := by
  rw [foldS_cons]
  cases stepL o s <;> rfl
theorem fold_take (ls : List (List UInt8)) (k : Nat) (o : List (List UInt8)) (hk : k < ls.length) (h : foldS [] (ls.take k) = some o) : foldS [] (ls.take (k + 1)) = stepL o (ls.getD k []) := by
  rw [takeP_snoc ls k hk, fold_append, h, Option.bind_some, fold_one]
theorem fold_none (ls : List (List UInt8)) (k : Nat) (h : foldS [] (ls.take k) = none) : foldS [] ls = none := by
  rw [← List.take_append_drop k ls, fold_append, h]; rfl
theorem clean_of_none {l : List UInt8} (h : foldS [] (partsL l) = none) : cleanL l = none := by unfold cleanL; rw [h]; rfl
theorem clean_of_nil {l : List UInt8} (h : foldS [] (partsL l) = some []) : cleanL l = none := by unfold cleanL; rw [h]; rfl
theorem clean_of_some {l : List UInt8} {o : List (List UInt8)} (h : foldS [] (partsL l) = some o) (ho : o ≠ []) (hp : ∀ p ∈ o, partB p = true ∧ (47 : UInt8) ∉ p) :
    cleanL l = if (glueL o).length ≤ 120 then some (glueL o) else none := by
  unfold cleanL
  rw [h, Option.bind_some]
  have e : checkE (glueL o) = 0 ↔ (glueL o).length ≤ 120 := by
    rw [check_iff, parts_glue o ho (fun p h => (hp p h).2)]
    exact ⟨fun h => h.1, fun h => ⟨h, fun p h => (hp p h).1⟩⟩
  by_cases h2 : (glueL o).length ≤ 120
  · rw [if_pos (e.2 h2), if_pos h2]
  · rw [if_neg (fun h => h2 (e.1 h)), if_neg h2]

set_option maxRecDepth 100000 in
set_option maxHeartbeats 8000000 in
theorem refClean_any (l : List UInt8) (w : World) (hl : l.length ≤ 1000000000) :
    Calls Tryd.prog 10 #[.string (strB l)] w fun e w' => e = .returned (rcleanT l) ∧ Ext No w w' := by
  have HP := Lib.hid (refParts_any l w hl)
  have HN1 := Lib.hid (clean_of_none (l := l)); have HN2 := Lib.hid (clean_of_nil (l := l)); have HN3 := Lib.hid (fun o => clean_of_some (l := l) (o := o))
  have HPL := Lib.hid (partsL_len l)
  have HFR := Lib.hid (parts_free l)
  have hcn := partsL_count l
  obtain ⟨ls, hls⟩ : ∃ ls, ls = partsL l := ⟨_, rfl⟩
  rw [← hls] at HP HN1 HN2 HN3 HPL HFR hcn
  obtain ⟨n, hn⟩ : ∃ n, n = ls.length := ⟨_, rfl⟩
  rw [← hn] at HP hcn
  have hn63 : n ≤ 1000000001 := by omega
  have HL := Lib.hid hl
  have HN := Lib.hid hn
  clear hls hn hcn
  go_enter Tryd.func10, Tryd.ntmps10
  go_wp2_with fail
  refine HP.out.mono ?_
  rintro e w1 ⟨v, rfl, ho, hE⟩
  have hS : IsStrs w1 ls v := strs_own (by rw [← HN.out]; exact ho)
  obtain ⟨va, vc, rfl, -⟩ := id hS
  rw [← HN.out] at hS ⊢
  have HS := Lib.hid hS
  have HX0 := Lib.hid (hE.alloc (.cells #[] 9))
  have HO0 := Lib.hid (show (w1.alloc (.cells #[] 9)).ownsRow w1.heap.size 9 1 (.slice (some ⟨w1.heap.size, 0, none⟩) 0 0) 0 (strVs []) from World.ownsRow_made w1 #[] 0 (Nat.le_refl _) (by decide) rfl)
  have HE1 := Lib.hid hE
  clear ho hE hS
  dsimp only
  go_wp2_with fail
  go_loopw [5, 6] (fun out i wr => ∃ (k : Nat) (o : List (List UInt8)) (a : Option Addr) (c m : Nat), i = .int .i64 k ∧ out = .slice a m c ∧ m = o.length ∧ k ≤ n ∧ m ≤ k ∧ wr.ownsRow w1.heap.size 9 1 (.slice a m c) m (strVs o) ∧ Ext No w1 wr ∧ foldS [] (ls.take k) = some o ∧ (∀ p ∈ o, partB p = true ∧ (47 : UInt8) ∉ p)) (fun _ i _ => n - (intOf i).toNat)
  case atStart => exact ⟨0, [], _, _, 0, rfl, rfl, rfl, Nat.zero_le _, Nat.le_refl _, HO0.out, (Ext.refl No w1).alloc _, rfl, fun p h => by cases h⟩
  case round =>
    obtain ⟨k, o, a, c, m, rfl, rfl, hm, hk, hmk, hown, hx, hf, hgood⟩ := hrel
    have HM := Lib.hid hm; have HO := Lib.hid hown; have HX := Lib.hid hx; have HF := Lib.hid hf; have HG := Lib.hid hgood
    clear hm hown hx hf hgood HX0 HO0
    by_cases hlt : k < n
    · have hltI : (k : Int) < n := by omega
      obtain ⟨b1, o1, rfl, e1⟩ := strs_get (HS.out.ext0 HX.out) k hlt
      have hlt' : k < ls.length := by rw [← HN.out]; exact hlt
      have hft := fold_take ls k o hlt' HF.out
      have hmem : ls.getD k [] ∈ ls := by rw [List.getD_eq_getElem?_getD, List.getElem?_eq_getElem hlt']; exact List.getElem_mem _
      have hsl := HPL.out _ hmem
      have hsf := HFR.out _ hmem
      have hno := fold_none ls (k + 1)
      generalize ls.getD k [] = s at *
      have hls := strB_list s
      have HFT := Lib.hid hft; have HSF := Lib.hid hsf; have HNO := Lib.hid hno; have HSL := Lib.hid hsl
      clear hft hsf hno hsl hlt' hmem
      by_cases h0 : s = []
      · have q1 : ((strB s).toList == []) = true := by rw [hls, h0]; rfl
        have q2 : (strB s).toList.isEmpty = true := by rw [hls, h0]; rfl
        have H0 := Lib.hid (step_skip o (.inl h0))
        clear hls h0
        go_wp2_with fail
        go_roundw
        case rel => exact ⟨k + 1, o, a, c, m, by go_num, rfl, HM.out, by omega, by omega, HO.out, HX.out, by rw [HFT.out, H0.out], HG.out⟩
        case measure => simp [intOf]; omega
      have q1 : ((strB s).toList == []) = false := by rw [hls]; exact list_beq h0
      have q2 : (strB s).toList.isEmpty = false := by rw [hls]; cases s with
        | nil => exact absurd rfl h0
        | cons c t => rfl
      by_cases h1 : s = [46]
      · have q3 : ((strB s).toList == [46]) = true := by rw [hls, h1]; rfl
        have H0 := Lib.hid (step_skip o (.inr h1))
        clear hls h0 h1
        go_wp2_with fail
        go_roundw
        case rel => exact ⟨k + 1, o, a, c, m, by go_num, rfl, HM.out, by omega, by omega, HO.out, HX.out, by rw [HFT.out, H0.out], HG.out⟩
        case measure => simp [intOf]; omega
      have q3 : ((strB s).toList == [46]) = false := by rw [hls]; exact list_beq h1
      by_cases h2 : s = [46, 46]
      · have q4 : ((strB s).toList == [46, 46]) = true := by rw [hls, h2]; rfl
        by_cases hm0 : m = 0
        · have ho : o = [] := by have := HM.out; rw [hm0] at this; exact List.length_eq_zero_iff.1 this.symm
          have H0 := Lib.hid (show stepL o s = none by rw [ho, h2]; rfl)
          subst hm0
          clear hls h0 h1 h2 ho
          go_wp2_with fail
          go_ret2
          refine ⟨?_, HE1.out.trans' HX.out⟩
          rw [rclean_none (HN1.out (HNO.out (by rw [HFT.out, H0.out])))]; rfl
        · obtain ⟨m', rfl⟩ : ∃ m', m = m' + 1 := ⟨m - 1, by omega⟩
          have hst : stepL o s = some (o.take m') := by
            have h := HM.out
            unfold stepL
            rw [if_neg (by rintro (h | h) <;> contradiction), if_pos ⟨h2, by rintro rfl; simp at h⟩, ← h]; rfl
          have H0 := Lib.hid hst
          have hnc : m' + 1 ≤ c := (IsRow.len (IsRow.of_own HO.out)).2.1
          have hmc : (m' : Int) ≤ c := by omega
          have hmc2 : m' ≤ c := by omega
          have hm63 : (m' : Int) ≤ 1099511627776 := by omega
          have hrun := fun wx => run_takeS (P := Tryd.prog) Tryd.underlying30 (show ∀ w, (sizeOf 9).run Tryd.prog w = .ok 1 w from fun w => by kernel_rfl) a .i64 m' (m' + 1) c hmc2 wx
          have hne1 : ((m' : Int) + 1 == 0) = false := by simp; omega
          have hne2 : ¬ (m' : Int) + 1 = 0 := by omega
          clear hls h0 h1 h2 hst
          go_wp2_with fail
          go_roundw
          case rel =>
            refine ⟨k + 1, o.take m', a, c, m', by go_num, rfl, ?_, by omega, by omega, ?_, HX.out, by rw [HFT.out, H0.out], fun p hp => HG.out p (List.mem_of_mem_take hp)⟩
            · rw [List.length_take, ← HM.out]; omega
            · have h := own_shorter HO.out (show m' ≤ m' + 1 by omega)
              have hv : strVs (o.take m') = (strVs o).take m' := by unfold strVs; rw [List.map_take]
              rw [hv]; exact h
          case measure => simp [intOf]; omega
      have q4 : ((strB s).toList == [46, 46]) = false := by rw [hls]; exact list_beq h2
      have hst : stepL o s = if partB s = true then some (o ++ [s]) else none := by
        unfold stepL; rw [if_neg (by rintro (h | h) <;> contradiction), if_neg (by rintro ⟨h, -⟩; contradiction)]
      have HQ := Lib.hid (fun W => refPart_any s W (by have := HSL.out; have := HL.out; omega))
      have hpb : partB s = true → partB s = true := fun h => h
      have HPB := Lib.hid hpb
      have HST := Lib.hid hst
      clear hls h0 h1 h2 hst hpb
      cases hpb : partB s
      · rw [hpb] at HQ HST
        go_wp2_with fail
        refine (HQ.out _).mono ?_
        rintro e w2 ⟨rfl, rfl⟩
        dsimp only
        go_wp2_with fail
        go_ret2
        refine ⟨?_, HE1.out.trans' HX.out⟩
        rw [rclean_none (HN1.out (HNO.out (by rw [HFT.out, HST.out]; rfl)))]; rfl
      · rw [hpb] at HQ HST
        have hgs : ∀ p ∈ o ++ [s], partB p = true ∧ (47 : UInt8) ∉ p := fun p hp => by
          rcases List.mem_append.1 hp with h | h
          · exact HG.out p h
          · rw [List.mem_singleton.1 h]; exact ⟨hpb, HSF.out⟩
        have HGS := Lib.hid hgs
        have hrow := strs_own (by have h := HO.out; rw [HM.out] at h; exact h)
        have HROW : Hid (IsRow (wr.alloc (.cells #[] 9)) (strV o) m (.slice a m c)) := Lib.hid (by
          have h : IsStrs wr o (.slice a m c) := by
            have h := HO.out
            exact strs_own (by rw [← HM.out]; exact h)
          have h2 := h.ext0 ((Ext.refl No wr).alloc (.cells #[] 9))
          unfold IsStrs at h2
          rw [← HM.out] at h2
          exact h2)
        have HNONE := Lib.hid (NilOk.none (NilOk.own HO.out))
        have HON := Lib.hid (show ∀ i, i < m → (strV o i).oneCell' = true from fun _ _ => rfl)
        have HNUM := Lib.hid (show 0 + m ≤ 9223372036854775807 ∧ (0 + m) * 16 ≤ 140737488355328 ∧ m + 1 ≤ 9223372036854775807 ∧ (m + 1) * 16 ≤ 140737488355328 by omega)
        have HOW := Lib.hid (show (wr.alloc (.cells #[] 9)).ownsRow w1.heap.size 9 1 (.slice (some ⟨wr.heap.size, 0, none⟩) 0 0) 0 [] from own_le (World.ownsRow_made wr #[] 0 (Nat.le_refl _) (by decide) rfl) HX.out.size)
        have HZ := Lib.hid (show w1.heap.size ≤ (wr.alloc (.cells #[] 9)).heap.size by have := HX.out.size; rw [World.size_alloc]; omega)
        have HRG := Lib.hid (show (List.range m).map (strV o) = strVs o by rw [HM.out, strVs_range])
        have HXA := Lib.hid (HX.out.alloc (.cells #[] 9))
        have HDJ : Hid (∀ i, (Value.slice (some ⟨wr.heap.size, 0, none⟩) 0 0).ownBlock = some i → i < w1.heap.size → No i) := Lib.hid (fun i hi h => by
          have e : wr.heap.size = i := Option.some.inj hi
          have := HX.out.size
          omega)
        clear hgs hrow hpb
        go_wp2_with (first
          | (go_at_call 31; refine (HQ.out _).mono ?_; rintro e w2 ⟨rfl, rfl⟩)
          | (at_builtin; refine wpList_appN _ rfl _ _ 30 rfl w1.heap.size 9 _ _ str_info Tryd.underlying30 rfl _ _ _ rfl HOW.out _ _ _ (strV o) rfl HROW.out HNONE.out HON.out HNUM.out.1 HNUM.out.2.1 HZ.out ?_; intro v' w3 hown3 hg3; rw [Nat.zero_add, List.nil_append, HRG.out] at hown3; obtain ⟨a6, c6, rfl⟩ := own_form hown3; have HO3 := Lib.hid (hown3.alloc (.cells #[.string (strB s)] 9)); have HX3 := Lib.hid ((HXA.out.grown hg3 HDJ.out).alloc (.cells #[.string (strB s)] 9)); have HZ3 := Lib.hid HX3.out.size; clear hown3 hg3 HOW HROW)
          | (at_builtin; refine wpList_app1 _ _ rfl _ _ 30 rfl w1.heap.size 9 _ _ str_info Tryd.underlying30 rfl _ _ _ rfl HO3.out _ rfl (cell_new _ _ _ rfl) rfl HNUM.out.2.2.1 HNUM.out.2.2.2 HZ3.out ?_; intro v' w4 hown4 hg4; obtain ⟨a7, c7, rfl⟩ := own_form hown4))
        go_roundw
        case rel =>
          refine ⟨k + 1, o ++ [s], a7, c7, m + 1, by go_num, rfl, by rw [List.length_append, ← HM.out]; rfl, by omega, by omega, ?_, ?_, by rw [HFT.out, HST.out, if_pos trivial], HGS.out⟩
          · have : strVs (o ++ [s]) = strVs o ++ [.string (strB s)] := by unfold strVs; simp
            rw [this]; exact hown4
          · exact HX3.out.grown hg4 (fun i hi hlt => absurd hlt (by
              have h1 := (HO3.out.lt i hi).1
              omega))
        case measure => simp [intOf]; omega
    · have hkn : n = k := by omega
      subst hkn
      have hf := HF.out
      rw [HN.out, List.take_length] at hf
      have HF2 := Lib.hid hf
      clear hf HF
      by_cases hm0 : m = 0
      · have ho : o = [] := by have := HM.out; rw [hm0] at this; exact List.length_eq_zero_iff.1 this.symm
        have HOE := Lib.hid ho
        subst hm0
        clear ho
        go_wp2_with fail
        go_ret2
        refine ⟨?_, HE1.out.trans' HX.out⟩
        rw [rclean_none (HN2.out (by rw [HF2.out, HOE.out]))]; rfl
      · have hone : o ≠ [] := by rintro rfl; exact hm0 HM.out
        have hc := HN3.out o HF2.out hone HG.out
        have hgl : (glueL o).length ≤ 41000000041 := by
          have := glue_len o (fun p hp => (partB_ne (HG.out p hp).1).2.2.2)
          have h2 := HM.out
          omega
        have hs : IsStrs wr o (.slice a m c) := strs_own (by rw [← HM.out]; exact HO.out)
        have HQ := Lib.hid (refGlue_any o (.slice a m c) wr hs (by omega))
        have hz := strB_size (glueL o)
        have hne1 : ((m : Int) == 0) = false := by simp; omega
        generalize glueL o = g at *
        by_cases h120 : g.length ≤ 120
        · rw [if_pos h120] at hc
          have HC := Lib.hid (rclean_some hc)
          have hd : decide ((120 : Int) < g.length) = false := by simp; omega
          have hd2 : ¬ 120 < g.length := by omega
          generalize g.length = ng at *
          clear hs hc hone h120
          go_wp2_with (go_at_call 32; refine HQ.out.mono ?_; rintro e w2 ⟨rfl, rfl⟩)
          go_ret2
          refine ⟨?_, HE1.out.trans' HX.out⟩
          rw [HC.out]; rfl
        · rw [if_neg h120] at hc
          have HC := Lib.hid (rclean_none hc)
          have hd : (120 : Int) < g.length := by omega
          have hd2 : 120 < g.length := by omega
          generalize g.length = ng at *
          clear hs hc hone h120
          go_wp2_with (go_at_call 32; refine HQ.out.mono ?_; rintro e w2 ⟨rfl, rfl⟩)
          go_ret2
          refine ⟨?_, HE1.out.trans' HX.out⟩
          rw [HC.out]; rfl
end Go.Proofs.YtajilboimjcfjaaDoor
end

section
/- A region that draws its order and whose operations only add memory: each operation told once, in the order of the text. No program in sight. -/
namespace Go.My
open Go.RowKit

section
variable {P : Program}
/-- the temporary that operation j fills -/
def slotOf (ops : Array Oper) (j : Nat) : Nat := ((ops[j]?).bind (·.dst)).getD 0
/-- the region's form: each operation fills a temporary of its own, is unguarded, and waits for earlier ones alone -/
def monoForm (ops : Array Oper) (n : Nat) : Bool :=
  (List.range ops.size).all fun i => match ops[i]? with
    | none => false
    | some o => o.guard.isNone && (match o.dst with | none => false | some d => decide (d < n)) &&
        (List.range ops.size).all (fun j => j == i || slotOf ops j != slotOf ops i) && o.after.all (fun e => !Region.binds .any e || decide (e.on < i))

theorem monoForm_spec {ops : Array Oper} {n i : Nat} {o : Oper} (h : monoForm ops n = true) (ho : ops[i]? = some o) :
    o.guard = none ∧ (∃ d, o.dst = some d ∧ d < n ∧ d = slotOf ops i) ∧ (∀ j, j < ops.size → j ≠ i → slotOf ops j ≠ slotOf ops i) ∧ (∀ e ∈ o.after, Region.binds .any e = true → e.on < i) := by
  have hi : i < ops.size := (Array.getElem?_eq_some_iff.1 ho).1
  unfold monoForm at h
  rw [List.all_eq_true] at h
  have h1 := h i (List.mem_range.2 hi)
  simp only [ho, Bool.and_eq_true] at h1
  obtain ⟨⟨⟨h2, h3⟩, h4⟩, h5⟩ := h1
  refine ⟨by simpa using h2, ?_, ?_, ?_⟩
  · cases hd : o.dst with
    | none => rw [hd] at h3; cases h3
    | some d => rw [hd] at h3; exact ⟨d, rfl, by simpa using h3, by simp [slotOf, ho, hd]⟩
  · intro j hj hne
    rw [List.all_eq_true] at h4
    have := h4 j (List.mem_range.2 hj)
    simp only [Bool.or_eq_true, beq_iff_eq, bne_iff_ne] at this
    rcases this with h | h
    · exact absurd h hne
    · exact h
  · intro e he hb
    have := Array.all_eq_true_iff_forall_mem.1 h5 e he
    simpa [hb] using this

/-- how the region stands: the memory that was there is as it was; what is done has told its value -/
structure MonoSt (S : Nat → Prop) (ops : Array Oper) (w0 : World) (a0 : Act) (V : Nat → Value → World → Prop) (listed : Array Bool) (a : Act) (w : World) : Prop where
  ext : Ext S w0 w
  defers : a.defers = a0.defers
  size : a.tmps.size = a0.tmps.size
  same : ∀ t, (∀ j, j < ops.size → slotOf ops j ≠ t) → a.tmps.getD t undef = a0.tmps.getD t undef
  vals : ∀ i, i < ops.size → listed.getD i false = true → V i (a.tmps.getD (slotOf ops i) undef) w

/-- what an operation owes -/
def MonoStep (P : Program) (S : Nat → Prop) (ops : Array Oper) (w0 : World) (a0 : Act) (V : Nat → Value → World → Prop) (Q : Exit → Act → World → Prop) (i : Nat) (o : Oper) : Prop :=
  ∀ a w, Ext S w0 w → (∀ t, ((List.range ops.size).all fun j => slotOf ops j != t) = true → a.tmps.getD t undef = a0.tmps.getD t undef) →
    (∀ j, (o.after.any fun e => Region.binds .any e && e.on == j) = true → V j (a.tmps.getD (slotOf ops j) undef) w) →
    ∀ K : Act → World → Prop, (∀ v w', Ext S w w' → V i v w' → K (a.put o.dst v) w') → o.wp P a w K Q
theorem slots_all {ops : Array Oper} {t : Nat} (h : ((List.range ops.size).all fun j => slotOf ops j != t) = true) : ∀ j, j < ops.size → slotOf ops j ≠ t := by
  intro j hj
  rw [List.all_eq_true] at h
  simpa using h j (List.mem_range.2 hj)
/-- an act, written out -/
theorem act_lit {a : Act} {n : Nat} {ds : List Deferred} (hs : a.tmps.size = n) (hd : a.defers = ds) : a = ⟨((List.range n).map fun t => a.tmps.getD t undef).toArray, ds⟩ := by
  obtain ⟨tmps, d⟩ := a
  simp only at hs hd
  subst hd; subst hs
  congr 1
  apply Array.ext
  · simp
  · intro i h1 h2
    simp [h1]

def MonoSteps (P : Program) (S : Nat → Prop) (ops : Array Oper) (w0 : World) (a0 : Act) (V : Nat → Value → World → Prop) (Q : Exit → Act → World → Prop) : Nat → List Oper → Prop
  | _, [] => True
  | i, o :: os => MonoStep P S ops w0 a0 V Q i o ∧ MonoSteps P S ops w0 a0 V Q (i + 1) os
theorem MonoSteps.get {S : Nat → Prop} {ops : Array Oper} {w0 : World} {a0 : Act} {V : Nat → Value → World → Prop} {Q : Exit → Act → World → Prop} : ∀ (os : List Oper) (i : Nat), MonoSteps P S ops w0 a0 V Q i os → ∀ j o, os[j]? = some o → MonoStep P S ops w0 a0 V Q (i + j) o := by
  intro os
  induction os with
  | nil => intro i _ j o h; simp at h
  | cons x os ih =>
    intro i h j o hj
    cases j with
    | zero => simp at hj; subst hj; exact h.1
    | succ j => rw [show i + (j + 1) = (i + 1) + j by omega]; exact ih (i + 1) h.2 j o (by simpa using hj)

theorem getD_put {a : Act} {d t : Nat} {v : Value} (h : d < a.tmps.size) : (a.put (some d) v).tmps.getD t undef = if t = d then v else a.tmps.getD t undef := by
  simp only [Act.put]
  by_cases e : t = d
  · subst e; simp [h]
  · rw [if_neg e]
    simp [Array.getElem?_setIfInBounds_ne (Ne.symm e)]

theorem countP_lt {listed : Array Bool} {i : Nat} (h : listed.getD i true = false) : ((listed.setIfInBounds i true).toList.countP (fun b => !b)) + 1 = listed.toList.countP (fun b => !b) := by
  have hi : i < listed.size := by
    rcases Nat.lt_or_ge i listed.size with h' | h'
    · exact h'
    · simp [Array.getElem?_eq_none h'] at h
  have hv : listed.toList[i]'(by simpa using hi) = false := by simpa [hi] using h
  rw [Array.toList_setIfInBounds, List.countP_set (by simpa using hi)]
  have hpos : 0 < listed.toList.countP (fun b => !b) := List.countP_pos_iff.2 ⟨false, by rw [← hv]; exact List.getElem_mem _, rfl⟩
  have hv2 : listed[i] = false := by simpa using hv
  simp [hv2]
  have : 0 < listed.toList.countP (fun b => !b) := hpos
  rw [← Array.countP_toList]
  omega

theorem wpAny_mono {S : Nat → Prop} {ops : Array Oper} {w0 : World} {a0 : Act} {V : Nat → Value → World → Prop} {Q : Exit → Act → World → Prop} (hform : monoForm ops a0.tmps.size = true)
    (hV : ∀ i v w w', V i v w → Ext S w w' → V i v w') (hstep : MonoSteps P S ops w0 a0 V Q 0 ops.toList)
    (hend : ∀ a w, Ext S w0 w → a.defers = a0.defers → a.tmps.size = a0.tmps.size → (∀ t, (∀ j, j < ops.size → slotOf ops j ≠ t) → a.tmps.getD t undef = a0.tmps.getD t undef) → (∀ i, i < ops.size → V i (a.tmps.getD (slotOf ops i) undef) w) → Q .normal a w) :
    ∀ (fuel : Nat) (listed : Array Bool) (a : Act) (w : World), MonoSt S ops w0 a0 V listed a w → listed.size = ops.size → listed.toList.countP (fun b => !b) ≤ fuel → wpAny P .any ops Q fuel listed a w := by
  have hdone : ∀ listed : Array Bool, listed.size = ops.size → Region.ready .any ops listed = [] → ∀ i, i < ops.size → listed.getD i false = true := by
    intro listed hsz hr i
    induction i using Nat.strongRecOn with
    | _ i ih =>
      intro hi
      by_cases hl : listed.getD i false = true
      · exact hl
      · exfalso
        have hlt : listed.getD i true = false := by
          have h1 : i < listed.size := by omega
          have h2 : listed.getD i false = false := by simpa using hl
          simpa [h1] using h2
        obtain ⟨o, ho⟩ : ∃ o, ops[i]? = some o := ⟨ops[i], by simp [hi]⟩
        have hm : i ∈ Region.ready .any ops listed := by
          rw [mem_ready]
          exact ⟨hlt, o, ho, fun e he hb => by
            have hlt' := (monoForm_spec hform ho).2.2.2 e he hb
            exact ih e.on hlt' (by omega)⟩
        rw [hr] at hm; cases hm
  intro fuel
  induction fuel with
  | zero =>
    intro listed a w h hsz hc
    have hall : ∀ i, i < ops.size → listed.getD i false = true := by
      intro i hi
      have h0 : listed.toList.countP (fun b => !b) = 0 := by omega
      rw [List.countP_eq_zero] at h0
      have h1 : i < listed.size := by omega
      have := h0 (listed[i]) (by simp)
      simpa [h1] using this
    refine ⟨?_, hend a w h.ext h.defers h.size h.same (fun i hi => h.vals i hi (hall i hi))⟩
    cases hr : Region.ready .any ops listed with
    | nil => rfl
    | cons i is =>
      have hm : i ∈ Region.ready .any ops listed := by rw [hr]; exact List.mem_cons_self ..
      obtain ⟨h1, o, ho, -⟩ := mem_ready.1 hm
      have hi : i < ops.size := (Array.getElem?_eq_some_iff.1 ho).1
      have h2 := hall i hi
      have h3 : i < listed.size := by omega
      simp [h3] at h1 h2
      rw [h1] at h2; cases h2
  | succ fuel ih =>
    intro listed a w h hsz hc
    refine ⟨fun hr => hend a w h.ext h.defers h.size h.same (fun i hi => h.vals i hi (hdone listed hsz hr i hi)), fun i hm => ?_⟩
    obtain ⟨hlt, o, ho, hdep⟩ := mem_ready.1 hm
    have hi : i < ops.size := (Array.getElem?_eq_some_iff.1 ho).1
    obtain ⟨hgd, ⟨d, hd, hdn, hds⟩, hother, hbefore⟩ := monoForm_spec hform ho
    have hst : MonoStep P S ops w0 a0 V Q i o := by
      have := MonoSteps.get ops.toList 0 hstep i o (by simpa using ho)
      rwa [Nat.zero_add] at this
    unfold wpOp
    rw [ho]
    have hw : Region.wanted o (yielded ops a.tmps) = true := by simp [Region.wanted, hgd]
    simp only [hw, if_true]
    refine .inl (hst a w h.ext (fun t ht => h.same t (slots_all ht)) (fun j hj => ?_) _ ?_)
    rotate_left
    · intro v w' hx hv
      rw [hd]
      have hda : d < a.tmps.size := by rw [h.size]; exact hdn
      refine ih _ _ _ ⟨h.ext.trans' hx, by simp [Act.put, h.defers], by simp [Act.put, h.size], fun t ht => ?_, fun j hj hl => ?_⟩ (by simp [hsz]) (by have := countP_lt hlt; omega)
      · rw [getD_put hda, if_neg (fun e => ht i hi (by rw [e, hds]))]
        exact h.same t ht
      · rw [getD_put hda]
        by_cases e : j = i
        · subst e; rw [if_pos hds.symm]; exact hv
        · rw [if_neg (fun e2 => hother j hj e (by rw [e2, hds]))]
          refine hV j _ w w' (h.vals j hj ?_) hx
          rw [getD_set_ne false (Ne.symm e)] at hl
          exact hl
    · obtain ⟨e, he, hb⟩ := Array.any_eq_true'.1 hj
      simp only [Bool.and_eq_true, beq_iff_eq] at hb
      obtain ⟨hb1, rfl⟩ := hb
      have h1 := hdep e he hb1
      exact h.vals e.on (by
        rcases Nat.lt_or_ge e.on listed.size with h' | h'
        · omega
        · simp [Array.getElem?_eq_none h'] at h1) h1

theorem wp_region_mono {ops : Array Oper} {id : Nat} {a : Act} {w : World} {Q : Exit → Act → World → Prop} (S : Nat → Prop) (V : Nat → Value → World → Prop) (hm : P.follows .mixedOrders = true) (hform : monoForm ops a.tmps.size = true)
    (hV : ∀ i v w w', V i v w → Ext S w w' → V i v w') (hstep : MonoSteps P S ops w.drew a V Q 0 ops.toList)
    (hend : ∀ a' w', Ext S w w' → a'.defers = a.defers → a'.tmps.size = a.tmps.size → (∀ t, ((List.range ops.size).all fun j => slotOf ops j != t) = true → a'.tmps.getD t undef = a.tmps.getD t undef) → (∀ i, i < ops.size → V i (a'.tmps.getD (slotOf ops i) undef) w') → Q .normal a' w') :
    (Code.region id ops true).wp P Q a w := by
  refine wp_region_any hm (wpAny_mono (w0 := w.drew) (a0 := a) hform hV hstep (fun a' w' hx hd hz hsm => hend a' w' ((Ext.refl S w).drew.trans' hx) hd hz (fun t ht => hsm t (slots_all ht))) _ _ _ _ ⟨Ext.refl S _, rfl, rfl, fun _ _ => rfl, fun i hi hl => ?_⟩ (by simp) ?_)
  · have h0 : (Array.replicate ops.size false).getD i false = false := by simp [Array.getElem?_replicate, hi]
    rw [h0] at hl; cases hl
  · exact Nat.le_trans List.countP_le_length (by simp)
/-- the head of a region: each operation fills a temporary of its own and is unguarded -/
def headForm (ops : Array Oper) (h n : Nat) : Bool :=
  (List.range h).all fun i => match ops[i]? with
    | none => false
    | some o => o.guard.isNone && (match o.dst with | none => false | some d => decide (d < n)) && (List.range h).all (fun j => j == i || slotOf ops j != slotOf ops i) && o.after.all (fun e => !Region.binds .any e || decide (e.on < i))
theorem headForm_spec {ops : Array Oper} {h n i : Nat} {o : Oper} (hf : headForm ops h n = true) (hi : i < h) (ho : ops[i]? = some o) :
    o.guard = none ∧ (∃ d, o.dst = some d ∧ d < n ∧ d = slotOf ops i) ∧ (∀ j, j < h → j ≠ i → slotOf ops j ≠ slotOf ops i) ∧ (∀ e ∈ o.after, Region.binds .any e = true → e.on < i) := by
  unfold headForm at hf
  rw [List.all_eq_true] at hf
  have h1 := hf i (List.mem_range.2 hi)
  simp only [ho, Bool.and_eq_true] at h1
  obtain ⟨⟨⟨h2, h3⟩, h4⟩, h5⟩ := h1
  refine ⟨by simpa using h2, ?_, ?_, ?_⟩
  · cases hd : o.dst with
    | none => rw [hd] at h3; cases h3
    | some d => rw [hd] at h3; exact ⟨d, rfl, by simpa using h3, by simp [slotOf, ho, hd]⟩
  · intro j hj hne
    rw [List.all_eq_true] at h4
    have := h4 j (List.mem_range.2 hj)
    simp only [Bool.or_eq_true, beq_iff_eq, bne_iff_ne] at this
    rcases this with h | h
    · exact absurd h hne
    · exact h
  · intro e he hb
    have := Array.all_eq_true_iff_forall_mem.1 h5 e he
    simpa [hb] using this
structure HeadSt (S : Nat → Prop) (ops : Array Oper) (h : Nat) (w0 : World) (a0 : Act) (V : Nat → Value → World → Prop) (listed : Array Bool) (a : Act) (w : World) : Prop where
  ext : Ext S w0 w
  defers : a.defers = a0.defers
  size : a.tmps.size = a0.tmps.size
  same : ∀ t, ((List.range h).all fun j => slotOf ops j != t) = true → a.tmps.getD t undef = a0.tmps.getD t undef
  vals : ∀ i, i < h → listed.getD i false = true → V i (a.tmps.getD (slotOf ops i) undef) w
def HeadStep (P : Program) (S : Nat → Prop) (ops : Array Oper) (h : Nat) (w0 : World) (a0 : Act) (V : Nat → Value → World → Prop) (Q : Exit → Act → World → Prop) (i : Nat) (o : Oper) : Prop :=
  ∀ a w, Ext S w0 w → (∀ t, ((List.range h).all fun j => slotOf ops j != t) = true → a.tmps.getD t undef = a0.tmps.getD t undef) →
    (∀ j, (decide (j < h) && o.after.any fun e => Region.binds .any e && e.on == j) = true → V j (a.tmps.getD (slotOf ops j) undef) w) →
    ∀ K : Act → World → Prop, (∀ v w', Ext S w w' → V i v w' → K (a.put o.dst v) w') → o.wp P a w K Q
def HeadSteps (P : Program) (S : Nat → Prop) (ops : Array Oper) (h : Nat) (w0 : World) (a0 : Act) (V : Nat → Value → World → Prop) (Q : Exit → Act → World → Prop) : Nat → List Oper → Prop
  | _, [] => True
  | i, o :: os => HeadStep P S ops h w0 a0 V Q i o ∧ HeadSteps P S ops h w0 a0 V Q (i + 1) os
theorem HeadSteps.get {S : Nat → Prop} {ops : Array Oper} {h : Nat} {w0 : World} {a0 : Act} {V : Nat → Value → World → Prop} {Q : Exit → Act → World → Prop} : ∀ (os : List Oper) (i : Nat), HeadSteps P S ops h w0 a0 V Q i os → ∀ j o, os[j]? = some o → HeadStep P S ops h w0 a0 V Q (i + j) o := by
  intro os
  induction os with
  | nil => intro i _ j o h; simp at h
  | cons x os ih =>
    intro i hh j o hj
    cases j with
    | zero => simp at hj; subst hj; exact hh.1
    | succ j => rw [show i + (j + 1) = (i + 1) + j by omega]; exact ih (i + 1) hh.2 j o (by simpa using hj)
theorem HeadSteps.nil {S : Nat → Prop} {ops : Array Oper} {h : Nat} {w0 : World} {a0 : Act} {V : Nat → Value → World → Prop} {Q : Exit → Act → World → Prop} {i : Nat} : HeadSteps P S ops h w0 a0 V Q i [] := trivial
theorem HeadSteps.cons {S : Nat → Prop} {ops : Array Oper} {h : Nat} {w0 : World} {a0 : Act} {V : Nat → Value → World → Prop} {Q : Exit → Act → World → Prop} {i : Nat} {o : Oper} {os : List Oper} (h1 : HeadStep P S ops h w0 a0 V Q i o) (h2 : HeadSteps P S ops h w0 a0 V Q (i + 1) os) : HeadSteps P S ops h w0 a0 V Q i (o :: os) := ⟨h1, h2⟩
/-- the head is done, the tail is not -/
def headDone (h m : Nat) : Array Bool := ((List.range m).map fun i => decide (i < h)).toArray
theorem headDone_eq {ops : Array Oper} {h : Nat} {listed : Array Bool} (inv : HeadInv .any ops h listed) (hall : ∀ i, i < h → i < ops.size → listed.getD i false = true) : listed = headDone h ops.size := by
  apply Array.ext
  · simp [headDone, inv.size]
  · intro i h1 h2
    have hi : i < ops.size := by rw [← inv.size]; exact h1
    simp only [headDone, List.getElem_toArray, List.getElem_map, List.getElem_range]
    by_cases hh : i < h
    · have := hall i hh hi
      simpa [h1, hh] using this
    · have := inv.tail i (by omega) hi
      simpa [h1, hh] using this

theorem wpAny_headM {S : Nat → Prop} {l : List Oper} {h : Nat} {w0 : World} {a0 : Act} {V : Nat → Value → World → Prop} {Q : Exit → Act → World → Prop} (hform : headForm l.toArray h a0.tmps.size = true)
    (hs : Region.sinkB .any l.toArray h = true) (hc : Region.chainB .any l.toArray h = true) (hlt : h < l.length) (hq : Region.seqB .any l.toArray (l.length - h) h (headDone h l.length) = true)
    (hV : ∀ i v w w', V i v w → Ext S w w' → V i v w') (hstep : HeadSteps P S l.toArray h w0 a0 V Q 0 (l.take h))
    (hend : ∀ a w, Ext S w0 w → a.defers = a0.defers → a.tmps.size = a0.tmps.size → (∀ t, ((List.range h).all fun j => slotOf l.toArray j != t) = true → a.tmps.getD t undef = a0.tmps.getD t undef) → (∀ i, i < h → V i (a.tmps.getD (slotOf l.toArray i) undef) w) → wpList P l.toArray Q (l.drop h) a w) :
    ∀ (f : Nat) (listed : Array Bool) (a : Act) (w : World), HeadSt S l.toArray h w0 a0 V listed a w → HeadInv .any l.toArray h listed → listed.toList.countP (fun b => !b) = f + (l.length - h) → wpAny P .any l.toArray Q (f + (l.length - h)) listed a w := by
  have hsz : l.toArray.size = l.length := by simp
  -- how many of the tail are not done
  have hcnt : (headDone h l.length).toList.countP (fun b => !b) = l.length - h := by
    simp only [headDone, List.countP_map]
    have e : ∀ m, h ≤ m → (List.range m).countP ((fun b => !b) ∘ fun i => decide (i < h)) = m - h := by
      intro m hm
      induction m with
      | zero => simp
      | succ m ih =>
        rw [List.range_succ, List.countP_append]
        by_cases hmh : h ≤ m
        · rw [ih hmh]
          have : ¬ m < h := by omega
          simp [this]; omega
        · have e1 : m + 1 = h := by omega
          have : (List.range m).countP ((fun b => !b) ∘ fun i => decide (i < h)) = 0 := by
            rw [List.countP_eq_zero]
            intro x hx
            have := List.mem_range.1 hx
            simp; omega
          rw [this]
          have : m < h := by omega
          simp [this]; omega
    exact e l.length (by omega)
  intro f
  induction f with
  | zero =>
    intro listed a w st inv hcn
    have hall : ∀ i, i < h → i < l.toArray.size → listed.getD i false = true := by
      intro i hi hi2
      cases hv : listed.getD i false with
      | true => rfl
      | false =>
        exfalso
        have hil : i < listed.size := by rw [inv.size]; exact hi2
        have hpos : ∀ (L : List Bool) (k : Nat), k < h → h ≤ L.length → L[k]? = some false → (∀ t, h ≤ t → t < L.length → L[t]? = some false) → L.length - h < L.countP (fun b => !b) := by
          intro L k hk hL hkf ht
          have e1 : L = L.take h ++ L.drop h := (List.take_append_drop h L).symm
          rw [e1, List.countP_append]
          have c2 : (L.drop h).countP (fun b => !b) = L.length - h := by
            rw [List.countP_eq_length.2, List.length_drop]
            intro b hb
            obtain ⟨j, hj, rfl⟩ := List.getElem_of_mem hb
            rw [List.length_drop] at hj
            have := ht (h + j) (by omega) (by omega)
            rw [List.getElem_drop]
            rw [List.getElem?_eq_getElem (by omega)] at this
            simpa using this
          have c1 : 0 < (L.take h).countP (fun b => !b) := by
            rw [List.countP_pos_iff]
            refine ⟨false, ?_, rfl⟩
            rw [List.mem_iff_getElem?]
            exact ⟨k, by rw [List.getElem?_take, if_pos hk]; exact hkf⟩
          rw [← e1, c2]; omega
        have := hpos listed.toList i hi (by simp [inv.size]; omega) (by
          have : listed[i] = false := by simpa [hil] using hv
          simp [hil, this]) (fun t ht1 ht2 => by
          have ht3 : t < l.toArray.size := by rw [← inv.size]; simpa using ht2
          have := inv.tail t ht1 ht3
          have ht4 : t < listed.size := by simpa using ht2
          have h5 : listed[t] = false := by simpa [ht4] using this
          simp [ht4, h5])
        have hl : listed.toList.length = l.length := by simp [inv.size]
        rw [hl] at this
        omega
    have e := headDone_eq inv hall
    rw [hsz] at e
    rw [Nat.zero_add]
    have hdl : (l.drop h).length = l.length - h := by simp
    have := wpAny_of_seq (P := P) (ops := l.toArray) (md := .any) (Q' := Q) (l.drop h) h listed a w (fun j => by simp) (by rw [hdl, e]; exact hq)
      (hend a w st.ext st.defers st.size st.same (fun i hi => st.vals i hi (hall i hi (by rw [hsz]; omega))))
    rw [hdl] at this
    exact this
  | succ f ih =>
    intro listed a w st inv hcn
    -- some operation of the head is not done
    obtain ⟨i0, hi0, hi0f⟩ : ∃ i, i < h ∧ listed.getD i true = false := by
      by_cases hex : ∃ i, i < h ∧ listed.getD i true = false
      · exact hex
      · exfalso
        have hall : ∀ i, i < h → i < l.toArray.size → listed.getD i false = true := by
          intro i hi hi2
          have hil : i < listed.size := by rw [inv.size]; exact hi2
          cases hv : listed.getD i false with
          | true => rfl
          | false => exact absurd ⟨i, hi, getD_in hil hv⟩ hex
        have e := headDone_eq inv hall
        rw [hsz] at e
        rw [e, hcnt] at hcn
        omega
    have hntail := tail_waits hs hc (by rw [hsz]; exact hlt) inv _ i0 rfl hi0 hi0f
    rw [show f + 1 + (l.length - h) = (f + (l.length - h)) + 1 by omega]
    refine ⟨fun hr => ?_, fun i hm => ?_⟩
    · exfalso
      -- the least operation that is not done may come up
      have hleast : ∀ i, i < h → listed.getD i true = false → ∃ j, j ∈ Region.ready .any l.toArray listed := by
        intro i
        induction i using Nat.strongRecOn with
        | _ i ihi =>
          intro hi hf
          obtain ⟨o, ho⟩ : ∃ o, l.toArray[i]? = some o := ⟨l[i]'(by omega), by simp⟩
          have hsp := headForm_spec hform hi ho
          by_cases hall : ∀ e ∈ o.after, Region.binds .any e = true → listed.getD e.on false = true
          · exact ⟨i, mem_ready.2 ⟨hf, o, ho, hall⟩⟩
          · simp only [Classical.not_forall] at hall
            obtain ⟨e, he, hb, hl⟩ := hall
            have hon := hsp.2.2.2 e he hb
            refine ihi e.on hon (by omega) (getD_in (by rw [inv.size, hsz]; omega) (by simpa using hl))
      obtain ⟨j, hj⟩ := hleast i0 hi0 hi0f
      rw [hr] at hj; cases hj
    · have hih : i < h := by
        rcases Nat.lt_or_ge i h with h' | h'
        · exact h'
        · exact absurd hm (hntail i h')
      obtain ⟨hun, o, ho, hdep⟩ := mem_ready.1 hm
      obtain ⟨hgd, ⟨d, hd, hdn, hds⟩, hother, -⟩ := headForm_spec hform hih ho
      have hst : HeadStep P S l.toArray h w0 a0 V Q i o := by
        have := HeadSteps.get (l.take h) 0 hstep i o (by rw [List.getElem?_take, if_pos hih]; simpa using ho)
        rwa [Nat.zero_add] at this
      unfold wpOp
      rw [ho]
      have hw : Region.wanted o (yielded l.toArray a.tmps) = true := by simp [Region.wanted, hgd]
      simp only [hw, if_true]
      refine .inl (hst a w st.ext st.same (fun j hj => ?_) _ ?_)
      · simp only [Bool.and_eq_true, decide_eq_true_eq] at hj
        obtain ⟨hjh, hj⟩ := hj
        obtain ⟨e, he, hb⟩ := Array.any_eq_true'.1 hj
        simp only [Bool.and_eq_true, beq_iff_eq] at hb
        obtain ⟨hb1, rfl⟩ := hb
        exact st.vals e.on hjh (hdep e he hb1)
      · intro v w' hx hv
        rw [hd]
        have hda : d < a.tmps.size := by rw [st.size]; exact hdn
        refine ih _ _ _ ⟨st.ext.trans' hx, by simp [Act.put, st.defers], by simp [Act.put, st.size], fun t ht => ?_, fun j hj hl => ?_⟩ (inv.set hm hih) (by have := countP_lt hun; omega)
        · rw [getD_put hda, if_neg (fun e => by
            rw [List.all_eq_true] at ht
            have := ht i (List.mem_range.2 hih)
            simp only [bne_iff_ne] at this
            exact this (by rw [← hds, e]))]
          exact st.same t ht
        · rw [getD_put hda]
          by_cases e : j = i
          · subst e; rw [if_pos hds.symm]; exact hv
          · rw [if_neg (fun e2 => hother j hj e (by rw [e2, hds]))]
            refine hV j _ w w' (st.vals j hj ?_) hx
            rw [getD_set_ne false (Ne.symm e)] at hl
            exact hl
theorem wp_region_head {l : List Oper} {id : Nat} {a : Act} {w : World} {Q : Exit → Act → World → Prop} (h : Nat) (S : Nat → Prop) (V : Nat → Value → World → Prop) (hm : P.follows .mixedOrders = true)
    (hform : headForm l.toArray h a.tmps.size = true)
    (hs : (Region.sinkB .any l.toArray h && Region.chainB .any l.toArray h && decide (h < l.length) && Region.seqB .any l.toArray (l.length - h) h (headDone h l.length)) = true)
    (hV : ∀ i v w w', V i v w → Ext S w w' → V i v w') (hstep : HeadSteps P S l.toArray h w.drew a V Q 0 (l.take h))
    (hend : ∀ a' w', Ext S w w' → a'.defers = a.defers → a'.tmps.size = a.tmps.size → (∀ t, ((List.range h).all fun j => slotOf l.toArray j != t) = true → a'.tmps.getD t undef = a.tmps.getD t undef) → (∀ i, i < h → V i (a'.tmps.getD (slotOf l.toArray i) undef) w') → wpList P l.toArray Q (l.drop h) a' w') :
    (Code.region id l.toArray true).wp P Q a w := by
  simp only [Bool.and_eq_true, decide_eq_true_eq] at hs
  obtain ⟨⟨⟨h1, h2⟩, h3⟩, h4⟩ := hs
  refine wp_region_any hm ?_
  have hsz : l.toArray.size = h + (l.length - h) := by simp; omega
  rw [hsz]
  have hrep : ∀ i, (Array.replicate l.toArray.size false).getD i false = false := fun i => getD_replicate_false _ _
  have := wpAny_headM (w0 := w.drew) (a0 := a) hform h1 h2 h3 h4 hV hstep (fun a' w' hx => hend a' w' ((Ext.refl S w).drew.trans' hx)) h (Array.replicate l.toArray.size false) a w.drew
    ⟨Ext.refl S _, rfl, rfl, fun _ _ => rfl, fun i _ hl => by rw [hrep] at hl; cases hl⟩
    ⟨by simp, fun j oj _ hl => absurd hl (by rw [hrep]; decide), fun t _ ht => getD_in (by simpa using ht) (hrep t)⟩
    (by
      rw [Array.toList_replicate, List.countP_replicate]
      simp; omega)
  rw [hsz] at this
  exact this
end
end Go.My
end

section
/- The head of a region that draws its order and whose operations only add memory and may be guarded: each operation told once. No program in sight. Printed by wip/mkmonog.py. -/
namespace Go.My
open Go.RowKit

section
variable {P : Program}
/-- the head of a region: each operation fills a temporary of its own; a guarded one waits for its guard; D tells which are done -/
def headFormG (ops : Array Oper) (h n : Nat) (D : Nat → Bool) : Bool :=
  (List.range h).all fun i => match ops[i]? with
    | none => false
    | some o => (match o.guard with | none => D i | some gb => decide (gb.1 < h) && o.after.any (fun e => Region.binds .any e && e.on == gb.1)) && (match o.dst with | none => false | some d => decide (d < n)) && (List.range h).all (fun j => j == i || slotOf ops j != slotOf ops i) && o.after.all (fun e => !Region.binds .any e || decide (e.on < i))
theorem headFormG_spec {ops : Array Oper} {h n i : Nat} {o : Oper} {D : Nat → Bool} (hf : headFormG ops h n D = true) (hi : i < h) (ho : ops[i]? = some o) :
    (o.guard = none ∧ D i = true ∨ ∃ g b, o.guard = some (g, b) ∧ g < h ∧ ∃ e ∈ o.after, Region.binds .any e = true ∧ e.on = g) ∧ (∃ d, o.dst = some d ∧ d < n ∧ d = slotOf ops i) ∧ (∀ j, j < h → j ≠ i → slotOf ops j ≠ slotOf ops i) ∧ (∀ e ∈ o.after, Region.binds .any e = true → e.on < i) := by
  unfold headFormG at hf
  rw [List.all_eq_true] at hf
  have h1 := hf i (List.mem_range.2 hi)
  simp only [ho, Bool.and_eq_true] at h1
  obtain ⟨⟨⟨h2, h3⟩, h4⟩, h5⟩ := h1
  refine ⟨?_, ?_, ?_, ?_⟩
  · cases hg : o.guard with
    | none => rw [hg] at h2; exact .inl ⟨rfl, h2⟩
    | some gb =>
      obtain ⟨g, b⟩ := gb
      rw [hg] at h2
      simp only [Bool.and_eq_true, decide_eq_true_eq] at h2
      obtain ⟨e, he, hb⟩ := Array.any_eq_true'.1 h2.2
      simp only [Bool.and_eq_true, beq_iff_eq] at hb
      exact .inr ⟨g, b, rfl, h2.1, e, he, hb.1, hb.2⟩
  · cases hd : o.dst with
    | none => rw [hd] at h3; cases h3
    | some d => rw [hd] at h3; exact ⟨d, rfl, by simpa using h3, by simp [slotOf, ho, hd]⟩
  · intro j hj hne
    rw [List.all_eq_true] at h4
    have := h4 j (List.mem_range.2 hj)
    simp only [Bool.or_eq_true, beq_iff_eq, bne_iff_ne] at this
    rcases this with h | h
    · exact absurd h hne
    · exact h
  · intro e he hb
    have := Array.all_eq_true_iff_forall_mem.1 h5 e he
    simpa [hb] using this
/-- what a guard has told -/
def GuardOk (V : Nat → Value → World → Prop) (d : Bool) (o : Oper) : Prop :=
  match o.guard with
  | none => True
  | some gb => ∀ v w, V gb.1 v w → v = .bool (if d then gb.2 else !gb.2)
theorem yielded_of {ops : Array Oper} {tmps : Array Value} {g d : Nat} {o : Oper} {c : Bool} (ho : ops[g]? = some o) (hd : o.dst = some d) (h : tmps.getD (slotOf ops g) undef = .bool c) : yielded ops tmps g = some c := by
  have hs : slotOf ops g = d := by simp [slotOf, ho, hd]
  rw [hs] at h
  unfold yielded
  rw [ho, Option.bind_some, hd, Option.bind_some]
  rw [Array.getD_eq_getD_getElem?] at h
  cases ht : tmps[d]? with
  | none => rw [ht] at h; cases h
  | some v => rw [ht] at h; simp only [Option.getD_some] at h; subst h; rfl
def HeadStepsG (P : Program) (D : Nat → Bool) (S : Nat → Prop) (ops : Array Oper) (h : Nat) (w0 : World) (a0 : Act) (V : Nat → Value → World → Prop) (Q : Exit → Act → World → Prop) : Nat → List Oper → Prop
  | _, [] => True
  | i, o :: os => ((D i = true → HeadStep P S ops h w0 a0 V Q i o) ∧ (D i = false → ∀ w, V i undef w) ∧ GuardOk V (D i) o) ∧ HeadStepsG P D S ops h w0 a0 V Q (i + 1) os
theorem HeadStepsG.get {D : Nat → Bool} {S : Nat → Prop} {ops : Array Oper} {h : Nat} {w0 : World} {a0 : Act} {V : Nat → Value → World → Prop} {Q : Exit → Act → World → Prop} : ∀ (os : List Oper) (i : Nat), HeadStepsG P D S ops h w0 a0 V Q i os → ∀ j o, os[j]? = some o → (D (i + j) = true → HeadStep P S ops h w0 a0 V Q (i + j) o) ∧ (D (i + j) = false → ∀ w, V (i + j) undef w) ∧ GuardOk V (D (i + j)) o := by
  intro os
  induction os with
  | nil => intro i _ j o h; simp at h
  | cons x os ih =>
    intro i hh j o hj
    cases j with
    | zero => simp at hj; subst hj; exact hh.1
    | succ j => rw [show i + (j + 1) = (i + 1) + j by omega]; exact ih (i + 1) hh.2 j o (by simpa using hj)
theorem HeadStepsG.nil {D : Nat → Bool} {S : Nat → Prop} {ops : Array Oper} {h : Nat} {w0 : World} {a0 : Act} {V : Nat → Value → World → Prop} {Q : Exit → Act → World → Prop} {i : Nat} : HeadStepsG P D S ops h w0 a0 V Q i [] := trivial
/-- an operation that is done -/
theorem HeadStepsG.cons {D : Nat → Bool} {S : Nat → Prop} {ops : Array Oper} {h : Nat} {w0 : World} {a0 : Act} {V : Nat → Value → World → Prop} {Q : Exit → Act → World → Prop} {i : Nat} {o : Oper} {os : List Oper} (hD : D i = true) (hG : GuardOk V true o) (h1 : HeadStep P S ops h w0 a0 V Q i o) (h2 : HeadStepsG P D S ops h w0 a0 V Q (i + 1) os) : HeadStepsG P D S ops h w0 a0 V Q i (o :: os) :=
  ⟨⟨fun _ => h1, fun h => (by rw [hD] at h; cases h), by rw [hD]; exact hG⟩, h2⟩
/-- an operation that its guard leaves out -/
theorem HeadStepsG.skip {D : Nat → Bool} {S : Nat → Prop} {ops : Array Oper} {h : Nat} {w0 : World} {a0 : Act} {V : Nat → Value → World → Prop} {Q : Exit → Act → World → Prop} {i : Nat} {o : Oper} {os : List Oper} (hD : D i = false) (hG : GuardOk V false o) (h1 : ∀ w, V i undef w) (h2 : HeadStepsG P D S ops h w0 a0 V Q (i + 1) os) : HeadStepsG P D S ops h w0 a0 V Q i (o :: os) :=
  ⟨⟨fun h => (by rw [hD] at h; cases h), fun _ => h1, by rw [hD]; exact hG⟩, h2⟩
theorem wpAny_headMG {D : Nat → Bool} {S : Nat → Prop} {l : List Oper} {h : Nat} {w0 : World} {a0 : Act} {V : Nat → Value → World → Prop} {Q : Exit → Act → World → Prop} (hform : headFormG l.toArray h a0.tmps.size D = true)
    (hs : Region.sinkB .any l.toArray h = true) (hc : Region.chainB .any l.toArray h = true) (hlt : h < l.length) (hq : Region.seqB .any l.toArray (l.length - h) h (headDone h l.length) = true)
    (hV : ∀ i v w w', V i v w → Ext S w w' → V i v w') (hstep : HeadStepsG P D S l.toArray h w0 a0 V Q 0 (l.take h))
    (hend : ∀ a w, Ext S w0 w → a.defers = a0.defers → a.tmps.size = a0.tmps.size → (∀ t, ((List.range h).all fun j => slotOf l.toArray j != t) = true → a.tmps.getD t undef = a0.tmps.getD t undef) → (∀ i, i < h → V i (a.tmps.getD (slotOf l.toArray i) undef) w) → wpList P l.toArray Q (l.drop h) a w) :
    ∀ (f : Nat) (listed : Array Bool) (a : Act) (w : World), HeadSt S l.toArray h w0 a0 V listed a w → HeadInv .any l.toArray h listed → listed.toList.countP (fun b => !b) = f + (l.length - h) → wpAny P .any l.toArray Q (f + (l.length - h)) listed a w := by
  have hsz : l.toArray.size = l.length := by simp
  -- how many of the tail are not done
  have hcnt : (headDone h l.length).toList.countP (fun b => !b) = l.length - h := by
    simp only [headDone, List.countP_map]
    have e : ∀ m, h ≤ m → (List.range m).countP ((fun b => !b) ∘ fun i => decide (i < h)) = m - h := by
      intro m hm
      induction m with
      | zero => simp
      | succ m ih =>
        rw [List.range_succ, List.countP_append]
        by_cases hmh : h ≤ m
        · rw [ih hmh]
          have : ¬ m < h := by omega
          simp [this]; omega
        · have e1 : m + 1 = h := by omega
          have : (List.range m).countP ((fun b => !b) ∘ fun i => decide (i < h)) = 0 := by
            rw [List.countP_eq_zero]
            intro x hx
            have := List.mem_range.1 hx
            simp; omega
          rw [this]
          have : m < h := by omega
          simp [this]; omega
    exact e l.length (by omega)
  intro f
  induction f with
  | zero =>
    intro listed a w st inv hcn
    have hall : ∀ i, i < h → i < l.toArray.size → listed.getD i false = true := by
      intro i hi hi2
      cases hv : listed.getD i false with
      | true => rfl
      | false =>
        exfalso
        have hil : i < listed.size := by rw [inv.size]; exact hi2
        have hpos : ∀ (L : List Bool) (k : Nat), k < h → h ≤ L.length → L[k]? = some false → (∀ t, h ≤ t → t < L.length → L[t]? = some false) → L.length - h < L.countP (fun b => !b) := by
          intro L k hk hL hkf ht
          have e1 : L = L.take h ++ L.drop h := (List.take_append_drop h L).symm
          rw [e1, List.countP_append]
          have c2 : (L.drop h).countP (fun b => !b) = L.length - h := by
            rw [List.countP_eq_length.2, List.length_drop]
            intro b hb
            obtain ⟨j, hj, rfl⟩ := List.getElem_of_mem hb
            rw [List.length_drop] at hj
            have := ht (h + j) (by omega) (by omega)
            rw [List.getElem_drop]
            rw [List.getElem?_eq_getElem (by omega)] at this
            simpa using this
          have c1 : 0 < (L.take h).countP (fun b => !b) := by
            rw [List.countP_pos_iff]
            refine ⟨false, ?_, rfl⟩
            rw [List.mem_iff_getElem?]
            exact ⟨k, by rw [List.getElem?_take, if_pos hk]; exact hkf⟩
          rw [← e1, c2]; omega
        have := hpos listed.toList i hi (by simp [inv.size]; omega) (by
          have : listed[i] = false := by simpa [hil] using hv
          simp [hil, this]) (fun t ht1 ht2 => by
          have ht3 : t < l.toArray.size := by rw [← inv.size]; simpa using ht2
          have := inv.tail t ht1 ht3
          have ht4 : t < listed.size := by simpa using ht2
          have h5 : listed[t] = false := by simpa [ht4] using this
          simp [ht4, h5])
        have hl : listed.toList.length = l.length := by simp [inv.size]
        rw [hl] at this
        omega
    have e := headDone_eq inv hall
    rw [hsz] at e
    rw [Nat.zero_add]
    have hdl : (l.drop h).length = l.length - h := by simp
    have := wpAny_of_seq (P := P) (ops := l.toArray) (md := .any) (Q' := Q) (l.drop h) h listed a w (fun j => by simp) (by rw [hdl, e]; exact hq)
      (hend a w st.ext st.defers st.size st.same (fun i hi => st.vals i hi (hall i hi (by rw [hsz]; omega))))
    rw [hdl] at this
    exact this
  | succ f ih =>
    intro listed a w st inv hcn
    -- some operation of the head is not done
    obtain ⟨i0, hi0, hi0f⟩ : ∃ i, i < h ∧ listed.getD i true = false := by
      by_cases hex : ∃ i, i < h ∧ listed.getD i true = false
      · exact hex
      · exfalso
        have hall : ∀ i, i < h → i < l.toArray.size → listed.getD i false = true := by
          intro i hi hi2
          have hil : i < listed.size := by rw [inv.size]; exact hi2
          cases hv : listed.getD i false with
          | true => rfl
          | false => exact absurd ⟨i, hi, getD_in hil hv⟩ hex
        have e := headDone_eq inv hall
        rw [hsz] at e
        rw [e, hcnt] at hcn
        omega
    have hntail := tail_waits hs hc (by rw [hsz]; exact hlt) inv _ i0 rfl hi0 hi0f
    rw [show f + 1 + (l.length - h) = (f + (l.length - h)) + 1 by omega]
    refine ⟨fun hr => ?_, fun i hm => ?_⟩
    · exfalso
      -- the least operation that is not done may come up
      have hleast : ∀ i, i < h → listed.getD i true = false → ∃ j, j ∈ Region.ready .any l.toArray listed := by
        intro i
        induction i using Nat.strongRecOn with
        | _ i ihi =>
          intro hi hf
          obtain ⟨o, ho⟩ : ∃ o, l.toArray[i]? = some o := ⟨l[i]'(by omega), by simp⟩
          have hsp := headFormG_spec hform hi ho
          by_cases hall : ∀ e ∈ o.after, Region.binds .any e = true → listed.getD e.on false = true
          · exact ⟨i, mem_ready.2 ⟨hf, o, ho, hall⟩⟩
          · simp only [Classical.not_forall] at hall
            obtain ⟨e, he, hb, hl⟩ := hall
            have hon := hsp.2.2.2 e he hb
            refine ihi e.on hon (by omega) (getD_in (by rw [inv.size, hsz]; omega) (by simpa using hl))
      obtain ⟨j, hj⟩ := hleast i0 hi0 hi0f
      rw [hr] at hj; cases hj
    · have hih : i < h := by
        rcases Nat.lt_or_ge i h with h' | h'
        · exact h'
        · exact absurd hm (hntail i h')
      obtain ⟨hun, o, ho, hdep⟩ := mem_ready.1 hm
      obtain ⟨hgd, ⟨d, hd, hdn, hds⟩, hother, -⟩ := headFormG_spec hform hih ho
      have hst := HeadStepsG.get (l.take h) 0 hstep i o (by rw [List.getElem?_take, if_pos hih]; simpa using ho)
      rw [Nat.zero_add] at hst
      have hda : d < a.tmps.size := by rw [st.size]; exact hdn
      have hput : ∀ v w', Ext S w w' → V i v w' → wpAny P .any l.toArray Q (f + (l.length - h)) (listed.setIfInBounds i true) (a.put (some d) v) w' := by
        intro v w' hx hv
        refine ih _ _ _ ⟨st.ext.trans' hx, by simp [Act.put, st.defers], by simp [Act.put, st.size], fun t ht => ?_, fun j hj hl => ?_⟩ (inv.set hm hih) (by have := countP_lt hun; omega)
        · rw [getD_put hda, if_neg (fun e => by
            rw [List.all_eq_true] at ht
            have := ht i (List.mem_range.2 hih)
            simp only [bne_iff_ne] at this
            exact this (by rw [← hds, e]))]
          exact st.same t ht
        · rw [getD_put hda]
          by_cases e : j = i
          · subst e; rw [if_pos hds.symm]; exact hv
          · rw [if_neg (fun e2 => hother j hj e (by rw [e2, hds]))]
            refine hV j _ w w' (st.vals j hj ?_) hx
            rw [getD_set_ne false (Ne.symm e)] at hl
            exact hl
      have hw : Region.wanted o (yielded l.toArray a.tmps) = D i := by
        rcases hgd with ⟨hn, hD⟩ | ⟨g, b, hgb, hgh, e, he, hbe, heg⟩
        · simp [Region.wanted, hn, hD]
        · have hv := st.vals g hgh (by rw [← heg]; exact hdep e he hbe)
          have hok := hst.2.2
          unfold GuardOk at hok
          rw [hgb] at hok
          have hvv := hok _ _ hv
          obtain ⟨og, hog⟩ : ∃ og, l.toArray[g]? = some og := ⟨l[g]'(by omega), by simp⟩
          obtain ⟨-, ⟨dg, hdg, -, -⟩, -, -⟩ := headFormG_spec hform hgh hog
          have hy := yielded_of hog hdg hvv
          simp only [Region.wanted, hgb, hy]
          cases D i <;> cases b <;> rfl
      unfold wpOp
      rw [ho]
      simp only [hw]
      cases hDi : D i with
      | false =>
        simp only [Bool.false_eq_true, if_false]
        rw [hd]
        exact hput _ _ (Ext.refl _ _) (hst.2.1 hDi _)
      | true =>
      have hst := hst.1 hDi
      simp only [if_true]
      refine .inl (hst a w st.ext st.same (fun j hj => ?_) _ ?_)
      · simp only [Bool.and_eq_true, decide_eq_true_eq] at hj
        obtain ⟨hjh, hj⟩ := hj
        obtain ⟨e, he, hb⟩ := Array.any_eq_true'.1 hj
        simp only [Bool.and_eq_true, beq_iff_eq] at hb
        obtain ⟨hb1, rfl⟩ := hb
        exact st.vals e.on hjh (hdep e he hb1)
      · intro v w' hx hv
        rw [hd]
        exact hput v w' hx hv
theorem wp_region_headG {l : List Oper} {id : Nat} {a : Act} {w : World} {Q : Exit → Act → World → Prop} (h : Nat) (D : Nat → Bool) (S : Nat → Prop) (V : Nat → Value → World → Prop) (hm : P.follows .mixedOrders = true)
    (hform : headFormG l.toArray h a.tmps.size D = true)
    (hs : (Region.sinkB .any l.toArray h && Region.chainB .any l.toArray h && decide (h < l.length) && Region.seqB .any l.toArray (l.length - h) h (headDone h l.length)) = true)
    (hV : ∀ i v w w', V i v w → Ext S w w' → V i v w') (hstep : HeadStepsG P D S l.toArray h w.drew a V Q 0 (l.take h))
    (hend : ∀ a' w', Ext S w w' → a'.defers = a.defers → a'.tmps.size = a.tmps.size → (∀ t, ((List.range h).all fun j => slotOf l.toArray j != t) = true → a'.tmps.getD t undef = a.tmps.getD t undef) → (∀ i, i < h → V i (a'.tmps.getD (slotOf l.toArray i) undef) w') → wpList P l.toArray Q (l.drop h) a' w') :
    (Code.region id l.toArray true).wp P Q a w := by
  simp only [Bool.and_eq_true, decide_eq_true_eq] at hs
  obtain ⟨⟨⟨h1, h2⟩, h3⟩, h4⟩ := hs
  refine wp_region_any hm ?_
  have hsz : l.toArray.size = h + (l.length - h) := by simp; omega
  rw [hsz]
  have hrep : ∀ i, (Array.replicate l.toArray.size false).getD i false = false := fun i => getD_replicate_false _ _
  have := wpAny_headMG (w0 := w.drew) (a0 := a) hform h1 h2 h3 h4 hV hstep (fun a' w' hx => hend a' w' ((Ext.refl S w).drew.trans' hx)) h (Array.replicate l.toArray.size false) a w.drew
    ⟨Ext.refl S _, rfl, rfl, fun _ _ => rfl, fun i _ hl => by rw [hrep] at hl; cases hl⟩
    ⟨by simp, fun j oj _ hl => absurd hl (by rw [hrep]; decide), fun t _ ht => getD_in (by simpa using ht) (hrep t)⟩
    (by
      rw [Array.toList_replicate, List.countP_replicate]
      simp; omega)
  rw [hsz] at this
  exact this
end
end Go.My
end
