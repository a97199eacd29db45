/-
  PROVED HERE: 'Rows.ScriptItemsSaid': of every input the law 'coldstorelaw29.ScriptItems' answers true, and each argument reads behind the call as it read before. No condition but the form's own.
-/
import Derived.Test.YtchejnnfbinclaaZI
import Derived.Test.YtchejnnfbinclaaRows

section
/- The walk of ScriptItems. -/
namespace Go.Proofs.Ytchejnnfbinclaa
open Go.RowKit Go.My

theorem NewBs.rowsN {w : World} {B : Nat} {ls : List (List UInt8)} {v : Value} (h : NewBs w B ls v) : IsRowsN w ls v := by
  obtain ⟨xs, h1, h2⟩ := h
  exact ⟨_, IsRow.of_own h1, fun i hi => ⟨(h2 i hi).1, (h2 i hi).2.2⟩⟩
theorem rows_form {w : World} {ls : List (List UInt8)} {v : Value} (h : IsRows w ls v) : ∃ a c, v = .slice a ls.length c ∧ ls.length ≤ c ∧ c ≤ 9223372036854775807 := by
  obtain ⟨f, ⟨a, c, rfl, h1, h2, -⟩, -⟩ := h
  exact ⟨a, c, rfl, h1, h2⟩
theorem bodies_length (is : List (List UInt8 × Bool)) : (bodies is).length = is.length := by unfold bodies; simp
theorem size59 (w : World) : (sizeOf 31).run Try.prog w = .ok 1 w := by kernel_rfl
theorem take59 (a : Option Addr) (k len cap : Nat) (hk : k ≤ cap) (w : World) : (Instr.sliceAt 59 (.slice a len cap) none (some (.int .i64 k)) none).run Try.prog w = .ok (.slice a k cap) w :=
  run_takeS Try.underlying59 size59 a .i64 k len cap hk w
theorem and7k (n : Int) : bits .and .i64 n 7 = (((n % 8).toNat : Nat) : Int) := by
  have h := i64_mask n 3 (by decide)
  rw [Int.toNat_of_nonneg (by omega)]
  exact h
theorem brief_le {ls : List (List UInt8)} (h : BriefP ls) : (∀ x ∈ ls, x.length ≤ 100) ∧ ls.length ≤ 20 ∧ (joinB ls).length ≤ 2080 := by
  have h1 : ∀ x ∈ ls, x.length ≤ 100 := fun x hx => by
    obtain ⟨i, hi, rfl⟩ := List.mem_iff_getElem.1 hx
    have := h.1 i hi
    rwa [List.getD_eq_getElem?_getD, List.getElem?_eq_getElem hi] at this
  have h2 := h.2
  have h3 : ∀ ks : List (List UInt8), (∀ x ∈ ks, x.length ≤ 100) → (joinB ks).length ≤ ks.length * 104 := by
    intro ks
    induction ks with
    | nil => intro _; simp [joinB]
    | cons k ks ih =>
      intro hk
      have := ih (fun x hx => hk x (List.mem_cons_of_mem _ hx))
      have hk0 := hk k (List.mem_cons_self ..)
      rw [joinB_cons, List.length_append, bytesB_length, List.length_cons]
      omega
  have := h3 ls h1
  exact ⟨h1, h2, by omega⟩

set_option maxRecDepth 100000 in
set_option maxHeartbeats 8000000 in
theorem scriptItems_fr (l : List UInt8) (v0 : Value) (ls : List (List UInt8)) (v1 : Value) (most : Int) (w : World) (hb : IsBytes w l v0) (hn : NilOk v0) (hr : IsRowsN w ls v1 ∧ NilOk v1) (_lo : -9223372036854775808 ≤ most) (_hi : most ≤ 9223372036854775807) :
    Calls Try.prog 5 #[v0, v1, .int .i64 most] w fun e w' => e = .returned (.bool true) ∧ Ext No w w' := by
  obtain ⟨a, c, rfl, hlc, hc63, -⟩ := id hb
  obtain ⟨hr, -⟩ := hr
  obtain ⟨al, cl, rfl, -⟩ := rows_form hr.rows
  obtain ⟨m, hm⟩ : ∃ m, m = l.length := ⟨_, rfl⟩
  obtain ⟨ml, hml⟩ : ∃ m, m = ls.length := ⟨_, rfl⟩
  rw [← hm] at hb hn hlc ⊢
  rw [← hml] at hr ⊢
  have HM := Lib.hid hm; have HML := Lib.hid hml; have HB := Lib.hid (And.intro hb hn); have HR := Lib.hid hr
  have h7 := and7k most
  obtain ⟨k, hk⟩ : ∃ k, k = (most % 8).toNat := ⟨_, rfl⟩
  rw [← hk] at h7
  have HK := Lib.hid (show k ≤ 7 by omega)
  clear hm hml hb hn hr hk
  go_enter Try.func5, Try.ntmps5
  go_wp2_with fail
  refine (alive_any w).mono ?_
  rintro e w1 ⟨rfl, hE1⟩
  have HE1 := Lib.hid hE1
  clear hE1
  by_cases h600 : 600 < m
  · have h600i : (600 : Int) < m := by omega
    go_wp2_with fail
    go_ret
    exact ⟨rfl, HE1.out⟩
  have h600i : decide ((600 : Int) < m) = false := by simp; omega
  have HLE := Lib.hid (show m ≤ 600 by omega)
  go_wp2_with fail
  refine (brief_any ls _ w1 (HR.out.rows.ext0 HE1.out)).mono ?_
  rintro e w2 ⟨rfl, t, rfl, ht⟩
  cases t
  · clear ht
    go_wp2_with fail
    go_ret
    exact ⟨rfl, HE1.out⟩
  have hP := brief_le (ht.1 rfl)
  have HP := Lib.hid hP
  clear hP ht
  go_wp2_with fail
  refine (itemsS_any l a m c 1000 w1 (HB.out.1.ext0 HE1.out) HB.out.2 (by have := HM.out; have := HLE.out; omega)).mono ?_
  rintro e w3 ⟨x3, rfl, hx3, hE3⟩
  have hlen := itemsL_len l
  rw [List.take_of_length_le (show (itemsL l).length ≤ Int.toNat 1000 by have := HM.out; have := HLE.out; show _ ≤ 1000; omega)] at hx3 ⊢
  have hr3 := hx3.rowsN
  obtain ⟨a3, c3, rfl, -⟩ := rows_form hr3.rows
  have HE3 := Lib.hid (HE1.out.trans' hE3)
  have HR3 := Lib.hid hr3.rows
  clear hlen hx3 hr3 hE3 HE1
  dsimp only
  go_wp2_with fail
  refine (itemsR_any l a m c w3 (HB.out.1.ext0 HE3.out) HB.out.2 (by have := HM.out; have := HLE.out; omega)).mono ?_
  rintro e w4 ⟨hE4, x4, t4, rfl, hx4, ht4⟩
  have hr4 := hx4.rows hE4
  obtain ⟨a4, c4, rfl, hlc4, hc4⟩ := rows_form hr4
  have hcount := wholes_count l
  rw [bodies_length] at hr4 hlc4
  obtain ⟨n, hnn⟩ : ∃ n, n = (itemsL l).length := ⟨_, rfl⟩
  obtain ⟨q, hq⟩ : ∃ q, q = wholes (itemsL l) := ⟨_, rfl⟩
  have hqn : t4 = true ∧ q = n ∨ t4 = false ∧ q + 1 = n := by
    rcases hcount with ⟨h1, h2⟩ | ⟨h1, h2⟩
    · exact .inl ⟨ht4.2 h1, by omega⟩
    · refine .inr ⟨?_, by omega⟩
      cases t4
      · rfl
      · exact absurd (ht4.1 rfl) h1
  have hr3 := HR3.out
  rw [bodies_length] at hr3 ⊢
  rw [← hnn] at hr3 hr4 hlc4 ⊢
  rw [← hq]
  have HNN := Lib.hid hnn
  have hn600 : n ≤ 600 := by have := itemsL_len l; have := HM.out; have := HLE.out; omega
  have HR3' := Lib.hid (hr3.ext0 hE4); have HR4 := Lib.hid hr4; have HE4 := Lib.hid (HE3.out.trans' hE4)
  clear hr3 hE4 hr4 HR3 HE3 hnn hq hx4 ht4 hcount
  dsimp only
  rcases hqn with ⟨rfl, rfl⟩ | ⟨rfl, rfl⟩
  · go_wp2_with fail
    refine (itemsS_any l a m c k w4 (HB.out.1.ext0 HE4.out) HB.out.2 (by have := HM.out; have := HLE.out; omega)).mono ?_
    rintro e w5 ⟨x5, rfl, hx5, hE5⟩
    rw [show Int.toNat (k : Int) = k from rfl] at hx5 ⊢
    have hr5 := hx5.rowsN.rows
    obtain ⟨a5, c5, rfl, -⟩ := rows_form hr5
    have hl5 : (bodies ((itemsL l).take k)).length = min k (q) := by rw [bodies_length, List.length_take, ← HNN.out]
    rw [hl5] at hr5 ⊢
    obtain ⟨j, hj⟩ : ∃ j, j = min k (q) := ⟨_, rfl⟩
    rw [← hj] at hr5 ⊢
    have htk : bodies ((itemsL l).take k) = (bodies (itemsL l)).take j := by
      unfold bodies
      rw [List.map_take]
      have hlm : ((itemsL l).map (·.1)).length = q := by rw [List.length_map, ← HNN.out]
      rcases Nat.le_total k (q) with h | h
      · rw [hj, Nat.min_eq_left h]
      · rw [hj, Nat.min_eq_right h, List.take_of_length_le (by omega), List.take_of_length_le (by omega)]
    rw [htk] at hr5
    generalize wholes ((itemsL l).take k) = q5 at *
    have HR3 := Lib.hid (HR3'.out.ext0 hE5); have HR4' := Lib.hid (HR4.out.ext0 hE5); have HR5 := Lib.hid hr5
    have HE5 := Lib.hid (HE4.out.trans' hE5)
    have HTK := Lib.hid htk
    have HJ := Lib.hid hj
    clear hl5 hx5 hr5 hE5 HE4 HR4 HR3' htk hj
    dsimp only
    go_wp2_with fail
    refine (same4_any _ _ _ _ w5 HR3.out HR4'.out).mono ?_
    rintro e w6 ⟨rfl, hE6⟩
    rw [decide_eq_true rfl]
    have HR3 := Lib.hid (HR3.out.ext0 hE6); have HR4 := Lib.hid (HR4'.out.ext0 hE6); have HR5 := Lib.hid (HR5.out.ext0 hE6)
    have HE6 := Lib.hid (HE5.out.trans' hE6)
    clear hE6 HE5 HR4'
    dsimp only
    have hj := HJ.out
    have hjc : j ≤ c4 := by omega
    have tk := fun wx => take59 a4 j (q) c4 hjc wx
    have htj := HR4.out.take j (by omega)
    have HTJ := Lib.hid htj
    clear htj
    have hmin : ((q : Nat) : Int) < k ∧ j = q ∨ ¬ ((q : Nat) : Int) < k ∧ j = k := by omega
    clear hj
    rcases hmin with ⟨hlt, hj⟩ | ⟨hlt, hj⟩
    · subst hj
      go_wp2_with fail
      refine (same4_any _ _ _ _ w6 HR5.out HTJ.out).mono ?_
      rintro e w7 ⟨rfl, hE7⟩
      rw [decide_eq_true rfl]
      have HE7 := Lib.hid (HE6.out.trans' hE7)
      clear hE7 HE6 HR3 HR4 HR5 HTJ
      dsimp only
      go_wp2_with fail
      refine (join29_any ls al ml cl w7 (HR.out.ext0 HE7.out) (by have := HP.out.2.2; omega)).mono ?_
      rintro e w8 ⟨x8, rfl, hx8, hE8⟩
      have HX8 := Lib.hid hx8.bytes
      have HE8 := Lib.hid (HE7.out.trans' hE8)
      obtain ⟨a8, c8, rfl⟩ := own_form hx8
      clear hE8 HE7 hx8
      dsimp only
      go_wp2_with fail
      refine (joinR29_any ls (.slice al ml cl) w8 (HR.out.ext0 HE8.out) (by have := HP.out.2.2; omega)).mono ?_
      rintro e w9 ⟨x9, rfl, hx9, hE9⟩
      have HX9 := Lib.hid hx9.bytes
      have HX8' := Lib.hid (HX8.out.ext0 hE9)
      have HE9 := Lib.hid (HE8.out.trans' hE9)
      obtain ⟨a9, c9, rfl⟩ := own_form hx9
      clear hE9 HE8 hx9 HX8
      dsimp only
      go_wp2_with fail
      refine (same1_any (joinB ls) (joinB ls) _ _ w9 HX8'.out HX9.out).mono ?_
      rintro e w10 ⟨rfl, rfl⟩
      rw [decide_eq_true rfl]
      dsimp only
      go_wp2_with fail
      go_ret
      exact ⟨rfl, HE9.out⟩
    · subst hj
      go_wp2_with fail
      refine (same4_any _ _ _ _ w6 HR5.out HTJ.out).mono ?_
      rintro e w7 ⟨rfl, hE7⟩
      rw [decide_eq_true rfl]
      have HE7 := Lib.hid (HE6.out.trans' hE7)
      clear hE7 HE6 HR3 HR4 HR5 HTJ
      dsimp only
      go_wp2_with fail
      refine (join29_any ls al ml cl w7 (HR.out.ext0 HE7.out) (by have := HP.out.2.2; omega)).mono ?_
      rintro e w8 ⟨x8, rfl, hx8, hE8⟩
      have HX8 := Lib.hid hx8.bytes
      have HE8 := Lib.hid (HE7.out.trans' hE8)
      obtain ⟨a8, c8, rfl⟩ := own_form hx8
      clear hE8 HE7 hx8
      dsimp only
      go_wp2_with fail
      refine (joinR29_any ls (.slice al ml cl) w8 (HR.out.ext0 HE8.out) (by have := HP.out.2.2; omega)).mono ?_
      rintro e w9 ⟨x9, rfl, hx9, hE9⟩
      have HX9 := Lib.hid hx9.bytes
      have HX8' := Lib.hid (HX8.out.ext0 hE9)
      have HE9 := Lib.hid (HE8.out.trans' hE9)
      obtain ⟨a9, c9, rfl⟩ := own_form hx9
      clear hE9 HE8 hx9 HX8
      dsimp only
      go_wp2_with fail
      refine (same1_any (joinB ls) (joinB ls) _ _ w9 HX8'.out HX9.out).mono ?_
      rintro e w10 ⟨rfl, rfl⟩
      rw [decide_eq_true rfl]
      dsimp only
      go_wp2_with fail
      go_ret
      exact ⟨rfl, HE9.out⟩
  · go_wp2_with fail
    refine (itemsS_any l a m c k w4 (HB.out.1.ext0 HE4.out) HB.out.2 (by have := HM.out; have := HLE.out; omega)).mono ?_
    rintro e w5 ⟨x5, rfl, hx5, hE5⟩
    rw [show Int.toNat (k : Int) = k from rfl] at hx5 ⊢
    have hr5 := hx5.rowsN.rows
    obtain ⟨a5, c5, rfl, -⟩ := rows_form hr5
    have hl5 : (bodies ((itemsL l).take k)).length = min k (q + 1) := by rw [bodies_length, List.length_take, ← HNN.out]
    rw [hl5] at hr5 ⊢
    obtain ⟨j, hj⟩ : ∃ j, j = min k (q + 1) := ⟨_, rfl⟩
    rw [← hj] at hr5 ⊢
    have htk : bodies ((itemsL l).take k) = (bodies (itemsL l)).take j := by
      unfold bodies
      rw [List.map_take]
      have hlm : ((itemsL l).map (·.1)).length = q + 1 := by rw [List.length_map, ← HNN.out]
      rcases Nat.le_total k (q + 1) with h | h
      · rw [hj, Nat.min_eq_left h]
      · rw [hj, Nat.min_eq_right h, List.take_of_length_le (by omega), List.take_of_length_le (by omega)]
    rw [htk] at hr5
    generalize wholes ((itemsL l).take k) = q5 at *
    have HR3 := Lib.hid (HR3'.out.ext0 hE5); have HR4' := Lib.hid (HR4.out.ext0 hE5); have HR5 := Lib.hid hr5
    have HE5 := Lib.hid (HE4.out.trans' hE5)
    have HTK := Lib.hid htk
    have HJ := Lib.hid hj
    clear hl5 hx5 hr5 hE5 HE4 HR4 HR3' htk hj
    dsimp only
    go_wp2_with fail
    refine (same4_any _ _ _ _ w5 HR3.out HR4'.out).mono ?_
    rintro e w6 ⟨rfl, hE6⟩
    rw [decide_eq_true rfl]
    have HR3 := Lib.hid (HR3.out.ext0 hE6); have HR4 := Lib.hid (HR4'.out.ext0 hE6); have HR5 := Lib.hid (HR5.out.ext0 hE6)
    have HE6 := Lib.hid (HE5.out.trans' hE6)
    clear hE6 HE5 HR4'
    dsimp only
    have hj := HJ.out
    have hjc : j ≤ c4 := by omega
    have tk := fun wx => take59 a4 j (q + 1) c4 hjc wx
    have htj := HR4.out.take j (by omega)
    have HTJ := Lib.hid htj
    clear htj
    have hmin : ((q + 1 : Nat) : Int) < k ∧ j = q + 1 ∨ ¬ ((q + 1 : Nat) : Int) < k ∧ j = k := by omega
    clear hj
    rcases hmin with ⟨hlt, hj⟩ | ⟨hlt, hj⟩
    · subst hj
      go_wp2_with fail
      refine (same4_any _ _ _ _ w6 HR5.out HTJ.out).mono ?_
      rintro e w7 ⟨rfl, hE7⟩
      rw [decide_eq_true rfl]
      have HE7 := Lib.hid (HE6.out.trans' hE7)
      clear hE7 HE6 HR3 HR4 HR5 HTJ
      dsimp only
      go_wp2_with fail
      refine (join29_any ls al ml cl w7 (HR.out.ext0 HE7.out) (by have := HP.out.2.2; omega)).mono ?_
      rintro e w8 ⟨x8, rfl, hx8, hE8⟩
      have HX8 := Lib.hid hx8.bytes
      have HE8 := Lib.hid (HE7.out.trans' hE8)
      obtain ⟨a8, c8, rfl⟩ := own_form hx8
      clear hE8 HE7 hx8
      dsimp only
      go_wp2_with fail
      refine (joinR29_any ls (.slice al ml cl) w8 (HR.out.ext0 HE8.out) (by have := HP.out.2.2; omega)).mono ?_
      rintro e w9 ⟨x9, rfl, hx9, hE9⟩
      have HX9 := Lib.hid hx9.bytes
      have HX8' := Lib.hid (HX8.out.ext0 hE9)
      have HE9 := Lib.hid (HE8.out.trans' hE9)
      obtain ⟨a9, c9, rfl⟩ := own_form hx9
      clear hE9 HE8 hx9 HX8
      dsimp only
      go_wp2_with fail
      refine (same1_any (joinB ls) (joinB ls) _ _ w9 HX8'.out HX9.out).mono ?_
      rintro e w10 ⟨rfl, rfl⟩
      rw [decide_eq_true rfl]
      dsimp only
      go_wp2_with fail
      go_ret
      exact ⟨rfl, HE9.out⟩
    · subst hj
      go_wp2_with fail
      refine (same4_any _ _ _ _ w6 HR5.out HTJ.out).mono ?_
      rintro e w7 ⟨rfl, hE7⟩
      rw [decide_eq_true rfl]
      have HE7 := Lib.hid (HE6.out.trans' hE7)
      clear hE7 HE6 HR3 HR4 HR5 HTJ
      dsimp only
      go_wp2_with fail
      refine (join29_any ls al ml cl w7 (HR.out.ext0 HE7.out) (by have := HP.out.2.2; omega)).mono ?_
      rintro e w8 ⟨x8, rfl, hx8, hE8⟩
      have HX8 := Lib.hid hx8.bytes
      have HE8 := Lib.hid (HE7.out.trans' hE8)
      obtain ⟨a8, c8, rfl⟩ := own_form hx8
      clear hE8 HE7 hx8
      dsimp only
      go_wp2_with fail
      refine (joinR29_any ls (.slice al ml cl) w8 (HR.out.ext0 HE8.out) (by have := HP.out.2.2; omega)).mono ?_
      rintro e w9 ⟨x9, rfl, hx9, hE9⟩
      have HX9 := Lib.hid hx9.bytes
      have HX8' := Lib.hid (HX8.out.ext0 hE9)
      have HE9 := Lib.hid (HE8.out.trans' hE9)
      obtain ⟨a9, c9, rfl⟩ := own_form hx9
      clear hE9 HE8 hx9 HX8
      dsimp only
      go_wp2_with fail
      refine (same1_any (joinB ls) (joinB ls) _ _ w9 HX8'.out HX9.out).mono ?_
      rintro e w10 ⟨rfl, rfl⟩
      rw [decide_eq_true rfl]
      dsimp only
      go_wp2_with fail
      go_ret
      exact ⟨rfl, HE9.out⟩

end Go.Proofs.Ytchejnnfbinclaa
end

section
/-
  PROVED HERE: 'Rows.ScriptItemsSaid': of every input the law 'coldstorelaw29.ScriptItems' answers true, and each argument reads behind the call as it read before. No condition but the form's own.
-/
namespace Go.Proofs.Ytchejnnfbinclaa.scriptItems
open Go.ChangeShapes Go.WideShapes Go.ChangeAt Go.RowKit Go.My
open Go.ChangeMaps (open_string shut_string)
set_option linter.unusedVariables false

theorem own : ownKnob Try.prog.godebug = none := by kernel_rfl
theorem laidOut : laidOutB Try.prog = true := by kernel_rfl

set_option maxRecDepth 100000 in
theorem lifted (os : Os) (started : os.Started) (H : Type) (enc : TypeId × Value → H) :
    ReturnsInHanded {} Try.checked os 5 .any (Rows.scriptItemsSpec.pre6 enc Try.prog Try.f5 Rows.scriptItemsRow.domain false) (Rows.scriptItemsSpec.post enc Try.prog Try.f5 false true false false) := by
  refine returnsInHanded_of_change (C := Try.checked) own started (by kernel_rfl) Try.func5
    (ChangeSpec.witness6 (enc := enc) (C := Try.checked) false ⟨#[], #[.slice none 0 0, .slice none 0 0, .int .i64 0], []⟩ 8 (by kernel_rfl) (by kernel_rfl) (by kernel_rfl) (by kernel_rfl)) ?_
  intro W base args ds gs before hval0 hW hcnd _
  have hval : ∀ (j : Nat) t v, Try.f5.params[j]? = some t → args[j]? = some v → Value.okWide Try.prog W .any base t v := hval0
  have hW' := hW
  obtain ⟨p, q, hA0, hV, rfl, hfz, hnd⟩ := hW
  have hA : DataW.TrodAll enc Try.prog W 0 (fun _ => true) true Try.f5.params.toList args.toList ds p := hA0
  rw [Try.params5] at hA hval
  obtain ⟨v0, vs0, d0, ds0, p0, q0, hargs, rfl, rfl, h0, r0⟩ := trodAll_cons hA
  obtain ⟨v1, vs1, d1, ds1, p1, q1, rfl, rfl, rfl, h1, r1⟩ := trodAll_cons r0
  obtain ⟨v2, vs2, d2, ds2, p2, q2, rfl, rfl, rfl, h2, r2⟩ := trodAll_cons r1
  obtain ⟨rfl, rfl, rfl⟩ := trodAll_nil r2
  obtain rfl : args = #[v0, v1, v2] := by cases args; simp_all
  obtain ⟨rfl, rfl⟩ := trodVars_none hV
  have k0 := h0
  have lt0 : ∀ x ∈ p0, x.block < W.heap.size := by obtain ⟨m, hm⟩ := k0; exact DataW.trod_lt m _ _ _ hm
  have k1 := h1
  have lt1 : ∀ x ∈ p1, x.block < W.heap.size := by obtain ⟨m, hm⟩ := k1; exact DataW.trod_lt m _ _ _ hm
  have k2 := h2
  have lt2 : ∀ x ∈ p2, x.block < W.heap.size := by obtain ⟨m, hm⟩ := k2; exact DataW.trod_lt m _ _ _ hm
  obtain ⟨a0, by0, nl0⟩ := op_bytesN Try.underlying31 Try.underlying5 (by kernel_rfl) (hval 0 31 v0 rfl rfl) h0
  obtain ⟨a1, ot1⟩ := op_rows (hval 1 59 v1 rfl rfl) h1
  obtain ⟨a2, rfl, lo2, hi2⟩ := op_i64 Try.underlying3 (hval 2 3 v2 rfl rfl) h2
  clear hA0 hval0
  refine (scriptItems_fr a0 _ a1 _ a2 W by0 nl0 ot1 lo2 hi2).mono fun e W' ⟨he, ext⟩ => ?_
  subst he
  have bel := ext.below
  exact ⟨_, rfl, _, _, _, [], _, [], hW', trodAll_mk1 (shut_bool Try.underlying4 _), (trodAll_cons_mk (Below.trod laidOut (by kernel_rfl) (of_decide_eq_true (by kernel_rfl)) k0 bel lt0) (trodAll_cons_mk (Below.trod laidOut (by kernel_rfl) (of_decide_eq_true (by kernel_rfl)) k1 bel lt1) (trodAll_cons_mk (Below.trod laidOut (by kernel_rfl) (of_decide_eq_true (by kernel_rfl)) k2 bel lt2) trodAll_mk0))), rfl, bel.frame _, fun h => by cases h⟩

theorem over : Rows.scriptItemsRow.holds Try.pinned (OpenSpec.ofChange Rows.scriptItemsSpec) :=
  OpenClaim.holds_of_wide 5 Try.f5 rfl rfl rfl rfl rfl rfl rfl ⟨rfl, rfl, rfl, rfl, rfl⟩ rfl rfl rfl rfl rfl (by kernel_rfl) Try.func5 (by kernel_rfl)
    (of_decide_eq_true (by kernel_rfl)) (by unfold Func.isWrapper; first | (rw [if_pos (by decide +kernel)]; kernel_rfl) | (rw [if_neg (by decide +kernel)]; exact ⟨rfl, rfl⟩))
    (fun os started H enc _ => lifted os started H enc)

/-- THE STATEMENT -/
theorem proved : Rows.ScriptItemsSaid := over
#print axioms proved
end Go.Proofs.Ytchejnnfbinclaa.scriptItems
end
