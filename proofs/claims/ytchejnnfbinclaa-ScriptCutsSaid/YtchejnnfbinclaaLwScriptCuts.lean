/-
  PROVED HERE: 'Rows.ScriptCutsSaid': of every input the law 'coldstorelaw29.ScriptCuts' answers true, and each argument reads behind the call as it read before. No condition but the form's own.
-/
import Derived.Test.YtchejnnfbinclaaZI
import Derived.Test.YtchejnnfbinclaaRows
set_option linter.unusedVariables false
set_option linter.unusedSimpArgs false

section
/- The walk of ScriptItems. -/
namespace Go.Proofs.Ytchejnnfbinclaa
open Go.RowKit Go.My

theorem NewBs.rowsN {w : World} {B : Nat} {ls : List (List UInt8)} {v : Value} (h : NewBs w B ls v) : IsRowsN w ls v := by
  obtain ⟨xs, h1, h2⟩ := h
  exact ⟨_, IsRow.of_own h1, fun i hi => ⟨(h2 i hi).1, (h2 i hi).2.2⟩⟩
theorem rows_form {w : World} {ls : List (List UInt8)} {v : Value} (h : IsRows w ls v) : ∃ a c, v = .slice a ls.length c ∧ ls.length ≤ c ∧ c ≤ 9223372036854775807 := by
  obtain ⟨f, ⟨a, c, rfl, h1, h2, -⟩, -⟩ := h
  exact ⟨a, c, rfl, h1, h2⟩
theorem bodies_length (is : List (List UInt8 × Bool)) : (bodies is).length = is.length := by unfold bodies; simp
theorem size59 (w : World) : (sizeOf 31).run Try.prog w = .ok 1 w := by kernel_rfl
theorem take59 (a : Option Addr) (k len cap : Nat) (hk : k ≤ cap) (w : World) : (Instr.sliceAt 59 (.slice a len cap) none (some (.int .i64 k)) none).run Try.prog w = .ok (.slice a k cap) w :=
  run_takeS Try.underlying59 size59 a .i64 k len cap hk w
theorem and7k (n : Int) : bits .and .i64 n 7 = (((n % 8).toNat : Nat) : Int) := by
  have h := i64_mask n 3 (by decide)
  rw [Int.toNat_of_nonneg (by omega)]
  exact h
theorem brief_le {ls : List (List UInt8)} (h : BriefP ls) : (∀ x ∈ ls, x.length ≤ 100) ∧ ls.length ≤ 20 ∧ (joinB ls).length ≤ 2080 := by
  have h1 : ∀ x ∈ ls, x.length ≤ 100 := fun x hx => by
    obtain ⟨i, hi, rfl⟩ := List.mem_iff_getElem.1 hx
    have := h.1 i hi
    rwa [List.getD_eq_getElem?_getD, List.getElem?_eq_getElem hi] at this
  have h2 := h.2
  have h3 : ∀ ks : List (List UInt8), (∀ x ∈ ks, x.length ≤ 100) → (joinB ks).length ≤ ks.length * 104 := by
    intro ks
    induction ks with
    | nil => intro _; simp [joinB]
    | cons k ks ih =>
      intro hk
      have := ih (fun x hx => hk x (List.mem_cons_of_mem _ hx))
      have hk0 := hk k (List.mem_cons_self ..)
      rw [joinB_cons, List.length_append, bytesB_length, List.length_cons]
      omega
  have := h3 ls h1
  exact ⟨h1, h2, by omega⟩

set_option maxRecDepth 100000 in
set_option maxHeartbeats 8000000 in
theorem scriptItems_fr (l : List UInt8) (v0 : Value) (ls : List (List UInt8)) (v1 : Value) (most : Int) (w : World) (hb : IsBytes w l v0) (hn : NilOk v0) (hr : IsRowsN w ls v1 ∧ NilOk v1) (_lo : -9223372036854775808 ≤ most) (_hi : most ≤ 9223372036854775807) :
    Calls Try.prog 5 #[v0, v1, .int .i64 most] w fun e w' => e = .returned (.bool true) ∧ Ext No w w' := by
  obtain ⟨a, c, rfl, hlc, hc63, -⟩ := id hb
  obtain ⟨hr, -⟩ := hr
  obtain ⟨al, cl, rfl, -⟩ := rows_form hr.rows
  obtain ⟨m, hm⟩ : ∃ m, m = l.length := ⟨_, rfl⟩
  obtain ⟨ml, hml⟩ : ∃ m, m = ls.length := ⟨_, rfl⟩
  rw [← hm] at hb hn hlc ⊢
  rw [← hml] at hr ⊢
  have HM := Lib.hid hm; have HML := Lib.hid hml; have HB := Lib.hid (And.intro hb hn); have HR := Lib.hid hr
  have h7 := and7k most
  obtain ⟨k, hk⟩ : ∃ k, k = (most % 8).toNat := ⟨_, rfl⟩
  rw [← hk] at h7
  have HK := Lib.hid (show k ≤ 7 by omega)
  clear hm hml hb hn hr hk
  go_enter Try.func5, Try.ntmps5
  go_wp2_with fail
  refine (alive_any w).mono ?_
  rintro e w1 ⟨rfl, hE1⟩
  have HE1 := Lib.hid hE1
  clear hE1
  by_cases h600 : 600 < m
  · have h600i : (600 : Int) < m := by omega
    go_wp2_with fail
    go_ret
    exact ⟨rfl, HE1.out⟩
  have h600i : decide ((600 : Int) < m) = false := by simp; omega
  have HLE := Lib.hid (show m ≤ 600 by omega)
  go_wp2_with fail
  refine (brief_any ls _ w1 (HR.out.rows.ext0 HE1.out)).mono ?_
  rintro e w2 ⟨rfl, t, rfl, ht⟩
  cases t
  · clear ht
    go_wp2_with fail
    go_ret
    exact ⟨rfl, HE1.out⟩
  have hP := brief_le (ht.1 rfl)
  have HP := Lib.hid hP
  clear hP ht
  go_wp2_with fail
  refine (itemsS_any l a m c 1000 w1 (HB.out.1.ext0 HE1.out) HB.out.2 (by have := HM.out; have := HLE.out; omega)).mono ?_
  rintro e w3 ⟨x3, rfl, hx3, hE3⟩
  have hlen := itemsL_len l
  rw [List.take_of_length_le (show (itemsL l).length ≤ Int.toNat 1000 by have := HM.out; have := HLE.out; show _ ≤ 1000; omega)] at hx3 ⊢
  have hr3 := hx3.rowsN
  obtain ⟨a3, c3, rfl, -⟩ := rows_form hr3.rows
  have HE3 := Lib.hid (HE1.out.trans' hE3)
  have HR3 := Lib.hid hr3.rows
  clear hlen hx3 hr3 hE3 HE1
  dsimp only
  go_wp2_with fail
  refine (itemsR_any l a m c w3 (HB.out.1.ext0 HE3.out) HB.out.2 (by have := HM.out; have := HLE.out; omega)).mono ?_
  rintro e w4 ⟨hE4, x4, t4, rfl, hx4, ht4⟩
  have hr4 := hx4.rows hE4
  obtain ⟨a4, c4, rfl, hlc4, hc4⟩ := rows_form hr4
  have hcount := wholes_count l
  rw [bodies_length] at hr4 hlc4
  obtain ⟨n, hnn⟩ : ∃ n, n = (itemsL l).length := ⟨_, rfl⟩
  obtain ⟨q, hq⟩ : ∃ q, q = wholes (itemsL l) := ⟨_, rfl⟩
  have hqn : t4 = true ∧ q = n ∨ t4 = false ∧ q + 1 = n := by
    rcases hcount with ⟨h1, h2⟩ | ⟨h1, h2⟩
    · exact .inl ⟨ht4.2 h1, by omega⟩
    · refine .inr ⟨?_, by omega⟩
      cases t4
      · rfl
      · exact absurd (ht4.1 rfl) h1
  have hr3 := HR3.out
  rw [bodies_length] at hr3 ⊢
  rw [← hnn] at hr3 hr4 hlc4 ⊢
  rw [← hq]
  have HNN := Lib.hid hnn
  have hn600 : n ≤ 600 := by have := itemsL_len l; have := HM.out; have := HLE.out; omega
  have HR3' := Lib.hid (hr3.ext0 hE4); have HR4 := Lib.hid hr4; have HE4 := Lib.hid (HE3.out.trans' hE4)
  clear hr3 hE4 hr4 HR3 HE3 hnn hq hx4 ht4 hcount
  dsimp only
  rcases hqn with ⟨rfl, rfl⟩ | ⟨rfl, rfl⟩
  · go_wp2_with fail
    refine (itemsS_any l a m c k w4 (HB.out.1.ext0 HE4.out) HB.out.2 (by have := HM.out; have := HLE.out; omega)).mono ?_
    rintro e w5 ⟨x5, rfl, hx5, hE5⟩
    rw [show Int.toNat (k : Int) = k from rfl] at hx5 ⊢
    have hr5 := hx5.rowsN.rows
    obtain ⟨a5, c5, rfl, -⟩ := rows_form hr5
    have hl5 : (bodies ((itemsL l).take k)).length = min k (q) := by rw [bodies_length, List.length_take, ← HNN.out]
    rw [hl5] at hr5 ⊢
    obtain ⟨j, hj⟩ : ∃ j, j = min k (q) := ⟨_, rfl⟩
    rw [← hj] at hr5 ⊢
    have htk : bodies ((itemsL l).take k) = (bodies (itemsL l)).take j := by
      unfold bodies
      rw [List.map_take]
      have hlm : ((itemsL l).map (·.1)).length = q := by rw [List.length_map, ← HNN.out]
      rcases Nat.le_total k (q) with h | h
      · rw [hj, Nat.min_eq_left h]
      · rw [hj, Nat.min_eq_right h, List.take_of_length_le (by omega), List.take_of_length_le (by omega)]
    rw [htk] at hr5
    generalize wholes ((itemsL l).take k) = q5 at *
    have HR3 := Lib.hid (HR3'.out.ext0 hE5); have HR4' := Lib.hid (HR4.out.ext0 hE5); have HR5 := Lib.hid hr5
    have HE5 := Lib.hid (HE4.out.trans' hE5)
    have HTK := Lib.hid htk
    have HJ := Lib.hid hj
    clear hl5 hx5 hr5 hE5 HE4 HR4 HR3' htk hj
    dsimp only
    go_wp2_with fail
    refine (same4_any _ _ _ _ w5 HR3.out HR4'.out).mono ?_
    rintro e w6 ⟨rfl, hE6⟩
    rw [decide_eq_true rfl]
    have HR3 := Lib.hid (HR3.out.ext0 hE6); have HR4 := Lib.hid (HR4'.out.ext0 hE6); have HR5 := Lib.hid (HR5.out.ext0 hE6)
    have HE6 := Lib.hid (HE5.out.trans' hE6)
    clear hE6 HE5 HR4'
    dsimp only
    have hj := HJ.out
    have hjc : j ≤ c4 := by omega
    have tk := fun wx => take59 a4 j (q) c4 hjc wx
    have htj := HR4.out.take j (by omega)
    have HTJ := Lib.hid htj
    clear htj
    have hmin : ((q : Nat) : Int) < k ∧ j = q ∨ ¬ ((q : Nat) : Int) < k ∧ j = k := by omega
    clear hj
    rcases hmin with ⟨hlt, hj⟩ | ⟨hlt, hj⟩
    · subst hj
      go_wp2_with fail
      refine (same4_any _ _ _ _ w6 HR5.out HTJ.out).mono ?_
      rintro e w7 ⟨rfl, hE7⟩
      rw [decide_eq_true rfl]
      have HE7 := Lib.hid (HE6.out.trans' hE7)
      clear hE7 HE6 HR3 HR4 HR5 HTJ
      dsimp only
      go_wp2_with fail
      refine (join29_any ls al ml cl w7 (HR.out.ext0 HE7.out) (by have := HP.out.2.2; omega)).mono ?_
      rintro e w8 ⟨x8, rfl, hx8, hE8⟩
      have HX8 := Lib.hid hx8.bytes
      have HE8 := Lib.hid (HE7.out.trans' hE8)
      obtain ⟨a8, c8, rfl⟩ := own_form hx8
      clear hE8 HE7 hx8
      dsimp only
      go_wp2_with fail
      refine (joinR29_any ls (.slice al ml cl) w8 (HR.out.ext0 HE8.out) (by have := HP.out.2.2; omega)).mono ?_
      rintro e w9 ⟨x9, rfl, hx9, hE9⟩
      have HX9 := Lib.hid hx9.bytes
      have HX8' := Lib.hid (HX8.out.ext0 hE9)
      have HE9 := Lib.hid (HE8.out.trans' hE9)
      obtain ⟨a9, c9, rfl⟩ := own_form hx9
      clear hE9 HE8 hx9 HX8
      dsimp only
      go_wp2_with fail
      refine (same1_any (joinB ls) (joinB ls) _ _ w9 HX8'.out HX9.out).mono ?_
      rintro e w10 ⟨rfl, rfl⟩
      rw [decide_eq_true rfl]
      dsimp only
      go_wp2_with fail
      go_ret
      exact ⟨rfl, HE9.out⟩
    · subst hj
      go_wp2_with fail
      refine (same4_any _ _ _ _ w6 HR5.out HTJ.out).mono ?_
      rintro e w7 ⟨rfl, hE7⟩
      rw [decide_eq_true rfl]
      have HE7 := Lib.hid (HE6.out.trans' hE7)
      clear hE7 HE6 HR3 HR4 HR5 HTJ
      dsimp only
      go_wp2_with fail
      refine (join29_any ls al ml cl w7 (HR.out.ext0 HE7.out) (by have := HP.out.2.2; omega)).mono ?_
      rintro e w8 ⟨x8, rfl, hx8, hE8⟩
      have HX8 := Lib.hid hx8.bytes
      have HE8 := Lib.hid (HE7.out.trans' hE8)
      obtain ⟨a8, c8, rfl⟩ := own_form hx8
      clear hE8 HE7 hx8
      dsimp only
      go_wp2_with fail
      refine (joinR29_any ls (.slice al ml cl) w8 (HR.out.ext0 HE8.out) (by have := HP.out.2.2; omega)).mono ?_
      rintro e w9 ⟨x9, rfl, hx9, hE9⟩
      have HX9 := Lib.hid hx9.bytes
      have HX8' := Lib.hid (HX8.out.ext0 hE9)
      have HE9 := Lib.hid (HE8.out.trans' hE9)
      obtain ⟨a9, c9, rfl⟩ := own_form hx9
      clear hE9 HE8 hx9 HX8
      dsimp only
      go_wp2_with fail
      refine (same1_any (joinB ls) (joinB ls) _ _ w9 HX8'.out HX9.out).mono ?_
      rintro e w10 ⟨rfl, rfl⟩
      rw [decide_eq_true rfl]
      dsimp only
      go_wp2_with fail
      go_ret
      exact ⟨rfl, HE9.out⟩
  · go_wp2_with fail
    refine (itemsS_any l a m c k w4 (HB.out.1.ext0 HE4.out) HB.out.2 (by have := HM.out; have := HLE.out; omega)).mono ?_
    rintro e w5 ⟨x5, rfl, hx5, hE5⟩
    rw [show Int.toNat (k : Int) = k from rfl] at hx5 ⊢
    have hr5 := hx5.rowsN.rows
    obtain ⟨a5, c5, rfl, -⟩ := rows_form hr5
    have hl5 : (bodies ((itemsL l).take k)).length = min k (q + 1) := by rw [bodies_length, List.length_take, ← HNN.out]
    rw [hl5] at hr5 ⊢
    obtain ⟨j, hj⟩ : ∃ j, j = min k (q + 1) := ⟨_, rfl⟩
    rw [← hj] at hr5 ⊢
    have htk : bodies ((itemsL l).take k) = (bodies (itemsL l)).take j := by
      unfold bodies
      rw [List.map_take]
      have hlm : ((itemsL l).map (·.1)).length = q + 1 := by rw [List.length_map, ← HNN.out]
      rcases Nat.le_total k (q + 1) with h | h
      · rw [hj, Nat.min_eq_left h]
      · rw [hj, Nat.min_eq_right h, List.take_of_length_le (by omega), List.take_of_length_le (by omega)]
    rw [htk] at hr5
    generalize wholes ((itemsL l).take k) = q5 at *
    have HR3 := Lib.hid (HR3'.out.ext0 hE5); have HR4' := Lib.hid (HR4.out.ext0 hE5); have HR5 := Lib.hid hr5
    have HE5 := Lib.hid (HE4.out.trans' hE5)
    have HTK := Lib.hid htk
    have HJ := Lib.hid hj
    clear hl5 hx5 hr5 hE5 HE4 HR4 HR3' htk hj
    dsimp only
    go_wp2_with fail
    refine (same4_any _ _ _ _ w5 HR3.out HR4'.out).mono ?_
    rintro e w6 ⟨rfl, hE6⟩
    rw [decide_eq_true rfl]
    have HR3 := Lib.hid (HR3.out.ext0 hE6); have HR4 := Lib.hid (HR4'.out.ext0 hE6); have HR5 := Lib.hid (HR5.out.ext0 hE6)
    have HE6 := Lib.hid (HE5.out.trans' hE6)
    clear hE6 HE5 HR4'
    dsimp only
    have hj := HJ.out
    have hjc : j ≤ c4 := by omega
    have tk := fun wx => take59 a4 j (q + 1) c4 hjc wx
    have htj := HR4.out.take j (by omega)
    have HTJ := Lib.hid htj
    clear htj
    have hmin : ((q + 1 : Nat) : Int) < k ∧ j = q + 1 ∨ ¬ ((q + 1 : Nat) : Int) < k ∧ j = k := by omega
    clear hj
    rcases hmin with ⟨hlt, hj⟩ | ⟨hlt, hj⟩
    · subst hj
      go_wp2_with fail
      refine (same4_any _ _ _ _ w6 HR5.out HTJ.out).mono ?_
      rintro e w7 ⟨rfl, hE7⟩
      rw [decide_eq_true rfl]
      have HE7 := Lib.hid (HE6.out.trans' hE7)
      clear hE7 HE6 HR3 HR4 HR5 HTJ
      dsimp only
      go_wp2_with fail
      refine (join29_any ls al ml cl w7 (HR.out.ext0 HE7.out) (by have := HP.out.2.2; omega)).mono ?_
      rintro e w8 ⟨x8, rfl, hx8, hE8⟩
      have HX8 := Lib.hid hx8.bytes
      have HE8 := Lib.hid (HE7.out.trans' hE8)
      obtain ⟨a8, c8, rfl⟩ := own_form hx8
      clear hE8 HE7 hx8
      dsimp only
      go_wp2_with fail
      refine (joinR29_any ls (.slice al ml cl) w8 (HR.out.ext0 HE8.out) (by have := HP.out.2.2; omega)).mono ?_
      rintro e w9 ⟨x9, rfl, hx9, hE9⟩
      have HX9 := Lib.hid hx9.bytes
      have HX8' := Lib.hid (HX8.out.ext0 hE9)
      have HE9 := Lib.hid (HE8.out.trans' hE9)
      obtain ⟨a9, c9, rfl⟩ := own_form hx9
      clear hE9 HE8 hx9 HX8
      dsimp only
      go_wp2_with fail
      refine (same1_any (joinB ls) (joinB ls) _ _ w9 HX8'.out HX9.out).mono ?_
      rintro e w10 ⟨rfl, rfl⟩
      rw [decide_eq_true rfl]
      dsimp only
      go_wp2_with fail
      go_ret
      exact ⟨rfl, HE9.out⟩
    · subst hj
      go_wp2_with fail
      refine (same4_any _ _ _ _ w6 HR5.out HTJ.out).mono ?_
      rintro e w7 ⟨rfl, hE7⟩
      rw [decide_eq_true rfl]
      have HE7 := Lib.hid (HE6.out.trans' hE7)
      clear hE7 HE6 HR3 HR4 HR5 HTJ
      dsimp only
      go_wp2_with fail
      refine (join29_any ls al ml cl w7 (HR.out.ext0 HE7.out) (by have := HP.out.2.2; omega)).mono ?_
      rintro e w8 ⟨x8, rfl, hx8, hE8⟩
      have HX8 := Lib.hid hx8.bytes
      have HE8 := Lib.hid (HE7.out.trans' hE8)
      obtain ⟨a8, c8, rfl⟩ := own_form hx8
      clear hE8 HE7 hx8
      dsimp only
      go_wp2_with fail
      refine (joinR29_any ls (.slice al ml cl) w8 (HR.out.ext0 HE8.out) (by have := HP.out.2.2; omega)).mono ?_
      rintro e w9 ⟨x9, rfl, hx9, hE9⟩
      have HX9 := Lib.hid hx9.bytes
      have HX8' := Lib.hid (HX8.out.ext0 hE9)
      have HE9 := Lib.hid (HE8.out.trans' hE9)
      obtain ⟨a9, c9, rfl⟩ := own_form hx9
      clear hE9 HE8 hx9 HX8
      dsimp only
      go_wp2_with fail
      refine (same1_any (joinB ls) (joinB ls) _ _ w9 HX8'.out HX9.out).mono ?_
      rintro e w10 ⟨rfl, rfl⟩
      rw [decide_eq_true rfl]
      dsimp only
      go_wp2_with fail
      go_ret
      exact ⟨rfl, HE9.out⟩

end Go.Proofs.Ytchejnnfbinclaa
end

section
/- The walk of ScriptCuts. -/
namespace Go.Proofs.Ytchejnnfbinclaa
open Go.RowKit Go.My

theorem and16k (n : Int) : bits .and .i64 n 65535 = (((n % 65536).toNat : Nat) : Int) := by
  have h := i64_mask n 16 (by decide)
  rw [Int.toNat_of_nonneg (by omega)]
  exact h
theorem size31 (w : World) : (sizeOf 5).run Try.prog w = .ok 1 w := by kernel_rfl
theorem take31 (a : Option Addr) (k len cap : Nat) (hk : k ≤ cap) (w : World) : (Instr.sliceAt 31 (.slice a len cap) none (some (.int .i64 k)) none).run Try.prog w = .ok (.slice a k cap) w :=
  run_takeS Try.underlying31 size31 a .i64 k len cap hk w
theorem joinB_take_succ (ls : List (List UInt8)) (k : Nat) (h : k < ls.length) : (joinB (ls.take (k + 1))).length = (joinB (ls.take k)).length + 4 + (ls.getD k []).length := by
  have : ls.take (k + 1) = ls.take k ++ [ls.getD k []] := by
    rw [List.take_add_one, List.getElem?_eq_getElem h]
    simp [List.getD_eq_getElem?_getD, List.getElem?_eq_getElem h]
  rw [this, joinB_append, List.length_append, show joinB [ls.getD k []] = bytesB (ls.getD k []) from by rw [joinB_cons, joinB_nil, List.append_nil], bytesB_length]
  omega

set_option maxRecDepth 100000 in
set_option maxHeartbeats 8000000 in
theorem scriptCuts_fr (ls : List (List UInt8)) (v1 : Value) (cut : Int) (w : World) (hr : IsRowsN w ls v1 ∧ NilOk v1) (_lo : -9223372036854775808 ≤ cut) (_hi : cut ≤ 9223372036854775807) :
    Calls Try.prog 7 #[v1, .int .i64 cut] w fun e w' => e = .returned (.bool true) ∧ Ext No w w' := by
  obtain ⟨hr, -⟩ := hr
  obtain ⟨al, cl, rfl, hmc, hcl⟩ := rows_form hr.rows
  obtain ⟨ml, hml⟩ : ∃ m, m = ls.length := ⟨_, rfl⟩
  rw [← hml] at hr hmc ⊢
  have HML := Lib.hid hml; have HR := Lib.hid hr
  have h7 := and16k cut
  obtain ⟨q, hq⟩ : ∃ q, q = (cut % 65536).toNat := ⟨_, rfl⟩
  rw [← hq] at h7
  clear hml hr hq
  go_enter Try.func7, Try.ntmps7
  go_wp2_with fail
  refine (alive_any w).mono ?_
  rintro e w1 ⟨rfl, hE1⟩
  have HE1 := Lib.hid hE1
  clear hE1
  go_wp2_with fail
  refine (brief_any ls _ w1 (HR.out.rows.ext0 HE1.out)).mono ?_
  rintro e w2 ⟨rfl, t, rfl, ht⟩
  cases t
  · clear ht
    go_wp2_with fail
    go_ret
    exact ⟨rfl, HE1.out⟩
  have hP := brief_le (ht.1 rfl)
  have HP := Lib.hid hP
  clear hP ht
  go_wp2_with fail
  refine (join29_any ls al ml cl w1 (HR.out.ext0 HE1.out) (by have := HP.out.2.2; omega)).mono ?_
  rintro e w2 ⟨x2, rfl, hx2, hE2⟩
  have hb2 := hx2.bytes
  have hn2 := NilOk.own hx2
  obtain ⟨a5, c5, rfl⟩ := own_form hx2
  obtain ⟨n, hn⟩ : ∃ n, n = (joinB ls).length := ⟨_, rfl⟩
  rw [← hn] at hb2 hn2 ⊢
  have hnc := (IsRow.len hb2).2
  have hn20 : n ≤ 2080 := by have := HP.out.2.2; omega
  have HN := Lib.hid hn; have HB := Lib.hid (And.intro hb2 hn2); have HE2 := Lib.hid (HE1.out.trans' hE2)
  clear hn hb2 hn2 hE2 HE1 hx2
  obtain ⟨c, hc⟩ : ∃ c, c = q % (n + 1) := ⟨_, rfl⟩
  have hci : (q : Int) % ((n : Int) + 1) = (c : Int) := by rw [hc]; push_cast; rfl
  have hcn : c ≤ n := by rw [hc]; have := Nat.mod_lt q (show 0 < n + 1 by omega); omega
  have hcc : (c : Int) ≤ c5 := by omega
  have hcc2 : c ≤ c5 := by omega
  clear hc
  have tk := fun wx => take31 a5 c n c5 hcc2 wx
  dsimp only
  go_wp2_with fail
  have HCN := Lib.hid hcn
  have hb3 := HB.out.1.take c hcn
  have hn3 : NilOk (.slice a5 c c5) := fun n' c' he => by simp at he; obtain ⟨rfl, rfl, rfl⟩ := he; exact HB.out.2 _ _ rfl
  refine (itemsS_any ((joinB ls).take c) a5 c c5 1000 w2 hb3 hn3 (by rw [List.length_take]; omega)).mono ?_
  rintro e w3 ⟨x3, rfl, hx3, hE3⟩
  have hr3 := hx3.rowsN.rows
  obtain ⟨a6, c6, rfl, hgc, hc6⟩ := rows_form hr3
  have HE3 := Lib.hid (HE2.out.trans' hE3); have HE23 := Lib.hid hE3
  obtain ⟨g, hg⟩ : ∃ g, g = (bodies ((itemsL ((joinB ls).take c)).take (Int.toNat 1000))).length := ⟨_, rfl⟩
  obtain ⟨p, hp⟩ : ∃ p, p = wholes ((itemsL ((joinB ls).take c)).take (Int.toNat 1000)) := ⟨_, rfl⟩
  rw [← hg] at hr3 hgc ⊢
  rw [← hp]
  have HG := Lib.hid hg; have HPP := Lib.hid hp; have HR3 := Lib.hid hr3
  clear hb3 hn3 hx3 hr3 hE3 HE2 hg hp tk h7
  dsimp only
  go_wp2_with fail
  rw [hci]
  clear hci
  have HR' := Lib.hid (HR.out.ext0 HE3.out)
  go_loopw [8, 9] (fun i j wr => ∃ k e0 : Nat, i = .int .i64 k ∧ j = .int .i64 e0 ∧ wr = w3 ∧ k ≤ ml ∧ e0 = (joinB (ls.take k)).length ∧ e0 ≤ c) (fun i _ _ => ml - (intOf i).toNat)
  case atStart => exact ⟨0, 0, rfl, rfl, rfl, Nat.zero_le _, rfl, Nat.zero_le _⟩
  case round =>
    obtain ⟨k, e0, rfl, rfl, rfl, hk, hel, hec0⟩ := hrel
    have HEL := Lib.hid hel
    clear hel
    by_cases hlt : k < ml
    · have hltI : (k : Int) < ml := by omega
      obtain ⟨bl, ol, xl, rfl, hcl2, hxl, -⟩ := HR'.out.get k hlt
      obtain ⟨axl, cxl, hxlf, -⟩ := id hxl
      obtain ⟨d, hd⟩ : ∃ d, d = (ls.getD k []).length := ⟨_, rfl⟩
      rw [← hd] at hxlf
      subst hxlf
      have hd100 : d ≤ 100 := by
        rw [hd, List.getD_eq_getElem?_getD, List.getElem?_eq_getElem (by have := HML.out; omega)]
        exact HP.out.1 _ (List.getElem_mem _)
      have HD := Lib.hid hd
      clear hd hxl
      by_cases hle : e0 + 4 + d ≤ c
      · have hleI : (e0 : Int) + 4 + d ≤ c := by omega
        go_wp2_with fail
        go_roundw
        case rel => exact ⟨k + 1, e0 + 4 + d, by go_num, by go_num, by trivial, by omega, by rw [joinB_take_succ ls k (by have := HML.out; omega), ← HEL.out, ← HD.out], hle⟩
        case measure => simp [intOf]; omega
      · have hleI : decide ((e0 : Int) + 4 + d ≤ c) = false := by simp; omega
        have HNO := Lib.hid (show k < ls.length → c < (joinB (ls.take k)).length + 4 + (ls.getD k []).length from fun _ => by rw [← HEL.out, ← HD.out]; omega)
        clear HD
        have hit := itemsL_take ls k c (by have := HML.out; omega) (fun x hx => by have := HP.out.1 x hx; omega) (by have := HEL.out; omega) HNO.out (by have := HN.out; have := HCN.out; omega)
        have hll : (ls.take k).length = k := by rw [List.length_take]; have := HML.out; omega
        by_cases hce : c = e0
        · rw [if_pos (by have := HEL.out; omega), List.append_nil] at hit
          have hgk : g = k := by rw [HG.out, hit, List.take_of_length_le (by rw [allW_length, hll]; show k ≤ 1000; have := HML.out; have := HP.out.2.1; omega), bodies_allW, hll]
          have hpk : p = k := by rw [HPP.out, hit, List.take_of_length_le (by rw [allW_length, hll]; show k ≤ 1000; have := HML.out; have := HP.out.2.1; omega), wholes_allW, hll]
          have hr3 := HR3.out
          rw [hit, List.take_of_length_le (by rw [allW_length, hll]; show k ≤ 1000; have := HML.out; have := HP.out.2.1; omega), bodies_allW] at hr3
          have hrk := (HR.out.rows.ext0 HE3.out).take k hk
          have hkc : k ≤ cl := by omega
          have tk := fun wx => take59 (some ⟨bl, ol, none⟩) k ml cl hkc wx
          have HA := Lib.hid hr3; have HB2 := Lib.hid hrk
          subst hce hgk hpk
          clear hit hr3 hrk hll
          clear HG HPP HR3
          go_wp2_with fail
          refine (same4_any _ _ _ _ wr HA.out HB2.out).mono ?_
          rintro e w4 ⟨rfl, hE4⟩
          rw [decide_eq_true rfl]
          have HE4 := Lib.hid (HE3.out.trans' hE4)
          clear hE4 HA HB2
          dsimp only
          go_wp2_with fail
          go_ret
          exact ⟨rfl, HE4.out⟩
        · rw [if_neg (by have := HEL.out; omega)] at hit
          have hbo : bodies (itemsL ((joinB ls).take c)) = ls.take k ++ [((joinB ls).take c).drop e0] := by rw [hit, bodies_append, bodies_allW, HEL.out]; rfl
          have hwo : wholes (itemsL ((joinB ls).take c)) = k := by rw [hit, wholes_append, wholes_allW, hll]; rfl
          have hil : (itemsL ((joinB ls).take c)).length ≤ Int.toNat 1000 := by rw [hit, List.length_append, allW_length, hll]; show k + 1 ≤ 1000; have := HML.out; have := HP.out.2.1; omega
          have hgk : g = k + 1 := by rw [HG.out, List.take_of_length_le hil, hbo, List.length_append, hll]; rfl
          have hpk : p = k := by rw [HPP.out, List.take_of_length_le hil, hwo]
          have hr3 := HR3.out
          rw [List.take_of_length_le hil, hbo] at hr3
          have hgot : (ls.take k ++ [((joinB ls).take c).drop e0]).take k = ls.take k := by rw [List.take_left' hll]
          have hlast : (ls.take k ++ [((joinB ls).take c).drop e0]).getD k [] = ((joinB ls).take c).drop e0 := by
            rw [List.getD_eq_getElem?_getD, List.getElem?_append_right (by omega), hll, Nat.sub_self]; rfl
          have hr3k := hr3.take k (by omega)
          rw [hgot] at hr3k
          have hrk := (HR.out.rows.ext0 HE3.out).take k hk
          obtain ⟨b6, o6, x6, rfl, hc6x, hx6⟩ := hr3.get k (by omega)
          rw [hlast] at hx6
          obtain ⟨ax, cx, hxf, -⟩ := id hx6
          have hb3 := (HB.out.1.ext0 HE23.out).take c HCN.out
          obtain ⟨b5, o5, ha5⟩ : ∃ b o, a5 = some ⟨b, o, none⟩ := by
            obtain ⟨b, o, h, -⟩ := IsRow.get HB.out.1 0 (by have := HCN.out; omega)
            exact ⟨b, o, h⟩
          subst ha5
          have hb4 := hb3.drop e0 (by omega)
          have q1 : ∀ j, Calls Try.prog 27 #[.slice (some ⟨b6, o6, none⟩) k c6, .slice (some ⟨bl, ol, none⟩) k cl] (wr.drewN j) fun e w'' => e = .returned (.bool true) ∧ ∃ i, w'' = wr.drewN i := fun j => by
            have h := quiet_of_Dr (same4_dr _ _ _ _ _ (hr3k.ext0 ((Dr.mk wr j).ext No)) (hrk.ext0 ((Dr.mk wr j).ext No)))
            rw [decide_eq_true rfl] at h; exact h
          have q2 : ∀ j, Calls Try.prog 15 #[x6, .slice (some ⟨b5, o5 + e0, none⟩) (c - e0) (c5 - e0)] (wr.drewN j) fun e w'' => e = .returned (.bool true) ∧ ∃ i, w'' = wr.drewN i := fun j => by
            have h := quiet_of_eq (same1_any _ _ _ _ _ (hx6.ext0 ((Dr.mk wr j).ext No)) (hb4.ext0 ((Dr.mk wr j).ext No)))
            rw [decide_eq_true rfl] at h; exact h
          have HQ1 := Lib.hid q1; have HQ2 := Lib.hid q2
          have hce1 : ¬ e0 = c := fun h => hce h.symm
          have hce2 : ¬ ((e0 : Int) = c) := by omega
          have hec : (e0 : Int) ≤ c := by omega
          have h5e : ¬ c5 = e0 := by have := HCN.out; omega
          have hkc : k ≤ cl := by omega
          have hkc6 : k ≤ c6 := by omega
          have hkc6i : (k : Int) ≤ c6 := by omega
          have hkcl : (k : Int) ≤ cl := by omega
          have hkg : (k : Int) < (g : Int) := by omega
          subst hgk hpk
          generalize HRESTNAME : ((joinB ls).take c).drop e0 = rest at *
          subst hxf
          clear hit hr3 hrk hll hbo hwo hil hgot hlast hr3k hb3 hb4 q1 q2 hx6 HRESTNAME hgc
          clear HG HPP HR3
          go_wp2_with fail
          go_quiet ((first | (go_at_call 27; exact HQ1.out _) | (go_at_call 15; exact HQ2.out _)))
          go_wp2_with fail
          go_ret
          exact ⟨rfl, HE3.out.drewN _⟩
    · have hltI : decide ((k : Int) < ml) = false := by simp; omega
      have HNO := Lib.hid (show k < ls.length → c < (joinB (ls.take k)).length + 4 + (ls.getD k []).length from fun h => absurd h (by have := HML.out; omega))
      have hit := itemsL_take ls k c (by have := HML.out; omega) (fun x hx => by have := HP.out.1 x hx; omega) (by have := HEL.out; omega) HNO.out (by have := HN.out; have := HCN.out; omega)
      have hll : (ls.take k).length = k := by rw [List.length_take]; have := HML.out; omega
      have hce : c = e0 := by
        have h1 := HEL.out
        rw [show ls.take k = ls from List.take_of_length_le (by have := HML.out; omega), ← HN.out] at h1
        have := HCN.out; omega
      · rw [if_pos (by have := HEL.out; omega), List.append_nil] at hit
        have hgk : g = k := by rw [HG.out, hit, List.take_of_length_le (by rw [allW_length, hll]; show k ≤ 1000; have := HML.out; have := HP.out.2.1; omega), bodies_allW, hll]
        have hpk : p = k := by rw [HPP.out, hit, List.take_of_length_le (by rw [allW_length, hll]; show k ≤ 1000; have := HML.out; have := HP.out.2.1; omega), wholes_allW, hll]
        have hr3 := HR3.out
        rw [hit, List.take_of_length_le (by rw [allW_length, hll]; show k ≤ 1000; have := HML.out; have := HP.out.2.1; omega), bodies_allW] at hr3
        have hrk := (HR.out.rows.ext0 HE3.out).take k hk
        have hkc : k ≤ cl := by omega
        have tk := fun wx => take59 al k ml cl hkc wx
        have HA := Lib.hid hr3; have HB2 := Lib.hid hrk
        subst hce hgk hpk
        clear hit hr3 hrk hll
        clear HG HPP HR3
        go_wp2_with fail
        refine (same4_any _ _ _ _ wr HA.out HB2.out).mono ?_
        rintro e w4 ⟨rfl, hE4⟩
        rw [decide_eq_true rfl]
        have HE4 := Lib.hid (HE3.out.trans' hE4)
        clear hE4 HA HB2
        dsimp only
        go_wp2_with fail
        go_ret
        exact ⟨rfl, HE4.out⟩

end Go.Proofs.Ytchejnnfbinclaa
end

section
/-
  PROVED HERE: 'Rows.ScriptCutsSaid': of every input the law 'coldstorelaw29.ScriptCuts' answers true, and each argument reads behind the call as it read before. No condition but the form's own.
-/
namespace Go.Proofs.Ytchejnnfbinclaa.scriptCuts
open Go.ChangeShapes Go.WideShapes Go.ChangeAt Go.RowKit Go.My
open Go.ChangeMaps (open_string shut_string)
set_option linter.unusedVariables false

theorem own : ownKnob Try.prog.godebug = none := by kernel_rfl
theorem laidOut : laidOutB Try.prog = true := by kernel_rfl

set_option maxRecDepth 100000 in
theorem lifted (os : Os) (started : os.Started) (H : Type) (enc : TypeId × Value → H) :
    ReturnsInHanded {} Try.checked os 7 .any (Rows.scriptCutsSpec.pre6 enc Try.prog Try.f7 Rows.scriptCutsRow.domain false) (Rows.scriptCutsSpec.post enc Try.prog Try.f7 false true false false) := by
  refine returnsInHanded_of_change (C := Try.checked) own started (by kernel_rfl) Try.func7
    (ChangeSpec.witness6 (enc := enc) (C := Try.checked) false ⟨#[], #[.slice none 0 0, .int .i64 0], []⟩ 8 (by kernel_rfl) (by kernel_rfl) (by kernel_rfl) (by kernel_rfl)) ?_
  intro W base args ds gs before hval0 hW hcnd _
  have hval : ∀ (j : Nat) t v, Try.f7.params[j]? = some t → args[j]? = some v → Value.okWide Try.prog W .any base t v := hval0
  have hW' := hW
  obtain ⟨p, q, hA0, hV, rfl, hfz, hnd⟩ := hW
  have hA : DataW.TrodAll enc Try.prog W 0 (fun _ => true) true Try.f7.params.toList args.toList ds p := hA0
  rw [Try.params7] at hA hval
  obtain ⟨v0, vs0, d0, ds0, p0, q0, hargs, rfl, rfl, h0, r0⟩ := trodAll_cons hA
  obtain ⟨v1, vs1, d1, ds1, p1, q1, rfl, rfl, rfl, h1, r1⟩ := trodAll_cons r0
  obtain ⟨rfl, rfl, rfl⟩ := trodAll_nil r1
  obtain rfl : args = #[v0, v1] := by cases args; simp_all
  obtain ⟨rfl, rfl⟩ := trodVars_none hV
  have k0 := h0
  have lt0 : ∀ x ∈ p0, x.block < W.heap.size := by obtain ⟨m, hm⟩ := k0; exact DataW.trod_lt m _ _ _ hm
  have k1 := h1
  have lt1 : ∀ x ∈ p1, x.block < W.heap.size := by obtain ⟨m, hm⟩ := k1; exact DataW.trod_lt m _ _ _ hm
  obtain ⟨a0, ot0⟩ := op_rows (hval 0 59 v0 rfl rfl) h0
  obtain ⟨a1, rfl, lo1, hi1⟩ := op_i64 Try.underlying3 (hval 1 3 v1 rfl rfl) h1
  clear hA0 hval0
  refine (scriptCuts_fr a0 _ a1 W ot0 lo1 hi1).mono fun e W' ⟨he, ext⟩ => ?_
  subst he
  have bel := ext.below
  exact ⟨_, rfl, _, _, _, [], _, [], hW', trodAll_mk1 (shut_bool Try.underlying4 _), (trodAll_cons_mk (Below.trod laidOut (by kernel_rfl) (of_decide_eq_true (by kernel_rfl)) k0 bel lt0) (trodAll_cons_mk (Below.trod laidOut (by kernel_rfl) (of_decide_eq_true (by kernel_rfl)) k1 bel lt1) trodAll_mk0)), rfl, bel.frame _, fun h => by cases h⟩

theorem over : Rows.scriptCutsRow.holds Try.pinned (OpenSpec.ofChange Rows.scriptCutsSpec) :=
  OpenClaim.holds_of_wide 7 Try.f7 rfl rfl rfl rfl rfl rfl rfl ⟨rfl, rfl, rfl, rfl, rfl⟩ rfl rfl rfl rfl rfl (by kernel_rfl) Try.func7 (by kernel_rfl)
    (of_decide_eq_true (by kernel_rfl)) (by unfold Func.isWrapper; first | (rw [if_pos (by decide +kernel)]; kernel_rfl) | (rw [if_neg (by decide +kernel)]; exact ⟨rfl, rfl⟩))
    (fun os started H enc _ => lifted os started H enc)

/-- THE STATEMENT -/
theorem proved : Rows.ScriptCutsSaid := over
#print axioms proved
end Go.Proofs.Ytchejnnfbinclaa.scriptCuts
end
