/-
  PROVED HERE: 'Rows.ScriptWritesSaid': of every input the law 'coldstorelaw29.ScriptWrites' answers true, and each argument reads behind the call as it read before. No condition but the form's own.
-/
import Derived.Test.YtchejnnfbinclaaZI
import Derived.Test.YtchejnnfbinclaaRows
set_option linter.unusedVariables false
set_option linter.unusedSimpArgs false

section
/- The walk of ScriptItems. -/
namespace Go.Proofs.Ytchejnnfbinclaa
open Go.RowKit Go.My

theorem NewBs.rowsN {w : World} {B : Nat} {ls : List (List UInt8)} {v : Value} (h : NewBs w B ls v) : IsRowsN w ls v := by
  obtain ⟨xs, h1, h2⟩ := h
  exact ⟨_, IsRow.of_own h1, fun i hi => ⟨(h2 i hi).1, (h2 i hi).2.2⟩⟩
theorem rows_form {w : World} {ls : List (List UInt8)} {v : Value} (h : IsRows w ls v) : ∃ a c, v = .slice a ls.length c ∧ ls.length ≤ c ∧ c ≤ 9223372036854775807 := by
  obtain ⟨f, ⟨a, c, rfl, h1, h2, -⟩, -⟩ := h
  exact ⟨a, c, rfl, h1, h2⟩
theorem bodies_length (is : List (List UInt8 × Bool)) : (bodies is).length = is.length := by unfold bodies; simp
theorem size59 (w : World) : (sizeOf 31).run Try.prog w = .ok 1 w := by kernel_rfl
theorem take59 (a : Option Addr) (k len cap : Nat) (hk : k ≤ cap) (w : World) : (Instr.sliceAt 59 (.slice a len cap) none (some (.int .i64 k)) none).run Try.prog w = .ok (.slice a k cap) w :=
  run_takeS Try.underlying59 size59 a .i64 k len cap hk w
theorem and7k (n : Int) : bits .and .i64 n 7 = (((n % 8).toNat : Nat) : Int) := by
  have h := i64_mask n 3 (by decide)
  rw [Int.toNat_of_nonneg (by omega)]
  exact h
theorem brief_le {ls : List (List UInt8)} (h : BriefP ls) : (∀ x ∈ ls, x.length ≤ 100) ∧ ls.length ≤ 20 ∧ (joinB ls).length ≤ 2080 := by
  have h1 : ∀ x ∈ ls, x.length ≤ 100 := fun x hx => by
    obtain ⟨i, hi, rfl⟩ := List.mem_iff_getElem.1 hx
    have := h.1 i hi
    rwa [List.getD_eq_getElem?_getD, List.getElem?_eq_getElem hi] at this
  have h2 := h.2
  have h3 : ∀ ks : List (List UInt8), (∀ x ∈ ks, x.length ≤ 100) → (joinB ks).length ≤ ks.length * 104 := by
    intro ks
    induction ks with
    | nil => intro _; simp [joinB]
    | cons k ks ih =>
      intro hk
      have := ih (fun x hx => hk x (List.mem_cons_of_mem _ hx))
      have hk0 := hk k (List.mem_cons_self ..)
      rw [joinB_cons, List.length_append, bytesB_length, List.length_cons]
      omega
  have := h3 ls h1
  exact ⟨h1, h2, by omega⟩

set_option maxRecDepth 100000 in
set_option maxHeartbeats 8000000 in
theorem scriptItems_fr (l : List UInt8) (v0 : Value) (ls : List (List UInt8)) (v1 : Value) (most : Int) (w : World) (hb : IsBytes w l v0) (hn : NilOk v0) (hr : IsRowsN w ls v1 ∧ NilOk v1) (_lo : -9223372036854775808 ≤ most) (_hi : most ≤ 9223372036854775807) :
    Calls Try.prog 5 #[v0, v1, .int .i64 most] w fun e w' => e = .returned (.bool true) ∧ Ext No w w' := by
  obtain ⟨a, c, rfl, hlc, hc63, -⟩ := id hb
  obtain ⟨hr, -⟩ := hr
  obtain ⟨al, cl, rfl, -⟩ := rows_form hr.rows
  obtain ⟨m, hm⟩ : ∃ m, m = l.length := ⟨_, rfl⟩
  obtain ⟨ml, hml⟩ : ∃ m, m = ls.length := ⟨_, rfl⟩
  rw [← hm] at hb hn hlc ⊢
  rw [← hml] at hr ⊢
  have HM := Lib.hid hm; have HML := Lib.hid hml; have HB := Lib.hid (And.intro hb hn); have HR := Lib.hid hr
  have h7 := and7k most
  obtain ⟨k, hk⟩ : ∃ k, k = (most % 8).toNat := ⟨_, rfl⟩
  rw [← hk] at h7
  have HK := Lib.hid (show k ≤ 7 by omega)
  clear hm hml hb hn hr hk
  go_enter Try.func5, Try.ntmps5
  go_wp2_with fail
  refine (alive_any w).mono ?_
  rintro e w1 ⟨rfl, hE1⟩
  have HE1 := Lib.hid hE1
  clear hE1
  by_cases h600 : 600 < m
  · have h600i : (600 : Int) < m := by omega
    go_wp2_with fail
    go_ret
    exact ⟨rfl, HE1.out⟩
  have h600i : decide ((600 : Int) < m) = false := by simp; omega
  have HLE := Lib.hid (show m ≤ 600 by omega)
  go_wp2_with fail
  refine (brief_any ls _ w1 (HR.out.rows.ext0 HE1.out)).mono ?_
  rintro e w2 ⟨rfl, t, rfl, ht⟩
  cases t
  · clear ht
    go_wp2_with fail
    go_ret
    exact ⟨rfl, HE1.out⟩
  have hP := brief_le (ht.1 rfl)
  have HP := Lib.hid hP
  clear hP ht
  go_wp2_with fail
  refine (itemsS_any l a m c 1000 w1 (HB.out.1.ext0 HE1.out) HB.out.2 (by have := HM.out; have := HLE.out; omega)).mono ?_
  rintro e w3 ⟨x3, rfl, hx3, hE3⟩
  have hlen := itemsL_len l
  rw [List.take_of_length_le (show (itemsL l).length ≤ Int.toNat 1000 by have := HM.out; have := HLE.out; show _ ≤ 1000; omega)] at hx3 ⊢
  have hr3 := hx3.rowsN
  obtain ⟨a3, c3, rfl, -⟩ := rows_form hr3.rows
  have HE3 := Lib.hid (HE1.out.trans' hE3)
  have HR3 := Lib.hid hr3.rows
  clear hlen hx3 hr3 hE3 HE1
  dsimp only
  go_wp2_with fail
  refine (itemsR_any l a m c w3 (HB.out.1.ext0 HE3.out) HB.out.2 (by have := HM.out; have := HLE.out; omega)).mono ?_
  rintro e w4 ⟨hE4, x4, t4, rfl, hx4, ht4⟩
  have hr4 := hx4.rows hE4
  obtain ⟨a4, c4, rfl, hlc4, hc4⟩ := rows_form hr4
  have hcount := wholes_count l
  rw [bodies_length] at hr4 hlc4
  obtain ⟨n, hnn⟩ : ∃ n, n = (itemsL l).length := ⟨_, rfl⟩
  obtain ⟨q, hq⟩ : ∃ q, q = wholes (itemsL l) := ⟨_, rfl⟩
  have hqn : t4 = true ∧ q = n ∨ t4 = false ∧ q + 1 = n := by
    rcases hcount with ⟨h1, h2⟩ | ⟨h1, h2⟩
    · exact .inl ⟨ht4.2 h1, by omega⟩
    · refine .inr ⟨?_, by omega⟩
      cases t4
      · rfl
      · exact absurd (ht4.1 rfl) h1
  have hr3 := HR3.out
  rw [bodies_length] at hr3 ⊢
  rw [← hnn] at hr3 hr4 hlc4 ⊢
  rw [← hq]
  have HNN := Lib.hid hnn
  have hn600 : n ≤ 600 := by have := itemsL_len l; have := HM.out; have := HLE.out; omega
  have HR3' := Lib.hid (hr3.ext0 hE4); have HR4 := Lib.hid hr4; have HE4 := Lib.hid (HE3.out.trans' hE4)
  clear hr3 hE4 hr4 HR3 HE3 hnn hq hx4 ht4 hcount
  dsimp only
  rcases hqn with ⟨rfl, rfl⟩ | ⟨rfl, rfl⟩
  · go_wp2_with fail
    refine (itemsS_any l a m c k w4 (HB.out.1.ext0 HE4.out) HB.out.2 (by have := HM.out; have := HLE.out; omega)).mono ?_
    rintro e w5 ⟨x5, rfl, hx5, hE5⟩
    rw [show Int.toNat (k : Int) = k from rfl] at hx5 ⊢
    have hr5 := hx5.rowsN.rows
    obtain ⟨a5, c5, rfl, -⟩ := rows_form hr5
    have hl5 : (bodies ((itemsL l).take k)).length = min k (q) := by rw [bodies_length, List.length_take, ← HNN.out]
    rw [hl5] at hr5 ⊢
    obtain ⟨j, hj⟩ : ∃ j, j = min k (q) := ⟨_, rfl⟩
    rw [← hj] at hr5 ⊢
    have htk : bodies ((itemsL l).take k) = (bodies (itemsL l)).take j := by
      unfold bodies
      rw [List.map_take]
      have hlm : ((itemsL l).map (·.1)).length = q := by rw [List.length_map, ← HNN.out]
      rcases Nat.le_total k (q) with h | h
      · rw [hj, Nat.min_eq_left h]
      · rw [hj, Nat.min_eq_right h, List.take_of_length_le (by omega), List.take_of_length_le (by omega)]
    rw [htk] at hr5
    generalize wholes ((itemsL l).take k) = q5 at *
    have HR3 := Lib.hid (HR3'.out.ext0 hE5); have HR4' := Lib.hid (HR4.out.ext0 hE5); have HR5 := Lib.hid hr5
    have HE5 := Lib.hid (HE4.out.trans' hE5)
    have HTK := Lib.hid htk
    have HJ := Lib.hid hj
    clear hl5 hx5 hr5 hE5 HE4 HR4 HR3' htk hj
    dsimp only
    go_wp2_with fail
    refine (same4_any _ _ _ _ w5 HR3.out HR4'.out).mono ?_
    rintro e w6 ⟨rfl, hE6⟩
    rw [decide_eq_true rfl]
    have HR3 := Lib.hid (HR3.out.ext0 hE6); have HR4 := Lib.hid (HR4'.out.ext0 hE6); have HR5 := Lib.hid (HR5.out.ext0 hE6)
    have HE6 := Lib.hid (HE5.out.trans' hE6)
    clear hE6 HE5 HR4'
    dsimp only
    have hj := HJ.out
    have hjc : j ≤ c4 := by omega
    have tk := fun wx => take59 a4 j (q) c4 hjc wx
    have htj := HR4.out.take j (by omega)
    have HTJ := Lib.hid htj
    clear htj
    have hmin : ((q : Nat) : Int) < k ∧ j = q ∨ ¬ ((q : Nat) : Int) < k ∧ j = k := by omega
    clear hj
    rcases hmin with ⟨hlt, hj⟩ | ⟨hlt, hj⟩
    · subst hj
      go_wp2_with fail
      refine (same4_any _ _ _ _ w6 HR5.out HTJ.out).mono ?_
      rintro e w7 ⟨rfl, hE7⟩
      rw [decide_eq_true rfl]
      have HE7 := Lib.hid (HE6.out.trans' hE7)
      clear hE7 HE6 HR3 HR4 HR5 HTJ
      dsimp only
      go_wp2_with fail
      refine (join29_any ls al ml cl w7 (HR.out.ext0 HE7.out) (by have := HP.out.2.2; omega)).mono ?_
      rintro e w8 ⟨x8, rfl, hx8, hE8⟩
      have HX8 := Lib.hid hx8.bytes
      have HE8 := Lib.hid (HE7.out.trans' hE8)
      obtain ⟨a8, c8, rfl⟩ := own_form hx8
      clear hE8 HE7 hx8
      dsimp only
      go_wp2_with fail
      refine (joinR29_any ls (.slice al ml cl) w8 (HR.out.ext0 HE8.out) (by have := HP.out.2.2; omega)).mono ?_
      rintro e w9 ⟨x9, rfl, hx9, hE9⟩
      have HX9 := Lib.hid hx9.bytes
      have HX8' := Lib.hid (HX8.out.ext0 hE9)
      have HE9 := Lib.hid (HE8.out.trans' hE9)
      obtain ⟨a9, c9, rfl⟩ := own_form hx9
      clear hE9 HE8 hx9 HX8
      dsimp only
      go_wp2_with fail
      refine (same1_any (joinB ls) (joinB ls) _ _ w9 HX8'.out HX9.out).mono ?_
      rintro e w10 ⟨rfl, rfl⟩
      rw [decide_eq_true rfl]
      dsimp only
      go_wp2_with fail
      go_ret
      exact ⟨rfl, HE9.out⟩
    · subst hj
      go_wp2_with fail
      refine (same4_any _ _ _ _ w6 HR5.out HTJ.out).mono ?_
      rintro e w7 ⟨rfl, hE7⟩
      rw [decide_eq_true rfl]
      have HE7 := Lib.hid (HE6.out.trans' hE7)
      clear hE7 HE6 HR3 HR4 HR5 HTJ
      dsimp only
      go_wp2_with fail
      refine (join29_any ls al ml cl w7 (HR.out.ext0 HE7.out) (by have := HP.out.2.2; omega)).mono ?_
      rintro e w8 ⟨x8, rfl, hx8, hE8⟩
      have HX8 := Lib.hid hx8.bytes
      have HE8 := Lib.hid (HE7.out.trans' hE8)
      obtain ⟨a8, c8, rfl⟩ := own_form hx8
      clear hE8 HE7 hx8
      dsimp only
      go_wp2_with fail
      refine (joinR29_any ls (.slice al ml cl) w8 (HR.out.ext0 HE8.out) (by have := HP.out.2.2; omega)).mono ?_
      rintro e w9 ⟨x9, rfl, hx9, hE9⟩
      have HX9 := Lib.hid hx9.bytes
      have HX8' := Lib.hid (HX8.out.ext0 hE9)
      have HE9 := Lib.hid (HE8.out.trans' hE9)
      obtain ⟨a9, c9, rfl⟩ := own_form hx9
      clear hE9 HE8 hx9 HX8
      dsimp only
      go_wp2_with fail
      refine (same1_any (joinB ls) (joinB ls) _ _ w9 HX8'.out HX9.out).mono ?_
      rintro e w10 ⟨rfl, rfl⟩
      rw [decide_eq_true rfl]
      dsimp only
      go_wp2_with fail
      go_ret
      exact ⟨rfl, HE9.out⟩
  · go_wp2_with fail
    refine (itemsS_any l a m c k w4 (HB.out.1.ext0 HE4.out) HB.out.2 (by have := HM.out; have := HLE.out; omega)).mono ?_
    rintro e w5 ⟨x5, rfl, hx5, hE5⟩
    rw [show Int.toNat (k : Int) = k from rfl] at hx5 ⊢
    have hr5 := hx5.rowsN.rows
    obtain ⟨a5, c5, rfl, -⟩ := rows_form hr5
    have hl5 : (bodies ((itemsL l).take k)).length = min k (q + 1) := by rw [bodies_length, List.length_take, ← HNN.out]
    rw [hl5] at hr5 ⊢
    obtain ⟨j, hj⟩ : ∃ j, j = min k (q + 1) := ⟨_, rfl⟩
    rw [← hj] at hr5 ⊢
    have htk : bodies ((itemsL l).take k) = (bodies (itemsL l)).take j := by
      unfold bodies
      rw [List.map_take]
      have hlm : ((itemsL l).map (·.1)).length = q + 1 := by rw [List.length_map, ← HNN.out]
      rcases Nat.le_total k (q + 1) with h | h
      · rw [hj, Nat.min_eq_left h]
      · rw [hj, Nat.min_eq_right h, List.take_of_length_le (by omega), List.take_of_length_le (by omega)]
    rw [htk] at hr5
    generalize wholes ((itemsL l).take k) = q5 at *
    have HR3 := Lib.hid (HR3'.out.ext0 hE5); have HR4' := Lib.hid (HR4.out.ext0 hE5); have HR5 := Lib.hid hr5
    have HE5 := Lib.hid (HE4.out.trans' hE5)
    have HTK := Lib.hid htk
    have HJ := Lib.hid hj
    clear hl5 hx5 hr5 hE5 HE4 HR4 HR3' htk hj
    dsimp only
    go_wp2_with fail
    refine (same4_any _ _ _ _ w5 HR3.out HR4'.out).mono ?_
    rintro e w6 ⟨rfl, hE6⟩
    rw [decide_eq_true rfl]
    have HR3 := Lib.hid (HR3.out.ext0 hE6); have HR4 := Lib.hid (HR4'.out.ext0 hE6); have HR5 := Lib.hid (HR5.out.ext0 hE6)
    have HE6 := Lib.hid (HE5.out.trans' hE6)
    clear hE6 HE5 HR4'
    dsimp only
    have hj := HJ.out
    have hjc : j ≤ c4 := by omega
    have tk := fun wx => take59 a4 j (q + 1) c4 hjc wx
    have htj := HR4.out.take j (by omega)
    have HTJ := Lib.hid htj
    clear htj
    have hmin : ((q + 1 : Nat) : Int) < k ∧ j = q + 1 ∨ ¬ ((q + 1 : Nat) : Int) < k ∧ j = k := by omega
    clear hj
    rcases hmin with ⟨hlt, hj⟩ | ⟨hlt, hj⟩
    · subst hj
      go_wp2_with fail
      refine (same4_any _ _ _ _ w6 HR5.out HTJ.out).mono ?_
      rintro e w7 ⟨rfl, hE7⟩
      rw [decide_eq_true rfl]
      have HE7 := Lib.hid (HE6.out.trans' hE7)
      clear hE7 HE6 HR3 HR4 HR5 HTJ
      dsimp only
      go_wp2_with fail
      refine (join29_any ls al ml cl w7 (HR.out.ext0 HE7.out) (by have := HP.out.2.2; omega)).mono ?_
      rintro e w8 ⟨x8, rfl, hx8, hE8⟩
      have HX8 := Lib.hid hx8.bytes
      have HE8 := Lib.hid (HE7.out.trans' hE8)
      obtain ⟨a8, c8, rfl⟩ := own_form hx8
      clear hE8 HE7 hx8
      dsimp only
      go_wp2_with fail
      refine (joinR29_any ls (.slice al ml cl) w8 (HR.out.ext0 HE8.out) (by have := HP.out.2.2; omega)).mono ?_
      rintro e w9 ⟨x9, rfl, hx9, hE9⟩
      have HX9 := Lib.hid hx9.bytes
      have HX8' := Lib.hid (HX8.out.ext0 hE9)
      have HE9 := Lib.hid (HE8.out.trans' hE9)
      obtain ⟨a9, c9, rfl⟩ := own_form hx9
      clear hE9 HE8 hx9 HX8
      dsimp only
      go_wp2_with fail
      refine (same1_any (joinB ls) (joinB ls) _ _ w9 HX8'.out HX9.out).mono ?_
      rintro e w10 ⟨rfl, rfl⟩
      rw [decide_eq_true rfl]
      dsimp only
      go_wp2_with fail
      go_ret
      exact ⟨rfl, HE9.out⟩
    · subst hj
      go_wp2_with fail
      refine (same4_any _ _ _ _ w6 HR5.out HTJ.out).mono ?_
      rintro e w7 ⟨rfl, hE7⟩
      rw [decide_eq_true rfl]
      have HE7 := Lib.hid (HE6.out.trans' hE7)
      clear hE7 HE6 HR3 HR4 HR5 HTJ
      dsimp only
      go_wp2_with fail
      refine (join29_any ls al ml cl w7 (HR.out.ext0 HE7.out) (by have := HP.out.2.2; omega)).mono ?_
      rintro e w8 ⟨x8, rfl, hx8, hE8⟩
      have HX8 := Lib.hid hx8.bytes
      have HE8 := Lib.hid (HE7.out.trans' hE8)
      obtain ⟨a8, c8, rfl⟩ := own_form hx8
      clear hE8 HE7 hx8
      dsimp only
      go_wp2_with fail
      refine (joinR29_any ls (.slice al ml cl) w8 (HR.out.ext0 HE8.out) (by have := HP.out.2.2; omega)).mono ?_
      rintro e w9 ⟨x9, rfl, hx9, hE9⟩
      have HX9 := Lib.hid hx9.bytes
      have HX8' := Lib.hid (HX8.out.ext0 hE9)
      have HE9 := Lib.hid (HE8.out.trans' hE9)
      obtain ⟨a9, c9, rfl⟩ := own_form hx9
      clear hE9 HE8 hx9 HX8
      dsimp only
      go_wp2_with fail
      refine (same1_any (joinB ls) (joinB ls) _ _ w9 HX8'.out HX9.out).mono ?_
      rintro e w10 ⟨rfl, rfl⟩
      rw [decide_eq_true rfl]
      dsimp only
      go_wp2_with fail
      go_ret
      exact ⟨rfl, HE9.out⟩

end Go.Proofs.Ytchejnnfbinclaa
end

section
/- The walk of ScriptCuts. -/
namespace Go.Proofs.Ytchejnnfbinclaa
open Go.RowKit Go.My

theorem and16k (n : Int) : bits .and .i64 n 65535 = (((n % 65536).toNat : Nat) : Int) := by
  have h := i64_mask n 16 (by decide)
  rw [Int.toNat_of_nonneg (by omega)]
  exact h
theorem size31 (w : World) : (sizeOf 5).run Try.prog w = .ok 1 w := by kernel_rfl
theorem take31 (a : Option Addr) (k len cap : Nat) (hk : k ≤ cap) (w : World) : (Instr.sliceAt 31 (.slice a len cap) none (some (.int .i64 k)) none).run Try.prog w = .ok (.slice a k cap) w :=
  run_takeS Try.underlying31 size31 a .i64 k len cap hk w
theorem joinB_take_succ (ls : List (List UInt8)) (k : Nat) (h : k < ls.length) : (joinB (ls.take (k + 1))).length = (joinB (ls.take k)).length + 4 + (ls.getD k []).length := by
  have : ls.take (k + 1) = ls.take k ++ [ls.getD k []] := by
    rw [List.take_add_one, List.getElem?_eq_getElem h]
    simp [List.getD_eq_getElem?_getD, List.getElem?_eq_getElem h]
  rw [this, joinB_append, List.length_append, show joinB [ls.getD k []] = bytesB (ls.getD k []) from by rw [joinB_cons, joinB_nil, List.append_nil], bytesB_length]
  omega

set_option maxRecDepth 100000 in
set_option maxHeartbeats 8000000 in
theorem scriptCuts_fr (ls : List (List UInt8)) (v1 : Value) (cut : Int) (w : World) (hr : IsRowsN w ls v1 ∧ NilOk v1) (_lo : -9223372036854775808 ≤ cut) (_hi : cut ≤ 9223372036854775807) :
    Calls Try.prog 7 #[v1, .int .i64 cut] w fun e w' => e = .returned (.bool true) ∧ Ext No w w' := by
  obtain ⟨hr, -⟩ := hr
  obtain ⟨al, cl, rfl, hmc, hcl⟩ := rows_form hr.rows
  obtain ⟨ml, hml⟩ : ∃ m, m = ls.length := ⟨_, rfl⟩
  rw [← hml] at hr hmc ⊢
  have HML := Lib.hid hml; have HR := Lib.hid hr
  have h7 := and16k cut
  obtain ⟨q, hq⟩ : ∃ q, q = (cut % 65536).toNat := ⟨_, rfl⟩
  rw [← hq] at h7
  clear hml hr hq
  go_enter Try.func7, Try.ntmps7
  go_wp2_with fail
  refine (alive_any w).mono ?_
  rintro e w1 ⟨rfl, hE1⟩
  have HE1 := Lib.hid hE1
  clear hE1
  go_wp2_with fail
  refine (brief_any ls _ w1 (HR.out.rows.ext0 HE1.out)).mono ?_
  rintro e w2 ⟨rfl, t, rfl, ht⟩
  cases t
  · clear ht
    go_wp2_with fail
    go_ret
    exact ⟨rfl, HE1.out⟩
  have hP := brief_le (ht.1 rfl)
  have HP := Lib.hid hP
  clear hP ht
  go_wp2_with fail
  refine (join29_any ls al ml cl w1 (HR.out.ext0 HE1.out) (by have := HP.out.2.2; omega)).mono ?_
  rintro e w2 ⟨x2, rfl, hx2, hE2⟩
  have hb2 := hx2.bytes
  have hn2 := NilOk.own hx2
  obtain ⟨a5, c5, rfl⟩ := own_form hx2
  obtain ⟨n, hn⟩ : ∃ n, n = (joinB ls).length := ⟨_, rfl⟩
  rw [← hn] at hb2 hn2 ⊢
  have hnc := (IsRow.len hb2).2
  have hn20 : n ≤ 2080 := by have := HP.out.2.2; omega
  have HN := Lib.hid hn; have HB := Lib.hid (And.intro hb2 hn2); have HE2 := Lib.hid (HE1.out.trans' hE2)
  clear hn hb2 hn2 hE2 HE1 hx2
  obtain ⟨c, hc⟩ : ∃ c, c = q % (n + 1) := ⟨_, rfl⟩
  have hci : (q : Int) % ((n : Int) + 1) = (c : Int) := by rw [hc]; push_cast; rfl
  have hcn : c ≤ n := by rw [hc]; have := Nat.mod_lt q (show 0 < n + 1 by omega); omega
  have hcc : (c : Int) ≤ c5 := by omega
  have hcc2 : c ≤ c5 := by omega
  clear hc
  have tk := fun wx => take31 a5 c n c5 hcc2 wx
  dsimp only
  go_wp2_with fail
  have HCN := Lib.hid hcn
  have hb3 := HB.out.1.take c hcn
  have hn3 : NilOk (.slice a5 c c5) := fun n' c' he => by simp at he; obtain ⟨rfl, rfl, rfl⟩ := he; exact HB.out.2 _ _ rfl
  refine (itemsS_any ((joinB ls).take c) a5 c c5 1000 w2 hb3 hn3 (by rw [List.length_take]; omega)).mono ?_
  rintro e w3 ⟨x3, rfl, hx3, hE3⟩
  have hr3 := hx3.rowsN.rows
  obtain ⟨a6, c6, rfl, hgc, hc6⟩ := rows_form hr3
  have HE3 := Lib.hid (HE2.out.trans' hE3); have HE23 := Lib.hid hE3
  obtain ⟨g, hg⟩ : ∃ g, g = (bodies ((itemsL ((joinB ls).take c)).take (Int.toNat 1000))).length := ⟨_, rfl⟩
  obtain ⟨p, hp⟩ : ∃ p, p = wholes ((itemsL ((joinB ls).take c)).take (Int.toNat 1000)) := ⟨_, rfl⟩
  rw [← hg] at hr3 hgc ⊢
  rw [← hp]
  have HG := Lib.hid hg; have HPP := Lib.hid hp; have HR3 := Lib.hid hr3
  clear hb3 hn3 hx3 hr3 hE3 HE2 hg hp tk h7
  dsimp only
  go_wp2_with fail
  rw [hci]
  clear hci
  have HR' := Lib.hid (HR.out.ext0 HE3.out)
  go_loopw [8, 9] (fun i j wr => ∃ k e0 : Nat, i = .int .i64 k ∧ j = .int .i64 e0 ∧ wr = w3 ∧ k ≤ ml ∧ e0 = (joinB (ls.take k)).length ∧ e0 ≤ c) (fun i _ _ => ml - (intOf i).toNat)
  case atStart => exact ⟨0, 0, rfl, rfl, rfl, Nat.zero_le _, rfl, Nat.zero_le _⟩
  case round =>
    obtain ⟨k, e0, rfl, rfl, rfl, hk, hel, hec0⟩ := hrel
    have HEL := Lib.hid hel
    clear hel
    by_cases hlt : k < ml
    · have hltI : (k : Int) < ml := by omega
      obtain ⟨bl, ol, xl, rfl, hcl2, hxl, -⟩ := HR'.out.get k hlt
      obtain ⟨axl, cxl, hxlf, -⟩ := id hxl
      obtain ⟨d, hd⟩ : ∃ d, d = (ls.getD k []).length := ⟨_, rfl⟩
      rw [← hd] at hxlf
      subst hxlf
      have hd100 : d ≤ 100 := by
        rw [hd, List.getD_eq_getElem?_getD, List.getElem?_eq_getElem (by have := HML.out; omega)]
        exact HP.out.1 _ (List.getElem_mem _)
      have HD := Lib.hid hd
      clear hd hxl
      by_cases hle : e0 + 4 + d ≤ c
      · have hleI : (e0 : Int) + 4 + d ≤ c := by omega
        go_wp2_with fail
        go_roundw
        case rel => exact ⟨k + 1, e0 + 4 + d, by go_num, by go_num, by trivial, by omega, by rw [joinB_take_succ ls k (by have := HML.out; omega), ← HEL.out, ← HD.out], hle⟩
        case measure => simp [intOf]; omega
      · have hleI : decide ((e0 : Int) + 4 + d ≤ c) = false := by simp; omega
        have HNO := Lib.hid (show k < ls.length → c < (joinB (ls.take k)).length + 4 + (ls.getD k []).length from fun _ => by rw [← HEL.out, ← HD.out]; omega)
        clear HD
        have hit := itemsL_take ls k c (by have := HML.out; omega) (fun x hx => by have := HP.out.1 x hx; omega) (by have := HEL.out; omega) HNO.out (by have := HN.out; have := HCN.out; omega)
        have hll : (ls.take k).length = k := by rw [List.length_take]; have := HML.out; omega
        by_cases hce : c = e0
        · rw [if_pos (by have := HEL.out; omega), List.append_nil] at hit
          have hgk : g = k := by rw [HG.out, hit, List.take_of_length_le (by rw [allW_length, hll]; show k ≤ 1000; have := HML.out; have := HP.out.2.1; omega), bodies_allW, hll]
          have hpk : p = k := by rw [HPP.out, hit, List.take_of_length_le (by rw [allW_length, hll]; show k ≤ 1000; have := HML.out; have := HP.out.2.1; omega), wholes_allW, hll]
          have hr3 := HR3.out
          rw [hit, List.take_of_length_le (by rw [allW_length, hll]; show k ≤ 1000; have := HML.out; have := HP.out.2.1; omega), bodies_allW] at hr3
          have hrk := (HR.out.rows.ext0 HE3.out).take k hk
          have hkc : k ≤ cl := by omega
          have tk := fun wx => take59 (some ⟨bl, ol, none⟩) k ml cl hkc wx
          have HA := Lib.hid hr3; have HB2 := Lib.hid hrk
          subst hce hgk hpk
          clear hit hr3 hrk hll
          clear HG HPP HR3
          go_wp2_with fail
          refine (same4_any _ _ _ _ wr HA.out HB2.out).mono ?_
          rintro e w4 ⟨rfl, hE4⟩
          rw [decide_eq_true rfl]
          have HE4 := Lib.hid (HE3.out.trans' hE4)
          clear hE4 HA HB2
          dsimp only
          go_wp2_with fail
          go_ret
          exact ⟨rfl, HE4.out⟩
        · rw [if_neg (by have := HEL.out; omega)] at hit
          have hbo : bodies (itemsL ((joinB ls).take c)) = ls.take k ++ [((joinB ls).take c).drop e0] := by rw [hit, bodies_append, bodies_allW, HEL.out]; rfl
          have hwo : wholes (itemsL ((joinB ls).take c)) = k := by rw [hit, wholes_append, wholes_allW, hll]; rfl
          have hil : (itemsL ((joinB ls).take c)).length ≤ Int.toNat 1000 := by rw [hit, List.length_append, allW_length, hll]; show k + 1 ≤ 1000; have := HML.out; have := HP.out.2.1; omega
          have hgk : g = k + 1 := by rw [HG.out, List.take_of_length_le hil, hbo, List.length_append, hll]; rfl
          have hpk : p = k := by rw [HPP.out, List.take_of_length_le hil, hwo]
          have hr3 := HR3.out
          rw [List.take_of_length_le hil, hbo] at hr3
          have hgot : (ls.take k ++ [((joinB ls).take c).drop e0]).take k = ls.take k := by rw [List.take_left' hll]
          have hlast : (ls.take k ++ [((joinB ls).take c).drop e0]).getD k [] = ((joinB ls).take c).drop e0 := by
            rw [List.getD_eq_getElem?_getD, List.getElem?_append_right (by omega), hll, Nat.sub_self]; rfl
          have hr3k := hr3.take k (by omega)
          rw [hgot] at hr3k
          have hrk := (HR.out.rows.ext0 HE3.out).take k hk
          obtain ⟨b6, o6, x6, rfl, hc6x, hx6⟩ := hr3.get k (by omega)
          rw [hlast] at hx6
          obtain ⟨ax, cx, hxf, -⟩ := id hx6
          have hb3 := (HB.out.1.ext0 HE23.out).take c HCN.out
          obtain ⟨b5, o5, ha5⟩ : ∃ b o, a5 = some ⟨b, o, none⟩ := by
            obtain ⟨b, o, h, -⟩ := IsRow.get HB.out.1 0 (by have := HCN.out; omega)
            exact ⟨b, o, h⟩
          subst ha5
          have hb4 := hb3.drop e0 (by omega)
          have q1 : ∀ j, Calls Try.prog 27 #[.slice (some ⟨b6, o6, none⟩) k c6, .slice (some ⟨bl, ol, none⟩) k cl] (wr.drewN j) fun e w'' => e = .returned (.bool true) ∧ ∃ i, w'' = wr.drewN i := fun j => by
            have h := quiet_of_Dr (same4_dr _ _ _ _ _ (hr3k.ext0 ((Dr.mk wr j).ext No)) (hrk.ext0 ((Dr.mk wr j).ext No)))
            rw [decide_eq_true rfl] at h; exact h
          have q2 : ∀ j, Calls Try.prog 15 #[x6, .slice (some ⟨b5, o5 + e0, none⟩) (c - e0) (c5 - e0)] (wr.drewN j) fun e w'' => e = .returned (.bool true) ∧ ∃ i, w'' = wr.drewN i := fun j => by
            have h := quiet_of_eq (same1_any _ _ _ _ _ (hx6.ext0 ((Dr.mk wr j).ext No)) (hb4.ext0 ((Dr.mk wr j).ext No)))
            rw [decide_eq_true rfl] at h; exact h
          have HQ1 := Lib.hid q1; have HQ2 := Lib.hid q2
          have hce1 : ¬ e0 = c := fun h => hce h.symm
          have hce2 : ¬ ((e0 : Int) = c) := by omega
          have hec : (e0 : Int) ≤ c := by omega
          have h5e : ¬ c5 = e0 := by have := HCN.out; omega
          have hkc : k ≤ cl := by omega
          have hkc6 : k ≤ c6 := by omega
          have hkc6i : (k : Int) ≤ c6 := by omega
          have hkcl : (k : Int) ≤ cl := by omega
          have hkg : (k : Int) < (g : Int) := by omega
          subst hgk hpk
          generalize HRESTNAME : ((joinB ls).take c).drop e0 = rest at *
          subst hxf
          clear hit hr3 hrk hll hbo hwo hil hgot hlast hr3k hb3 hb4 q1 q2 hx6 HRESTNAME hgc
          clear HG HPP HR3
          go_wp2_with fail
          go_quiet ((first | (go_at_call 27; exact HQ1.out _) | (go_at_call 15; exact HQ2.out _)))
          go_wp2_with fail
          go_ret
          exact ⟨rfl, HE3.out.drewN _⟩
    · have hltI : decide ((k : Int) < ml) = false := by simp; omega
      have HNO := Lib.hid (show k < ls.length → c < (joinB (ls.take k)).length + 4 + (ls.getD k []).length from fun h => absurd h (by have := HML.out; omega))
      have hit := itemsL_take ls k c (by have := HML.out; omega) (fun x hx => by have := HP.out.1 x hx; omega) (by have := HEL.out; omega) HNO.out (by have := HN.out; have := HCN.out; omega)
      have hll : (ls.take k).length = k := by rw [List.length_take]; have := HML.out; omega
      have hce : c = e0 := by
        have h1 := HEL.out
        rw [show ls.take k = ls from List.take_of_length_le (by have := HML.out; omega), ← HN.out] at h1
        have := HCN.out; omega
      · rw [if_pos (by have := HEL.out; omega), List.append_nil] at hit
        have hgk : g = k := by rw [HG.out, hit, List.take_of_length_le (by rw [allW_length, hll]; show k ≤ 1000; have := HML.out; have := HP.out.2.1; omega), bodies_allW, hll]
        have hpk : p = k := by rw [HPP.out, hit, List.take_of_length_le (by rw [allW_length, hll]; show k ≤ 1000; have := HML.out; have := HP.out.2.1; omega), wholes_allW, hll]
        have hr3 := HR3.out
        rw [hit, List.take_of_length_le (by rw [allW_length, hll]; show k ≤ 1000; have := HML.out; have := HP.out.2.1; omega), bodies_allW] at hr3
        have hrk := (HR.out.rows.ext0 HE3.out).take k hk
        have hkc : k ≤ cl := by omega
        have tk := fun wx => take59 al k ml cl hkc wx
        have HA := Lib.hid hr3; have HB2 := Lib.hid hrk
        subst hce hgk hpk
        clear hit hr3 hrk hll
        clear HG HPP HR3
        go_wp2_with fail
        refine (same4_any _ _ _ _ wr HA.out HB2.out).mono ?_
        rintro e w4 ⟨rfl, hE4⟩
        rw [decide_eq_true rfl]
        have HE4 := Lib.hid (HE3.out.trans' hE4)
        clear hE4 HA HB2
        dsimp only
        go_wp2_with fail
        go_ret
        exact ⟨rfl, HE4.out⟩

end Go.Proofs.Ytchejnnfbinclaa
end

section
/- The walk of ScriptJoins. -/
namespace Go.Proofs.Ytchejnnfbinclaa
open Go.RowKit Go.My

theorem rows_app {w : World} {B na nb : Nat} {a b : List (List UInt8)} {f g : Nat → Value} {v : Value} (h : w.ownsRow B 31 1 v (na + nb) ((List.range na).map f ++ (List.range nb).map g)) (ha : na = a.length) (hb : nb = b.length)
    (hf : ∀ i, i < a.length → IsBytes w (a.getD i []) (f i)) (hg : ∀ i, i < b.length → IsBytes w (b.getD i []) (g i)) : IsRows w (a ++ b) v := by
  subst ha hb
  have h1 := IsRow.of_own h
  refine ⟨_, by rw [List.length_append]; exact h1, fun i hi => ?_⟩
  rw [List.length_append] at hi
  by_cases hia : i < a.length
  · have e1 : (a ++ b).getD i [] = a.getD i [] := by simp [List.getD_eq_getElem?_getD, List.getElem?_append_left hia]
    have e2 : ((List.range a.length).map f ++ (List.range b.length).map g).getD i undef = f i := by
      rw [List.getD_eq_getElem?_getD, List.getElem?_append_left (by simpa using hia)]; simp [hia]
    rw [e1, e2]; exact hf i hia
  · have e1 : (a ++ b).getD i [] = b.getD (i - a.length) [] := by simp [List.getD_eq_getElem?_getD, List.getElem?_append_right (show a.length ≤ i by omega)]
    have e2 : ((List.range a.length).map f ++ (List.range b.length).map g).getD i undef = g (i - a.length) := by
      rw [List.getD_eq_getElem?_getD, List.getElem?_append_right (by simp; omega)]
      simp [show i - a.length < b.length by omega]
    rw [e1, e2]; exact hg _ (by omega)
theorem bytes_cell {w : World} {l : List UInt8} {v : Value} (h : IsBytes w l v) : v.oneCell' = true := by
  obtain ⟨a, c, rfl, -⟩ := h; rfl

set_option maxRecDepth 100000 in
set_option maxHeartbeats 8000000 in
theorem scriptJoins_fr (la : List (List UInt8)) (v0 : Value) (lb : List (List UInt8)) (v1 : Value) (w : World) (hr : IsRowsN w la v0 ∧ NilOk v0) (hr' : IsRowsN w lb v1 ∧ NilOk v1) :
    Calls Try.prog 9 #[v0, v1] w fun e w' => e = .returned (.bool true) ∧ Ext No w w' := by
  obtain ⟨hra, hna⟩ := hr
  obtain ⟨hrb, hnb⟩ := hr'
  obtain ⟨aa, ca, rfl, hmca, hca⟩ := rows_form hra.rows
  obtain ⟨ab, cb, rfl, hmcb, hcb⟩ := rows_form hrb.rows
  obtain ⟨ma, hma⟩ : ∃ m, m = la.length := ⟨_, rfl⟩
  obtain ⟨mb, hmb⟩ : ∃ m, m = lb.length := ⟨_, rfl⟩
  rw [← hma] at hra hna hmca ⊢
  rw [← hmb] at hrb hnb hmcb ⊢
  have HM := Lib.hid (And.intro hma hmb); have HRA := Lib.hid (And.intro hra hna); have HRB := Lib.hid (And.intro hrb hnb)
  clear hma hmb hra hna hrb hnb
  go_enter Try.func9, Try.ntmps9
  go_wp2_with fail
  refine (alive_any w).mono ?_
  rintro e w1 ⟨rfl, hE1⟩
  have HE1 := Lib.hid hE1
  clear hE1
  go_wp2_with fail
  refine (brief_any la _ w1 (HRA.out.1.rows.ext0 HE1.out)).mono ?_
  rintro e w2 ⟨rfl, t, rfl, ht⟩
  cases t
  · clear ht
    go_wp2_with fail
    go_ret
    exact ⟨rfl, HE1.out⟩
  have HPA := Lib.hid (brief_le (ht.1 rfl))
  clear ht
  go_wp2_with fail
  refine (brief_any lb _ w1 (HRB.out.1.rows.ext0 HE1.out)).mono ?_
  rintro e w2 ⟨rfl, t, rfl, ht⟩
  cases t
  · clear ht
    go_wp2_with fail
    go_ret
    exact ⟨rfl, HE1.out⟩
  have HPB := Lib.hid (brief_le (ht.1 rfl))
  clear ht
  go_wp2_with fail
  refine (join29_any la aa ma ca w1 (HRA.out.1.ext0 HE1.out) (by have := HPA.out.2.2; omega)).mono ?_
  rintro e w2 ⟨x2, rfl, hx2, hE2⟩
  have hb2 := hx2.bytes
  have hn2 := NilOk.own hx2
  obtain ⟨ax, cx, rfl⟩ := own_form hx2
  obtain ⟨nx, hnx⟩ : ∃ n, n = (joinB la).length := ⟨_, rfl⟩
  rw [← hnx] at hb2 hn2 ⊢
  have hnx20 : nx ≤ 2080 := by have := HPA.out.2.2; omega
  have HNX := Lib.hid hnx; have HX2 := Lib.hid (And.intro hb2 hn2); have HE2 := Lib.hid (HE1.out.trans' hE2)
  clear hnx hb2 hn2 hE2 HE1 hx2
  dsimp only
  go_wp2_with fail
  refine (join29_any lb ab mb cb w2 (HRB.out.1.ext0 HE2.out) (by have := HPB.out.2.2; omega)).mono ?_
  rintro e w3 ⟨x3, rfl, hx3, hE3⟩
  have hb3 := hx3.bytes
  have hn3 := NilOk.own hx3
  obtain ⟨ay, cy, rfl⟩ := own_form hx3
  obtain ⟨ny, hny⟩ : ∃ n, n = (joinB lb).length := ⟨_, rfl⟩
  rw [← hny] at hb3 hn3 ⊢
  have hny20 : ny ≤ 2080 := by have := HPB.out.2.2; omega
  have HNY := Lib.hid hny; have HY3 := Lib.hid (And.intro hb3 hn3); have HX3 := Lib.hid (HX2.out.1.ext0 hE3); have HE3 := Lib.hid (HE2.out.trans' hE3)
  clear hny hb3 hn3 hE3 HE2 hx3
  -- both scripts, one behind the other
  have hxa : Ext No w3 (w3.alloc (.cells #[] 5)) := (Ext.refl No w3).alloc _
  have hrow1 : IsRow (w3.alloc (.cells #[] 5)) (byt (joinB la)) nx (.slice ax nx cx) := by have h := HX3.out.ext0 hxa; unfold IsBytes at h; rw [← HNX.out] at h; exact h
  have hrow2 : ∀ w5, (w3.alloc (.cells #[] 5)).grownBy w5 (Value.slice (some ⟨w3.heap.size, 0, none⟩) 0 0).ownBlock → IsRow w5 (byt (joinB lb)) ny (.slice ay ny cy) ∧ w3.heap.size ≤ w5.heap.size := fun w5 hg => by
    have hx5 : Ext No w3 w5 := hxa.grown hg (fun j hj h => by have : w3.heap.size = j := Option.some.inj hj; omega)
    have h := HY3.out.1.ext0 hx5; unfold IsBytes at h; rw [← HNY.out] at h
    exact ⟨h, by have := hg.size; rw [World.size_alloc] at this; omega⟩
  have HR1 := Lib.hid hrow1; have HR2 := Lib.hid hrow2; have HNA := Lib.hid HX2.out.2.none; have HNB := Lib.hid HY3.out.2.none
  have HN1 := Lib.hid (show 0 + nx ≤ 9223372036854775807 ∧ (0 + nx) * 1 ≤ 140737488355328 ∧ nx + ny ≤ 9223372036854775807 ∧ (nx + ny) * 1 ≤ 140737488355328 by omega)
  have HS3 := Lib.hid (show w3.heap.size ≤ (w3.alloc (.cells #[] 5)).heap.size by simp)
  have HO0 := Lib.hid (World.ownsRow_made (e := 5) (size := 1) w3 #[] 0 (Nat.le_refl _) (by decide) rfl)
  have H1a := Lib.hid (show ∀ i, i < nx → (byt (joinB la) i).oneCell' = true from fun _ _ => rfl)
  have H1b := Lib.hid (show ∀ i, i < ny → (byt (joinB lb) i).oneCell' = true from fun _ _ => rfl)
  clear hxa hrow1 hrow2
  dsimp only
  go_wp2_with (first
    | (at_builtin; refine wpList_appN _ rfl _ _ 31 rfl w3.heap.size 5 _ _ u8_infoJ Try.underlying31 rfl _ _ _ rfl hown _ _ _ (byt (joinB lb)) rfl (HR2.out _ hg).1 HNB.out H1b.out HN1.out.2.2.1 HN1.out.2.2.2 (HR2.out _ hg).2 ?_; intro v7 w7 hown7 hg7; obtain ⟨a7, c7, rfl⟩ := own_form hown7)
    | (at_builtin; refine wpList_appN _ rfl _ _ 31 rfl w3.heap.size 5 _ _ u8_infoJ Try.underlying31 rfl _ _ _ rfl HO0.out _ _ _ (byt (joinB la)) rfl HR1.out HNA.out H1a.out HN1.out.1 HN1.out.2.1 HS3.out ?_; intro v6 w6 hown hg; rw [Nat.zero_add, List.nil_append] at hown; obtain ⟨a6, c6, rfl⟩ := own_form hown))
  have hx37 : Ext No w3 w7 := (((Ext.refl No w3).alloc _).grown hg (fun j hj h => by have : w3.heap.size = j := Option.some.inj hj; omega)).grown hg7 (fun j hj h => by have := (World.ownsRow.lt hown j hj).1; omega)
  have hob : OwnB w7 5 w3.heap.size (joinB la ++ joinB lb) (.slice a7 (nx + ny) c7) := by
    have h := hown7
    rw [HNX.out, HNY.out, byts_range, byts_range, ← byts_append, ← List.length_append] at h
    rw [HNX.out, HNY.out, ← List.length_append]
    exact h
  have HE7 := Lib.hid (HE3.out.trans' hx37); have HX7 := Lib.hid (HX3.out.ext0 hx37); have HY7 := Lib.hid (HY3.out.1.ext0 hx37)
  have hb7 := hob.bytes
  have hn7 := NilOk.own hob
  clear hown hg hown7 hg7 hx37 hob HR1 HR2 HNA HNB HN1 HS3 HO0 H1a H1b HE3 HX3
  refine (itemsS_any (joinB la ++ joinB lb) a7 (nx + ny) c7 1000 w7 hb7 hn7 (by rw [List.length_append]; have := HNX.out; have := HNY.out; omega)).mono ?_
  rintro e w8 ⟨x8, rfl, hx8, hE8⟩
  have hit : itemsL (joinB la ++ joinB lb) = allW (la ++ lb) := by
    rw [← joinB_append]
    exact itemsL_joinB _ (fun x hx => by
      rcases List.mem_append.1 hx with h | h
      · have := HPA.out.1 x h; omega
      · have := HPB.out.1 x h; omega)
  have hlab : (la ++ lb).length = ma + mb := by rw [List.length_append]; have := HM.out; omega
  have hm20 : ma ≤ 20 ∧ mb ≤ 20 := by have := HM.out; have := HPA.out.2.1; have := HPB.out.2.1; omega
  rw [hit, List.take_of_length_le (by rw [allW_length, hlab]; show ma + mb ≤ 1000; omega)] at hx8 ⊢
  rw [wholes_allW, hlab]
  rw [bodies_allW] at hx8
  have hr8 := hx8.rowsN.rows
  obtain ⟨a8, c8, rfl, -⟩ := rows_form hr8
  rw [hlab] at hr8 ⊢
  have HR8 := Lib.hid hr8
  have HE8 := Lib.hid (HE7.out.trans' hE8); have HX8 := Lib.hid (HX7.out.ext0 hE8); have HY8 := Lib.hid (HY7.out.ext0 hE8)
  clear hb7 hn7 hx8 hE8 hit hr8 HE7 HX7 HY7
  dsimp only
  obtain ⟨fa, hfa, hfa'⟩ := HRA.out.1
  obtain ⟨fb, hfb, hfb'⟩ := HRB.out.1
  rw [← HM.out.1] at hfa
  rw [← HM.out.2] at hfb
  have hxa : Ext No w (w8.alloc (.cells #[] 31)) := HE8.out.alloc _
  have hrow1 : IsRow (w8.alloc (.cells #[] 31)) fa ma (.slice aa ma ca) := hfa.ext0 hxa
  have hrow2 : ∀ w5, (w8.alloc (.cells #[] 31)).grownBy w5 (Value.slice (some ⟨w8.heap.size, 0, none⟩) 0 0).ownBlock → IsRow w5 fb mb (.slice ab mb cb) ∧ w8.heap.size ≤ w5.heap.size := fun w5 hg => by
    have hx5 : Ext No w w5 := hxa.grown hg (fun j hj h => by have h1 : w8.heap.size = j := Option.some.inj hj; have := HE8.out.size; omega)
    exact ⟨hfb.ext0 hx5, by have := hg.size; rw [World.size_alloc] at this; omega⟩
  have HR1 := Lib.hid hrow1; have HR2 := Lib.hid hrow2; have HNA := Lib.hid HRA.out.2.none; have HNB := Lib.hid HRB.out.2.none
  have HN1 := Lib.hid (show 0 + ma ≤ 9223372036854775807 ∧ (0 + ma) * 24 ≤ 140737488355328 ∧ ma + mb ≤ 9223372036854775807 ∧ (ma + mb) * 24 ≤ 140737488355328 by omega)
  have HS3 := Lib.hid (show w8.heap.size ≤ (w8.alloc (.cells #[] 31)).heap.size by simp)
  have HO0 := Lib.hid (World.ownsRow_made (e := 31) (size := 1) w8 #[] 0 (Nat.le_refl _) (by decide) rfl)
  have H1a := Lib.hid (show ∀ i, i < ma → (fa i).oneCell' = true from fun i hi => bytes_cell (hfa' i (by have := HM.out.1; omega)).1)
  have H1b := Lib.hid (show ∀ i, i < mb → (fb i).oneCell' = true from fun i hi => bytes_cell (hfb' i (by have := HM.out.2; omega)).1)
  have HFA := Lib.hid hfa'; have HFB := Lib.hid hfb'
  clear hxa hrow1 hrow2 hfa hfb hfa' hfb'
  go_wp2_with (first
    | (at_builtin; refine wpList_appN _ rfl _ _ 59 rfl w8.heap.size 31 _ _ rows_info Try.underlying59 rfl _ _ _ rfl hown _ _ _ fb rfl (HR2.out _ hg).1 HNB.out H1b.out HN1.out.2.2.1 HN1.out.2.2.2 (HR2.out _ hg).2 ?_; intro v9 w9 hown9 hg9; obtain ⟨a9, c9, rfl⟩ := own_form hown9)
    | (at_builtin; refine wpList_appN _ rfl _ _ 59 rfl w8.heap.size 31 _ _ rows_info Try.underlying59 rfl _ _ _ rfl HO0.out _ _ _ fa rfl HR1.out HNA.out H1a.out HN1.out.1 HN1.out.2.1 HS3.out ?_; intro v6 w6 hown hg; rw [Nat.zero_add, List.nil_append] at hown; obtain ⟨a6', c6', rfl⟩ := own_form hown))
  have hx89 : Ext No w8 w9 := (((Ext.refl No w8).alloc _).grown hg (fun j hj h => by have : w8.heap.size = j := Option.some.inj hj; omega)).grown hg9 (fun j hj h => by have := (World.ownsRow.lt hown j hj).1; omega)
  have hE9 := HE8.out.trans' hx89
  have hr9 : IsRows w9 (la ++ lb) (.slice a9 (ma + mb) c9) := rows_app hown9 HM.out.1 HM.out.2 (fun i hi => (HFA.out i hi).1.ext0 hE9) (fun i hi => (HFB.out i hi).1.ext0 hE9)
  have hx9 := HX8.out.ext0 hx89
  have hy9 := HY8.out.ext0 hx89
  have HR9 := Lib.hid hr9; have HR8' := Lib.hid (HR8.out.ext0 hx89); have HX9 := Lib.hid hx9; have HY9 := Lib.hid hy9; have HE9 := Lib.hid hE9
  clear hown hg hown9 hg9 hx89 hE9 hr9 hx9 hy9 HR1 HR2 HNA HNB HN1 HS3 HO0 H1a H1b HFA HFB HR8 HX8 HY8 HE8
  have hz : IsRowsN (w9.alloc (.cells #[.slice ax nx cx, .slice ay ny cy] 31)) [joinB la, joinB lb] (.slice (some ⟨w9.heap.size, 0, none⟩) 2 2) :=
    rows_two (Blk.new w9 #[.slice ax nx cx, .slice ay ny cy] 31) ⟨HX9.out.ext0 ((Ext.refl No w9).alloc _), HX2.out.2⟩ ⟨HY9.out.ext0 ((Ext.refl No w9).alloc _), HY3.out.2⟩
  have hzl : (joinB [joinB la, joinB lb]).length = 8 + nx + ny := by
    rw [joinB_cons, joinB_cons, joinB_nil, List.append_nil, List.length_append, bytesB_length, bytesB_length, ← HNX.out, ← HNY.out]; omega
  refine (join29_any [joinB la, joinB lb] (some ⟨w9.heap.size, 0, none⟩) 2 2 _ hz (by omega)).mono ?_
  rintro e w10 ⟨x10, rfl, hx10, hE10⟩
  have hb10 := hx10.bytes
  have hn10 := NilOk.own hx10
  obtain ⟨az, cz, rfl⟩ := own_form hx10
  rw [hzl] at hb10 hn10 ⊢
  have hE910 : Ext No w9 w10 := ((Ext.refl No w9).alloc _).trans' hE10
  have HR10 := Lib.hid (HR9.out.ext0 hE910); have HR8 := Lib.hid (HR8'.out.ext0 hE910); have HX10 := Lib.hid (HX9.out.ext0 hE910); have HY10 := Lib.hid (HY9.out.ext0 hE910); have HE10 := Lib.hid (HE9.out.trans' hE910)
  have HZ10 := Lib.hid (And.intro hb10 hn10); have HZL := Lib.hid hzl
  clear hz hzl hx10 hE10 hb10 hn10 hE910 HR9 HR8' HX9 HY9 HE9
  dsimp only
  go_wp2_with fail
  refine (itemsS_any (joinB [joinB la, joinB lb]) az (8 + nx + ny) cz 1000 w10 HZ10.out.1 HZ10.out.2 (by have := HZL.out; omega)).mono ?_
  rintro e w11 ⟨x11, rfl, hx11, hE11⟩
  have hit : itemsL (joinB [joinB la, joinB lb]) = allW [joinB la, joinB lb] := itemsL_joinB _ (fun x hx => by
    have h1 := HNX.out; have h2 := HNY.out
    simp only [List.mem_cons, List.not_mem_nil, or_false] at hx
    rcases hx with rfl | rfl
    · omega
    · omega)
  rw [hit, show (allW [joinB la, joinB lb]).take (Int.toNat 1000) = allW [joinB la, joinB lb] from rfl] at hx11 ⊢
  rw [wholes_allW, show [joinB la, joinB lb].length = 2 from rfl]
  rw [bodies_allW] at hx11
  have hr11 := hx11.rowsN
  obtain ⟨a11, c11, rfl, -⟩ := rows_form hr11.rows
  rw [show [joinB la, joinB lb].length = 2 from rfl] at hr11 ⊢
  have HO11 := Lib.hid hr11
  have HE11 := Lib.hid (HE10.out.trans' hE11); have HR11 := Lib.hid (HR10.out.ext0 hE11); have HR8' := Lib.hid (HR8.out.ext0 hE11); have HY11 := Lib.hid (HY10.out.ext0 hE11)
  clear hit hx11 hr11 hE11 HZ10 HZL HR10 HR8 HX10 HY10 HE10
  dsimp only
  go_wp2_with fail
  refine (same4_any (la ++ lb) (la ++ lb) _ _ w11 HR8'.out HR11.out).mono ?_
  rintro e w12 ⟨rfl, hE12⟩
  rw [decide_eq_true rfl]
  have HO12 := Lib.hid (HO11.out.ext0 hE12); have HY12 := Lib.hid (HY11.out.ext0 hE12); have HE12 := Lib.hid (HE11.out.trans' hE12)
  clear hE12 HO11 HR11 HR8' HY11 HE11
  obtain ⟨b1, o1, y0, rfl, hc0, hy0, hyn0⟩ := HO12.out.get 0 (by decide)
  obtain ⟨b1', o1', y1, hbe, hc1, hy1, -⟩ := HO12.out.get 1 (by decide)
  simp only [Option.some.injEq, Addr.mk.injEq, and_true] at hbe
  obtain ⟨rfl, rfl⟩ := hbe
  obtain ⟨a13, c13, rfl, -⟩ := id hy0
  obtain ⟨a14, c14, rfl, -⟩ := id hy1
  rw [show [joinB la, joinB lb].getD 0 [] = joinB la from rfl] at hy0 hyn0 hc0
  rw [show [joinB la, joinB lb].getD 1 [] = joinB lb from rfl] at hy1 hc1
  rw [← HNX.out] at hy0 hyn0 hc0
  rw [← HNY.out] at hy1 hc1
  rw [Nat.add_zero] at hc0
  have H0 := Lib.hid (And.intro hy0 hyn0); have H1 := Lib.hid hy1
  clear hy0 hyn0 hy1
  dsimp only
  go_wp2_with fail
  refine (itemsS_any (joinB la) a13 nx c13 1000 w12 H0.out.1 H0.out.2 (by have := HNX.out; omega)).mono ?_
  rintro e w13 ⟨x13, rfl, hx13, hE13⟩
  have hit : itemsL (joinB la) = allW la := itemsL_joinB _ (fun x hx => by have := HPA.out.1 x hx; omega)
  rw [hit, List.take_of_length_le (show (allW la).length ≤ Int.toNat 1000 by rw [allW_length]; show _ ≤ 1000; have := HM.out; omega)] at hx13 ⊢
  rw [wholes_allW, ← HM.out.1]
  rw [bodies_allW] at hx13
  have hr13 := hx13.rowsN.rows
  obtain ⟨a15, c15, rfl, -⟩ := rows_form hr13
  rw [← HM.out.1] at hr13 ⊢
  have hc1' : w13.cell? ⟨b1, o1 + 1, none⟩ = some (.slice a14 ny c14) := by rw [hE13.cell (World.block_lt_of_cell? _ _ hc1) (fun s => s)]; exact hc1
  have HR13 := Lib.hid hr13; have HE13 := Lib.hid (HE12.out.trans' hE13); have H1' := Lib.hid (H1.out.ext0 hE13); have HY13 := Lib.hid (HY12.out.ext0 hE13)
  clear hit hx13 hr13 hE13 hc0 hc1 H0 H1 HO12 HY12 HE12
  dsimp only
  go_wp2_with fail
  refine (same4_any la la _ _ w13 HR13.out (HRA.out.1.rows.ext0 HE13.out)).mono ?_
  rintro e w14 ⟨rfl, hE14⟩
  rw [decide_eq_true rfl]
  have hc2' : w14.cell? ⟨b1, o1 + 1, none⟩ = some (.slice a14 ny c14) := by rw [hE14.cell (World.block_lt_of_cell? _ _ hc1') (fun s => s)]; exact hc1'
  have HE14 := Lib.hid (HE13.out.trans' hE14); have H1 := Lib.hid (H1'.out.ext0 hE14); have HY14 := Lib.hid (HY13.out.ext0 hE14)
  clear hE14 hc1' H1' HY13 HE13 HR13
  dsimp only
  go_wp2_with fail
  refine (same1_any (joinB lb) (joinB lb) _ _ w14 H1.out HY14.out).mono ?_
  rintro e w15 ⟨rfl, rfl⟩
  rw [decide_eq_true rfl]
  dsimp only
  go_wp2_with fail
  go_ret
  exact ⟨rfl, HE14.out⟩

end Go.Proofs.Ytchejnnfbinclaa
end

section
/- Flat contracts on commands and answers; the walk of ScriptWrites. Printed by wip/mkwrites.py. -/
namespace Go.Proofs.Ytchejnnfbinclaa
open Go.RowKit Go.My

theorem few_flat (kind n : Int) (who : Nat) (flag : Bool) (name host : List UInt8) (files : List FileL) (last days day within : Int) (tag : List UInt8) (bits : List Bool) (vf vb : Value) (w : World) (hf : IsFiles w files vf) (hb : IsBools w bits vb) :
    Calls Try.prog 11 #[.agg #[.int .i64 kind, .int .i64 n, .int .u64 (who : Nat), .bool flag, .string (strB name), .string (strB host), vf, .int .i64 last, .int .i64 days, .int .i64 day, .int .i64 within, .string (strB tag), vb]] w (FewTold ⟨kind, n, who, flag, name, host, files, last, days, day, within, tag, bits⟩ w) := few29_any ⟨kind, n, who, flag, name, host, files, last, days, day, within, tag, bits⟩ vf vb w hf hb
theorem encode_flat (kind n : Int) (who : Nat) (flag : Bool) (name host : List UInt8) (files : List FileL) (last days day within : Int) (tag : List UInt8) (bits : List Bool) (vf vb : Value) (w : World) (hf : IsFiles w files vf) (hb : IsBools w bits vb) (hwho : who ≤ 18446744073709551615) (hl : 200 + name.length + host.length + tag.length + bits.length + (filesB files).length ≤ 1099511627776) :
    Calls Try.prog 12 #[.agg #[.int .i64 kind, .int .i64 n, .int .u64 (who : Nat), .bool flag, .string (strB name), .string (strB host), vf, .int .i64 last, .int .i64 days, .int .i64 day, .int .i64 within, .string (strB tag), vb]] w (EncTold ⟨kind, n, who, flag, name, host, files, last, days, day, within, tag, bits⟩ w) := encode_any ⟨kind, n, who, flag, name, host, files, last, days, day, within, tag, bits⟩ vf vb w hf hb hwho hl
theorem command_flat (kind n : Int) (who : Nat) (flag : Bool) (name host : List UInt8) (last days day within : Int) (tag : List UInt8) (vf vb : Value) (w : World) (hf : ∃ a n c, vf = .slice a n c) (hb : ∃ a n c, vb = .slice a n c) :
    Calls Try.prog 14 #[.agg #[.int .i64 kind, .int .i64 n, .int .u64 (who : Nat), .bool flag, .string (strB name), .string (strB host), vf, .int .i64 last, .int .i64 days, .int .i64 day, .int .i64 within, .string (strB tag), vb]] w fun e w' => e = .returned (.agg #[.int .i64 kind, .int .i64 n, .int .u64 (who : Nat), .bool flag, .string (strB name), .string (strB host), vf, .int .i64 last, .int .i64 days, .int .i64 day, .int .i64 within, .string (strB tag), vb]) ∧ Ext No w w' := command_any ⟨kind, n, who, flag, name, host, [], last, days, day, within, tag, []⟩ vf vb w hf hb
theorem slice_ex (a : Option Addr) (n c : Nat) : ∃ a' n' c', Value.slice a n c = .slice a' n' c' := ⟨a, n, c, rfl⟩
theorem files_form {w : World} {fs : List FileL} {v : Value} (h : IsFiles w fs v) : ∃ a n c, v = .slice a n c := by obtain ⟨a, c, h, -⟩ := h; exact ⟨a, _, c, h⟩
theorem bools_form {w : World} {bs : List Bool} {v : Value} (h : IsBools w bs v) : ∃ a n c, v = .slice a n c := by obtain ⟨a, c, h, -⟩ := h; exact ⟨a, _, c, h⟩
theorem strs_form {w : World} {ns : List (List UInt8)} {v : Value} (h : IsStrs w ns v) : ∃ a n c, v = .slice a n c := by obtain ⟨a, c, h, -⟩ := h; exact ⟨a, _, c, h⟩
theorem IsBools.ext0 {w w' : World} {bs : List Bool} {v : Value} (h : IsBools w bs v) (x : Ext No w w') : IsBools w' bs v := IsRow.ext0 h x
theorem IsStrs.ext0 {w w' : World} {ns : List (List UInt8)} {v : Value} (h : IsStrs w ns v) (x : Ext No w w') : IsStrs w' ns v := IsRow.ext0 h x
theorem small_le {fs : List FileL} (h : SmallP fs) : fs.length ≤ 520 ∧ (filesB fs).length ≤ 40000000 := by
  have hl : fs.length ≤ 520 := by have := h.2; omega
  have h1 : ∀ ks : List FileL, (∀ f ∈ ks, f.1.length ≤ 130 ∧ f.2.length ≤ 65600) → ((ks.map fileB).flatten).length ≤ ks.length * 66000 := by
    intro ks
    induction ks with
    | nil => intro _; simp
    | cons k ks ih =>
      intro hk
      have := ih (fun x hx => hk x (List.mem_cons_of_mem _ hx))
      have hk0 := hk k (List.mem_cons_self ..)
      rw [List.map_cons, List.flatten_cons, List.length_append, List.length_cons]
      unfold fileB
      rw [List.length_append, bytesB_length, bytesB_length]
      unfold fileB at this
      omega
  have h2 := h1 fs (fun f hf => by
    obtain ⟨i, hi, rfl⟩ := List.mem_iff_getElem.1 hf
    have := h.1 i hi
    rw [List.getD_eq_getElem?_getD, List.getElem?_eq_getElem hi] at this
    exact ⟨this.1, this.2.2⟩)
  refine ⟨hl, ?_⟩
  unfold filesB
  rw [List.length_append, numB_length]
  omega
theorem few_le {c : CmdI} (h : FewP c) : 200 + c.name.length + c.host.length + c.tag.length + c.bits.length + (filesB c.files).length ≤ 1000000000 := by
  obtain ⟨h1, h2, h3, h4, h5⟩ := h
  have := small_le h1
  omega

set_option maxRecDepth 100000 in
set_option maxHeartbeats 8000000 in
theorem scriptWrites_fr (c : CmdI) (v : Value) (w : World) (h : IsCmdA w c v) :
    Calls Try.prog 3 #[v] w fun e w' => e = .returned (.bool true) ∧ Ext No w w' := by
  obtain ⟨vf, vb, rfl, hf, hb, hwho, -⟩ := h
  obtain ⟨kind, n, who, flag, name, host, files, last, days, day, within, tag, bits⟩ := c
  obtain ⟨af, nf, cf, rfl⟩ := files_form hf
  obtain ⟨ab, nb, cb, rfl⟩ := bools_form hb
  dsimp only at hf hb hwho
  unfold cmdVal
  dsimp only
  have HF := Lib.hid hf; have HBB := Lib.hid hb; have HWHO := Lib.hid (show who ≤ 18446744073709551615 by omega)
  have hx : Ext No w (w.alloc (.cells #[.int .i64 kind, .int .i64 n, .int .u64 (who : Nat), .bool flag, .string (strB name), .string (strB host), .slice af nf cf, .int .i64 last, .int .i64 days, .int .i64 day, .int .i64 within, .string (strB tag), .slice ab nb cb] 28)) := (Ext.refl No w).alloc _
  have hB := Blk.new w #[.int .i64 kind, .int .i64 n, .int .u64 (who : Nat), .bool flag, .string (strB name), .string (strB host), .slice af nf cf, .int .i64 last, .int .i64 days, .int .i64 day, .int .i64 within, .string (strB tag), .slice ab nb cb] 28
  have HX := Lib.hid hx; have HB := Lib.hid hB; clear hx hB hf hb hwho
  go_enter Try.func3, Try.ntmps3
  go_wp2_with fail
  refine (alive_any _).mono ?_
  rintro e w1 ⟨rfl, hx1⟩
  have HX1 := Lib.hid (HX.out.trans' hx1); have HB1 := Lib.hid (HB.out.ext hx1 (fun x => x)); clear hx1 HX HB
  generalize w.heap.size = pb at *
  have hd0 := HB1.out.cell 0; have hd1 := HB1.out.cell 1; have hd2 := HB1.out.cell 2; have hd3 := HB1.out.cell 3; have hd4 := HB1.out.cell 4; have hd5 := HB1.out.cell 5; have hd6 := HB1.out.cell 6; have hd7 := HB1.out.cell 7; have hd8 := HB1.out.cell 8; have hd9 := HB1.out.cell 9; have hd10 := HB1.out.cell 10; have hd11 := HB1.out.cell 11; have hd12 := HB1.out.cell 12
  simp only [List.getElem?_toArray, List.getElem?_cons_succ, List.getElem?_cons_zero] at hd0 hd1 hd2 hd3 hd4 hd5 hd6 hd7 hd8 hd9 hd10 hd11 hd12
  go_wp2_with fail
  clear hd0 hd1 hd2 hd3 hd4 hd5 hd6 hd7 hd8 hd9 hd10 hd11 hd12
  refine (few_flat kind n who flag name host files last days day within tag bits _ _ w1 (HF.out.ext0 HX1.out) (HBB.out.ext0 HX1.out)).mono ?_
  rintro e w2 ⟨hx2, t, rfl, ht⟩
  have HX2 := Lib.hid (HX1.out.trans' hx2); have HB2 := Lib.hid (HB1.out.ext hx2 (fun x => x)); clear hx2 HX1 HB1
  cases t
  · clear ht
    dsimp only
    go_wp2_with fail
    go_ret
    exact ⟨rfl, HX2.out⟩
  have HP := Lib.hid (few_le (ht.1 rfl))
  clear ht
  have hd0 := HB2.out.cell 0; have hd1 := HB2.out.cell 1; have hd2 := HB2.out.cell 2; have hd3 := HB2.out.cell 3; have hd4 := HB2.out.cell 4; have hd5 := HB2.out.cell 5; have hd6 := HB2.out.cell 6; have hd7 := HB2.out.cell 7; have hd8 := HB2.out.cell 8; have hd9 := HB2.out.cell 9; have hd10 := HB2.out.cell 10; have hd11 := HB2.out.cell 11; have hd12 := HB2.out.cell 12
  simp only [List.getElem?_toArray, List.getElem?_cons_succ, List.getElem?_cons_zero] at hd0 hd1 hd2 hd3 hd4 hd5 hd6 hd7 hd8 hd9 hd10 hd11 hd12
  dsimp only
  go_wp2_with fail
  clear hd0 hd1 hd2 hd3 hd4 hd5 hd6 hd7 hd8 hd9 hd10 hd11 hd12
  refine (encode_flat kind n who flag name host files last days day within tag bits _ _ w2 (HF.out.ext0 HX2.out) (HBB.out.ext0 HX2.out) HWHO.out (Nat.le_trans HP.out (by decide))).mono ?_
  rintro e w3 ⟨hx3, hcase⟩
  have HX3 := Lib.hid (HX2.out.trans' hx3); have HB3 := Lib.hid (HB2.out.ext hx3 (fun x => x)); clear hx3 HX2 HB2
  have HCK := Lib.hid (fun W hw hz => checkR_flat kind n who flag name host files last days day within tag bits (.slice af nf cf) (.slice ab nb cb) W hw hz)
  have HBY := Lib.hid (fun W hw hz => bytesR29_flat kind n who flag name host files last days day within tag bits (.slice af nf cf) (.slice ab nb cb) W hw hz HWHO.out (Nat.le_trans HP.out (by decide)))
  generalize checkN ⟨kind, n, who, flag, name, host, files, last, days, day, within, tag, bits⟩ = k at *
  generalize cmdB ⟨kind, n, who, flag, name, host, files, last, days, day, within, tag, bits⟩ = lb at *
  have hd0 := HB3.out.cell 0; have hd1 := HB3.out.cell 1; have hd2 := HB3.out.cell 2; have hd3 := HB3.out.cell 3; have hd4 := HB3.out.cell 4; have hd5 := HB3.out.cell 5; have hd6 := HB3.out.cell 6; have hd7 := HB3.out.cell 7; have hd8 := HB3.out.cell 8; have hd9 := HB3.out.cell 9; have hd10 := HB3.out.cell 10; have hd11 := HB3.out.cell 11; have hd12 := HB3.out.cell 12
  simp only [List.getElem?_toArray, List.getElem?_cons_succ, List.getElem?_cons_zero] at hd0 hd1 hd2 hd3 hd4 hd5 hd6 hd7 hd8 hd9 hd10 hd11 hd12
  rcases hcase with ⟨rfl, x3, rfl, hx⟩ | ⟨hk, rfl⟩
  · have hbx := hx.bytes
    obtain ⟨ax, cx, rfl⟩ := own_form hx
    have HBX := Lib.hid hbx
    clear hx hbx
    dsimp only
    go_wp2_with fail
    refine (command_flat kind n who flag name host last days day within tag _ _ w3 (slice_ex _ _ _) (slice_ex _ _ _)).mono ?_
    rintro e w4 ⟨rfl, hx4⟩
    have HX4 := Lib.hid (HX3.out.trans' hx4); have HB4 := Lib.hid (HB3.out.ext hx4 (fun x => x)); clear HX3 HB3 hd0 hd1 hd2 hd3 hd4 hd5 hd6 hd7 hd8 hd9 hd10 hd11 hd12
    dsimp only
    go_wp2_with fail
    refine (HCK.out w4 (HF.out.ext0 HX4.out) (HBB.out.ext0 HX4.out)).mono ?_
    rintro e w5 ⟨rfl, hx5⟩
    have HX5 := Lib.hid (HX4.out.trans' hx5); have HB5 := Lib.hid (HB4.out.ext hx5 (fun x => x)); clear HX4 HB4
    have HBX5 := Lib.hid ((HBX.out.ext0 hx4).ext0 hx5)
    clear hx4 hx5 HBX
    have hd0 := HB5.out.cell 0; have hd1 := HB5.out.cell 1; have hd2 := HB5.out.cell 2; have hd3 := HB5.out.cell 3; have hd4 := HB5.out.cell 4; have hd5 := HB5.out.cell 5; have hd6 := HB5.out.cell 6; have hd7 := HB5.out.cell 7; have hd8 := HB5.out.cell 8; have hd9 := HB5.out.cell 9; have hd10 := HB5.out.cell 10; have hd11 := HB5.out.cell 11; have hd12 := HB5.out.cell 12
    simp only [List.getElem?_toArray, List.getElem?_cons_succ, List.getElem?_cons_zero] at hd0 hd1 hd2 hd3 hd4 hd5 hd6 hd7 hd8 hd9 hd10 hd11 hd12
    dsimp only
    go_wp2_with fail
    clear hd0 hd1 hd2 hd3 hd4 hd5 hd6 hd7 hd8 hd9 hd10 hd11 hd12
    refine (command_flat kind n who flag name host last days day within tag _ _ w5 (slice_ex _ _ _) (slice_ex _ _ _)).mono ?_
    rintro e w6 ⟨rfl, hx6⟩
    have HX6 := Lib.hid (HX5.out.trans' hx6); have HBX6 := Lib.hid (HBX5.out.ext0 hx6); clear HX5 HB5 hx6 HBX5
    dsimp only
    go_wp2_with fail
    refine (HBY.out w6 (HF.out.ext0 HX6.out) (HBB.out.ext0 HX6.out)).mono ?_
    rintro e w7 ⟨x7, rfl, hx7, hE7⟩
    have hb7 := hx7.bytes
    obtain ⟨a7, c7, rfl⟩ := own_form hx7
    have HX7 := Lib.hid (HX6.out.trans' hE7); have HBX7 := Lib.hid (HBX6.out.ext0 hE7); have HB7 := Lib.hid hb7
    clear hE7 hx7 hb7 HX6 HBX6
    dsimp only
    go_wp2_with fail
    refine (same1_any lb lb _ _ w7 HBX7.out HB7.out).mono ?_
    rintro e w8 ⟨rfl, rfl⟩
    rw [decide_eq_true rfl]
    dsimp only
    go_wp2_with fail
    go_ret
    exact ⟨rfl, HX7.out⟩
  · dsimp only
    go_wp2_with fail
    refine (command_flat kind n who flag name host last days day within tag _ _ w3 (slice_ex _ _ _) (slice_ex _ _ _)).mono ?_
    rintro e w4 ⟨rfl, hx4⟩
    have HX4 := Lib.hid (HX3.out.trans' hx4); have HB4 := Lib.hid (HB3.out.ext hx4 (fun x => x)); clear HX3 HB3 hd0 hd1 hd2 hd3 hd4 hd5 hd6 hd7 hd8 hd9 hd10 hd11 hd12
    dsimp only
    go_wp2_with fail
    refine (HCK.out w4 (HF.out.ext0 HX4.out) (HBB.out.ext0 HX4.out)).mono ?_
    rintro e w5 ⟨rfl, hx5⟩
    have HX5 := Lib.hid (HX4.out.trans' hx5); have HB5 := Lib.hid (HB4.out.ext hx5 (fun x => x)); clear HX4 HB4
    clear hx4 hx5
    dsimp only
    go_wp2_with fail
    go_ret
    exact ⟨rfl, HX5.out⟩

end Go.Proofs.Ytchejnnfbinclaa
end

section
/-
  PROVED HERE: 'Rows.ScriptWritesSaid': of every input the law 'coldstorelaw29.ScriptWrites' answers true, and each argument reads behind the call as it read before. No condition but the form's own.
-/
namespace Go.Proofs.Ytchejnnfbinclaa.scriptWrites
open Go.ChangeShapes Go.WideShapes Go.ChangeAt Go.RowKit Go.My
open Go.ChangeMaps (open_string shut_string)
set_option linter.unusedVariables false

theorem own : ownKnob Try.prog.godebug = none := by kernel_rfl
theorem laidOut : laidOutB Try.prog = true := by kernel_rfl

set_option maxRecDepth 100000 in
theorem lifted (os : Os) (started : os.Started) (H : Type) (enc : TypeId × Value → H) :
    ReturnsInHanded {} Try.checked os 3 .any (Rows.scriptWritesSpec.pre6 enc Try.prog Try.f3 Rows.scriptWritesRow.domain false) (Rows.scriptWritesSpec.post enc Try.prog Try.f3 false true false false) := by
  refine returnsInHanded_of_change (C := Try.checked) own started (by kernel_rfl) Try.func3
    (ChangeSpec.witness6 (enc := enc) (C := Try.checked) false ⟨#[], #[.agg #[.int .i64 0, .int .i64 0, .int .u64 0, .bool false, .string ⟨#[]⟩, .string ⟨#[]⟩, .slice none 0 0, .int .i64 0, .int .i64 0, .int .i64 0, .int .i64 0, .string ⟨#[]⟩, .slice none 0 0]], []⟩ 8 (by kernel_rfl) (by kernel_rfl) (by kernel_rfl) (by kernel_rfl)) ?_
  intro W base args ds gs before hval0 hW hcnd _
  have hval : ∀ (j : Nat) t v, Try.f3.params[j]? = some t → args[j]? = some v → Value.okWide Try.prog W .any base t v := hval0
  have hW' := hW
  obtain ⟨p, q, hA0, hV, rfl, hfz, hnd⟩ := hW
  have hA : DataW.TrodAll enc Try.prog W 0 (fun _ => true) true Try.f3.params.toList args.toList ds p := hA0
  rw [Try.params3] at hA hval
  obtain ⟨v0, vs0, d0, ds0, p0, q0, hargs, rfl, rfl, h0, r0⟩ := trodAll_cons hA
  obtain ⟨rfl, rfl, rfl⟩ := trodAll_nil r0
  obtain rfl : args = #[v0] := by cases args; simp_all
  obtain ⟨rfl, rfl⟩ := trodVars_none hV
  have k0 := h0
  have lt0 : ∀ x ∈ p0, x.block < W.heap.size := by obtain ⟨m, hm⟩ := k0; exact DataW.trod_lt m _ _ _ hm
  obtain ⟨a0, ot0⟩ := op_cmd (hval 0 28 v0 rfl rfl) h0
  clear hA0 hval0
  refine (scriptWrites_fr a0 _ W ot0).mono fun e W' ⟨he, ext⟩ => ?_
  subst he
  have bel := ext.below
  exact ⟨_, rfl, _, _, _, [], _, [], hW', trodAll_mk1 (shut_bool Try.underlying4 _), (trodAll_cons_mk (Below.trod laidOut (by kernel_rfl) (of_decide_eq_true (by kernel_rfl)) k0 bel lt0) trodAll_mk0), rfl, bel.frame _, fun h => by cases h⟩

theorem over : Rows.scriptWritesRow.holds Try.pinned (OpenSpec.ofChange Rows.scriptWritesSpec) :=
  OpenClaim.holds_of_wide 3 Try.f3 rfl rfl rfl rfl rfl rfl rfl ⟨rfl, rfl, rfl, rfl, rfl⟩ rfl rfl rfl rfl rfl (by kernel_rfl) Try.func3 (by kernel_rfl)
    (of_decide_eq_true (by kernel_rfl)) (by unfold Func.isWrapper; first | (rw [if_pos (by decide +kernel)]; kernel_rfl) | (rw [if_neg (by decide +kernel)]; exact ⟨rfl, rfl⟩))
    (fun os started H enc _ => lifted os started H enc)

/-- THE STATEMENT -/
theorem proved : Rows.ScriptWritesSaid := over
#print axioms proved
end Go.Proofs.Ytchejnnfbinclaa.scriptWrites
end
