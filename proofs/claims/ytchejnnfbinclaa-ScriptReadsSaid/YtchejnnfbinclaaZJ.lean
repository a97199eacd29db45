/-
  JOINED (10): the walks of ScriptItems, ScriptCuts, ScriptJoins, ScriptWrites, ScriptReplies.
-/
import Derived.Test.YtchejnnfbinclaaZI
set_option linter.unusedVariables false
set_option linter.unusedSimpArgs false

section
/- The walk of ScriptItems. -/
namespace Go.Proofs.Ytchejnnfbinclaa
open Go.RowKit Go.My

theorem NewBs.rowsN {w : World} {B : Nat} {ls : List (List UInt8)} {v : Value} (h : NewBs w B ls v) : IsRowsN w ls v := by
  obtain ⟨xs, h1, h2⟩ := h
  exact ⟨_, IsRow.of_own h1, fun i hi => ⟨(h2 i hi).1, (h2 i hi).2.2⟩⟩
theorem rows_form {w : World} {ls : List (List UInt8)} {v : Value} (h : IsRows w ls v) : ∃ a c, v = .slice a ls.length c ∧ ls.length ≤ c ∧ c ≤ 9223372036854775807 := by
  obtain ⟨f, ⟨a, c, rfl, h1, h2, -⟩, -⟩ := h
  exact ⟨a, c, rfl, h1, h2⟩
theorem bodies_length (is : List (List UInt8 × Bool)) : (bodies is).length = is.length := by unfold bodies; simp
theorem size59 (w : World) : (sizeOf 31).run Try.prog w = .ok 1 w := by kernel_rfl
theorem take59 (a : Option Addr) (k len cap : Nat) (hk : k ≤ cap) (w : World) : (Instr.sliceAt 59 (.slice a len cap) none (some (.int .i64 k)) none).run Try.prog w = .ok (.slice a k cap) w :=
  run_takeS Try.underlying59 size59 a .i64 k len cap hk w
theorem and7k (n : Int) : bits .and .i64 n 7 = (((n % 8).toNat : Nat) : Int) := by
  have h := i64_mask n 3 (by decide)
  rw [Int.toNat_of_nonneg (by omega)]
  exact h
theorem brief_le {ls : List (List UInt8)} (h : BriefP ls) : (∀ x ∈ ls, x.length ≤ 100) ∧ ls.length ≤ 20 ∧ (joinB ls).length ≤ 2080 := by
  have h1 : ∀ x ∈ ls, x.length ≤ 100 := fun x hx => by
    obtain ⟨i, hi, rfl⟩ := List.mem_iff_getElem.1 hx
    have := h.1 i hi
    rwa [List.getD_eq_getElem?_getD, List.getElem?_eq_getElem hi] at this
  have h2 := h.2
  have h3 : ∀ ks : List (List UInt8), (∀ x ∈ ks, x.length ≤ 100) → (joinB ks).length ≤ ks.length * 104 := by
    intro ks
    induction ks with
    | nil => intro _; simp [joinB]
    | cons k ks ih =>
      intro hk
      have := ih (fun x hx => hk x (List.mem_cons_of_mem _ hx))
      have hk0 := hk k (List.mem_cons_self ..)
      rw [joinB_cons, List.length_append, bytesB_length, List.length_cons]
      omega
  have := h3 ls h1
  exact ⟨h1, h2, by omega⟩

set_option maxRecDepth 100000 in
set_option maxHeartbeats 8000000 in
theorem scriptItems_fr (l : List UInt8) (v0 : Value) (ls : List (List UInt8)) (v1 : Value) (most : Int) (w : World) (hb : IsBytes w l v0) (hn : NilOk v0) (hr : IsRowsN w ls v1 ∧ NilOk v1) (_lo : -9223372036854775808 ≤ most) (_hi : most ≤ 9223372036854775807) :
    Calls Try.prog 5 #[v0, v1, .int .i64 most] w fun e w' => e = .returned (.bool true) ∧ Ext No w w' := by
  obtain ⟨a, c, rfl, hlc, hc63, -⟩ := id hb
  obtain ⟨hr, -⟩ := hr
  obtain ⟨al, cl, rfl, -⟩ := rows_form hr.rows
  obtain ⟨m, hm⟩ : ∃ m, m = l.length := ⟨_, rfl⟩
  obtain ⟨ml, hml⟩ : ∃ m, m = ls.length := ⟨_, rfl⟩
  rw [← hm] at hb hn hlc ⊢
  rw [← hml] at hr ⊢
  have HM := Lib.hid hm; have HML := Lib.hid hml; have HB := Lib.hid (And.intro hb hn); have HR := Lib.hid hr
  have h7 := and7k most
  obtain ⟨k, hk⟩ : ∃ k, k = (most % 8).toNat := ⟨_, rfl⟩
  rw [← hk] at h7
  have HK := Lib.hid (show k ≤ 7 by omega)
  clear hm hml hb hn hr hk
  go_enter Try.func5, Try.ntmps5
  go_wp2_with fail
  refine (alive_any w).mono ?_
  rintro e w1 ⟨rfl, hE1⟩
  have HE1 := Lib.hid hE1
  clear hE1
  by_cases h600 : 600 < m
  · have h600i : (600 : Int) < m := by omega
    go_wp2_with fail
    go_ret
    exact ⟨rfl, HE1.out⟩
  have h600i : decide ((600 : Int) < m) = false := by simp; omega
  have HLE := Lib.hid (show m ≤ 600 by omega)
  go_wp2_with fail
  refine (brief_any ls _ w1 (HR.out.rows.ext0 HE1.out)).mono ?_
  rintro e w2 ⟨rfl, t, rfl, ht⟩
  cases t
  · clear ht
    go_wp2_with fail
    go_ret
    exact ⟨rfl, HE1.out⟩
  have hP := brief_le (ht.1 rfl)
  have HP := Lib.hid hP
  clear hP ht
  go_wp2_with fail
  refine (itemsS_any l a m c 1000 w1 (HB.out.1.ext0 HE1.out) HB.out.2 (by have := HM.out; have := HLE.out; omega)).mono ?_
  rintro e w3 ⟨x3, rfl, hx3, hE3⟩
  have hlen := itemsL_len l
  rw [List.take_of_length_le (show (itemsL l).length ≤ Int.toNat 1000 by have := HM.out; have := HLE.out; show _ ≤ 1000; omega)] at hx3 ⊢
  have hr3 := hx3.rowsN
  obtain ⟨a3, c3, rfl, -⟩ := rows_form hr3.rows
  have HE3 := Lib.hid (HE1.out.trans' hE3)
  have HR3 := Lib.hid hr3.rows
  clear hlen hx3 hr3 hE3 HE1
  dsimp only
  go_wp2_with fail
  refine (itemsR_any l a m c w3 (HB.out.1.ext0 HE3.out) HB.out.2 (by have := HM.out; have := HLE.out; omega)).mono ?_
  rintro e w4 ⟨hE4, x4, t4, rfl, hx4, ht4⟩
  have hr4 := hx4.rows hE4
  obtain ⟨a4, c4, rfl, hlc4, hc4⟩ := rows_form hr4
  have hcount := wholes_count l
  rw [bodies_length] at hr4 hlc4
  obtain ⟨n, hnn⟩ : ∃ n, n = (itemsL l).length := ⟨_, rfl⟩
  obtain ⟨q, hq⟩ : ∃ q, q = wholes (itemsL l) := ⟨_, rfl⟩
  have hqn : t4 = true ∧ q = n ∨ t4 = false ∧ q + 1 = n := by
    rcases hcount with ⟨h1, h2⟩ | ⟨h1, h2⟩
    · exact .inl ⟨ht4.2 h1, by omega⟩
    · refine .inr ⟨?_, by omega⟩
      cases t4
      · rfl
      · exact absurd (ht4.1 rfl) h1
  have hr3 := HR3.out
  rw [bodies_length] at hr3 ⊢
  rw [← hnn] at hr3 hr4 hlc4 ⊢
  rw [← hq]
  have HNN := Lib.hid hnn
  have hn600 : n ≤ 600 := by have := itemsL_len l; have := HM.out; have := HLE.out; omega
  have HR3' := Lib.hid (hr3.ext0 hE4); have HR4 := Lib.hid hr4; have HE4 := Lib.hid (HE3.out.trans' hE4)
  clear hr3 hE4 hr4 HR3 HE3 hnn hq hx4 ht4 hcount
  dsimp only
  rcases hqn with ⟨rfl, rfl⟩ | ⟨rfl, rfl⟩
  · go_wp2_with fail
    refine (itemsS_any l a m c k w4 (HB.out.1.ext0 HE4.out) HB.out.2 (by have := HM.out; have := HLE.out; omega)).mono ?_
    rintro e w5 ⟨x5, rfl, hx5, hE5⟩
    rw [show Int.toNat (k : Int) = k from rfl] at hx5 ⊢
    have hr5 := hx5.rowsN.rows
    obtain ⟨a5, c5, rfl, -⟩ := rows_form hr5
    have hl5 : (bodies ((itemsL l).take k)).length = min k (q) := by rw [bodies_length, List.length_take, ← HNN.out]
    rw [hl5] at hr5 ⊢
    obtain ⟨j, hj⟩ : ∃ j, j = min k (q) := ⟨_, rfl⟩
    rw [← hj] at hr5 ⊢
    have htk : bodies ((itemsL l).take k) = (bodies (itemsL l)).take j := by
      unfold bodies
      rw [List.map_take]
      have hlm : ((itemsL l).map (·.1)).length = q := by rw [List.length_map, ← HNN.out]
      rcases Nat.le_total k (q) with h | h
      · rw [hj, Nat.min_eq_left h]
      · rw [hj, Nat.min_eq_right h, List.take_of_length_le (by omega), List.take_of_length_le (by omega)]
    rw [htk] at hr5
    generalize wholes ((itemsL l).take k) = q5 at *
    have HR3 := Lib.hid (HR3'.out.ext0 hE5); have HR4' := Lib.hid (HR4.out.ext0 hE5); have HR5 := Lib.hid hr5
    have HE5 := Lib.hid (HE4.out.trans' hE5)
    have HTK := Lib.hid htk
    have HJ := Lib.hid hj
    clear hl5 hx5 hr5 hE5 HE4 HR4 HR3' htk hj
    dsimp only
    go_wp2_with fail
    refine (same4_any _ _ _ _ w5 HR3.out HR4'.out).mono ?_
    rintro e w6 ⟨rfl, hE6⟩
    rw [decide_eq_true rfl]
    have HR3 := Lib.hid (HR3.out.ext0 hE6); have HR4 := Lib.hid (HR4'.out.ext0 hE6); have HR5 := Lib.hid (HR5.out.ext0 hE6)
    have HE6 := Lib.hid (HE5.out.trans' hE6)
    clear hE6 HE5 HR4'
    dsimp only
    have hj := HJ.out
    have hjc : j ≤ c4 := by omega
    have tk := fun wx => take59 a4 j (q) c4 hjc wx
    have htj := HR4.out.take j (by omega)
    have HTJ := Lib.hid htj
    clear htj
    have hmin : ((q : Nat) : Int) < k ∧ j = q ∨ ¬ ((q : Nat) : Int) < k ∧ j = k := by omega
    clear hj
    rcases hmin with ⟨hlt, hj⟩ | ⟨hlt, hj⟩
    · subst hj
      go_wp2_with fail
      refine (same4_any _ _ _ _ w6 HR5.out HTJ.out).mono ?_
      rintro e w7 ⟨rfl, hE7⟩
      rw [decide_eq_true rfl]
      have HE7 := Lib.hid (HE6.out.trans' hE7)
      clear hE7 HE6 HR3 HR4 HR5 HTJ
      dsimp only
      go_wp2_with fail
      refine (join29_any ls al ml cl w7 (HR.out.ext0 HE7.out) (by have := HP.out.2.2; omega)).mono ?_
      rintro e w8 ⟨x8, rfl, hx8, hE8⟩
      have HX8 := Lib.hid hx8.bytes
      have HE8 := Lib.hid (HE7.out.trans' hE8)
      obtain ⟨a8, c8, rfl⟩ := own_form hx8
      clear hE8 HE7 hx8
      dsimp only
      go_wp2_with fail
      refine (joinR29_any ls (.slice al ml cl) w8 (HR.out.ext0 HE8.out) (by have := HP.out.2.2; omega)).mono ?_
      rintro e w9 ⟨x9, rfl, hx9, hE9⟩
      have HX9 := Lib.hid hx9.bytes
      have HX8' := Lib.hid (HX8.out.ext0 hE9)
      have HE9 := Lib.hid (HE8.out.trans' hE9)
      obtain ⟨a9, c9, rfl⟩ := own_form hx9
      clear hE9 HE8 hx9 HX8
      dsimp only
      go_wp2_with fail
      refine (same1_any (joinB ls) (joinB ls) _ _ w9 HX8'.out HX9.out).mono ?_
      rintro e w10 ⟨rfl, rfl⟩
      rw [decide_eq_true rfl]
      dsimp only
      go_wp2_with fail
      go_ret
      exact ⟨rfl, HE9.out⟩
    · subst hj
      go_wp2_with fail
      refine (same4_any _ _ _ _ w6 HR5.out HTJ.out).mono ?_
      rintro e w7 ⟨rfl, hE7⟩
      rw [decide_eq_true rfl]
      have HE7 := Lib.hid (HE6.out.trans' hE7)
      clear hE7 HE6 HR3 HR4 HR5 HTJ
      dsimp only
      go_wp2_with fail
      refine (join29_any ls al ml cl w7 (HR.out.ext0 HE7.out) (by have := HP.out.2.2; omega)).mono ?_
      rintro e w8 ⟨x8, rfl, hx8, hE8⟩
      have HX8 := Lib.hid hx8.bytes
      have HE8 := Lib.hid (HE7.out.trans' hE8)
      obtain ⟨a8, c8, rfl⟩ := own_form hx8
      clear hE8 HE7 hx8
      dsimp only
      go_wp2_with fail
      refine (joinR29_any ls (.slice al ml cl) w8 (HR.out.ext0 HE8.out) (by have := HP.out.2.2; omega)).mono ?_
      rintro e w9 ⟨x9, rfl, hx9, hE9⟩
      have HX9 := Lib.hid hx9.bytes
      have HX8' := Lib.hid (HX8.out.ext0 hE9)
      have HE9 := Lib.hid (HE8.out.trans' hE9)
      obtain ⟨a9, c9, rfl⟩ := own_form hx9
      clear hE9 HE8 hx9 HX8
      dsimp only
      go_wp2_with fail
      refine (same1_any (joinB ls) (joinB ls) _ _ w9 HX8'.out HX9.out).mono ?_
      rintro e w10 ⟨rfl, rfl⟩
      rw [decide_eq_true rfl]
      dsimp only
      go_wp2_with fail
      go_ret
      exact ⟨rfl, HE9.out⟩
  · go_wp2_with fail
    refine (itemsS_any l a m c k w4 (HB.out.1.ext0 HE4.out) HB.out.2 (by have := HM.out; have := HLE.out; omega)).mono ?_
    rintro e w5 ⟨x5, rfl, hx5, hE5⟩
    rw [show Int.toNat (k : Int) = k from rfl] at hx5 ⊢
    have hr5 := hx5.rowsN.rows
    obtain ⟨a5, c5, rfl, -⟩ := rows_form hr5
    have hl5 : (bodies ((itemsL l).take k)).length = min k (q + 1) := by rw [bodies_length, List.length_take, ← HNN.out]
    rw [hl5] at hr5 ⊢
    obtain ⟨j, hj⟩ : ∃ j, j = min k (q + 1) := ⟨_, rfl⟩
    rw [← hj] at hr5 ⊢
    have htk : bodies ((itemsL l).take k) = (bodies (itemsL l)).take j := by
      unfold bodies
      rw [List.map_take]
      have hlm : ((itemsL l).map (·.1)).length = q + 1 := by rw [List.length_map, ← HNN.out]
      rcases Nat.le_total k (q + 1) with h | h
      · rw [hj, Nat.min_eq_left h]
      · rw [hj, Nat.min_eq_right h, List.take_of_length_le (by omega), List.take_of_length_le (by omega)]
    rw [htk] at hr5
    generalize wholes ((itemsL l).take k) = q5 at *
    have HR3 := Lib.hid (HR3'.out.ext0 hE5); have HR4' := Lib.hid (HR4.out.ext0 hE5); have HR5 := Lib.hid hr5
    have HE5 := Lib.hid (HE4.out.trans' hE5)
    have HTK := Lib.hid htk
    have HJ := Lib.hid hj
    clear hl5 hx5 hr5 hE5 HE4 HR4 HR3' htk hj
    dsimp only
    go_wp2_with fail
    refine (same4_any _ _ _ _ w5 HR3.out HR4'.out).mono ?_
    rintro e w6 ⟨rfl, hE6⟩
    rw [decide_eq_true rfl]
    have HR3 := Lib.hid (HR3.out.ext0 hE6); have HR4 := Lib.hid (HR4'.out.ext0 hE6); have HR5 := Lib.hid (HR5.out.ext0 hE6)
    have HE6 := Lib.hid (HE5.out.trans' hE6)
    clear hE6 HE5 HR4'
    dsimp only
    have hj := HJ.out
    have hjc : j ≤ c4 := by omega
    have tk := fun wx => take59 a4 j (q + 1) c4 hjc wx
    have htj := HR4.out.take j (by omega)
    have HTJ := Lib.hid htj
    clear htj
    have hmin : ((q + 1 : Nat) : Int) < k ∧ j = q + 1 ∨ ¬ ((q + 1 : Nat) : Int) < k ∧ j = k := by omega
    clear hj
    rcases hmin with ⟨hlt, hj⟩ | ⟨hlt, hj⟩
    · subst hj
      go_wp2_with fail
      refine (same4_any _ _ _ _ w6 HR5.out HTJ.out).mono ?_
      rintro e w7 ⟨rfl, hE7⟩
      rw [decide_eq_true rfl]
      have HE7 := Lib.hid (HE6.out.trans' hE7)
      clear hE7 HE6 HR3 HR4 HR5 HTJ
      dsimp only
      go_wp2_with fail
      refine (join29_any ls al ml cl w7 (HR.out.ext0 HE7.out) (by have := HP.out.2.2; omega)).mono ?_
      rintro e w8 ⟨x8, rfl, hx8, hE8⟩
      have HX8 := Lib.hid hx8.bytes
      have HE8 := Lib.hid (HE7.out.trans' hE8)
      obtain ⟨a8, c8, rfl⟩ := own_form hx8
      clear hE8 HE7 hx8
      dsimp only
      go_wp2_with fail
      refine (joinR29_any ls (.slice al ml cl) w8 (HR.out.ext0 HE8.out) (by have := HP.out.2.2; omega)).mono ?_
      rintro e w9 ⟨x9, rfl, hx9, hE9⟩
      have HX9 := Lib.hid hx9.bytes
      have HX8' := Lib.hid (HX8.out.ext0 hE9)
      have HE9 := Lib.hid (HE8.out.trans' hE9)
      obtain ⟨a9, c9, rfl⟩ := own_form hx9
      clear hE9 HE8 hx9 HX8
      dsimp only
      go_wp2_with fail
      refine (same1_any (joinB ls) (joinB ls) _ _ w9 HX8'.out HX9.out).mono ?_
      rintro e w10 ⟨rfl, rfl⟩
      rw [decide_eq_true rfl]
      dsimp only
      go_wp2_with fail
      go_ret
      exact ⟨rfl, HE9.out⟩
    · subst hj
      go_wp2_with fail
      refine (same4_any _ _ _ _ w6 HR5.out HTJ.out).mono ?_
      rintro e w7 ⟨rfl, hE7⟩
      rw [decide_eq_true rfl]
      have HE7 := Lib.hid (HE6.out.trans' hE7)
      clear hE7 HE6 HR3 HR4 HR5 HTJ
      dsimp only
      go_wp2_with fail
      refine (join29_any ls al ml cl w7 (HR.out.ext0 HE7.out) (by have := HP.out.2.2; omega)).mono ?_
      rintro e w8 ⟨x8, rfl, hx8, hE8⟩
      have HX8 := Lib.hid hx8.bytes
      have HE8 := Lib.hid (HE7.out.trans' hE8)
      obtain ⟨a8, c8, rfl⟩ := own_form hx8
      clear hE8 HE7 hx8
      dsimp only
      go_wp2_with fail
      refine (joinR29_any ls (.slice al ml cl) w8 (HR.out.ext0 HE8.out) (by have := HP.out.2.2; omega)).mono ?_
      rintro e w9 ⟨x9, rfl, hx9, hE9⟩
      have HX9 := Lib.hid hx9.bytes
      have HX8' := Lib.hid (HX8.out.ext0 hE9)
      have HE9 := Lib.hid (HE8.out.trans' hE9)
      obtain ⟨a9, c9, rfl⟩ := own_form hx9
      clear hE9 HE8 hx9 HX8
      dsimp only
      go_wp2_with fail
      refine (same1_any (joinB ls) (joinB ls) _ _ w9 HX8'.out HX9.out).mono ?_
      rintro e w10 ⟨rfl, rfl⟩
      rw [decide_eq_true rfl]
      dsimp only
      go_wp2_with fail
      go_ret
      exact ⟨rfl, HE9.out⟩

end Go.Proofs.Ytchejnnfbinclaa
end

section
/- The walk of ScriptCuts. -/
namespace Go.Proofs.Ytchejnnfbinclaa
open Go.RowKit Go.My

theorem and16k (n : Int) : bits .and .i64 n 65535 = (((n % 65536).toNat : Nat) : Int) := by
  have h := i64_mask n 16 (by decide)
  rw [Int.toNat_of_nonneg (by omega)]
  exact h
theorem size31 (w : World) : (sizeOf 5).run Try.prog w = .ok 1 w := by kernel_rfl
theorem take31 (a : Option Addr) (k len cap : Nat) (hk : k ≤ cap) (w : World) : (Instr.sliceAt 31 (.slice a len cap) none (some (.int .i64 k)) none).run Try.prog w = .ok (.slice a k cap) w :=
  run_takeS Try.underlying31 size31 a .i64 k len cap hk w
theorem joinB_take_succ (ls : List (List UInt8)) (k : Nat) (h : k < ls.length) : (joinB (ls.take (k + 1))).length = (joinB (ls.take k)).length + 4 + (ls.getD k []).length := by
  have : ls.take (k + 1) = ls.take k ++ [ls.getD k []] := by
    rw [List.take_add_one, List.getElem?_eq_getElem h]
    simp [List.getD_eq_getElem?_getD, List.getElem?_eq_getElem h]
  rw [this, joinB_append, List.length_append, show joinB [ls.getD k []] = bytesB (ls.getD k []) from by rw [joinB_cons, joinB_nil, List.append_nil], bytesB_length]
  omega

set_option maxRecDepth 100000 in
set_option maxHeartbeats 8000000 in
theorem scriptCuts_fr (ls : List (List UInt8)) (v1 : Value) (cut : Int) (w : World) (hr : IsRowsN w ls v1 ∧ NilOk v1) (_lo : -9223372036854775808 ≤ cut) (_hi : cut ≤ 9223372036854775807) :
    Calls Try.prog 7 #[v1, .int .i64 cut] w fun e w' => e = .returned (.bool true) ∧ Ext No w w' := by
  obtain ⟨hr, -⟩ := hr
  obtain ⟨al, cl, rfl, hmc, hcl⟩ := rows_form hr.rows
  obtain ⟨ml, hml⟩ : ∃ m, m = ls.length := ⟨_, rfl⟩
  rw [← hml] at hr hmc ⊢
  have HML := Lib.hid hml; have HR := Lib.hid hr
  have h7 := and16k cut
  obtain ⟨q, hq⟩ : ∃ q, q = (cut % 65536).toNat := ⟨_, rfl⟩
  rw [← hq] at h7
  clear hml hr hq
  go_enter Try.func7, Try.ntmps7
  go_wp2_with fail
  refine (alive_any w).mono ?_
  rintro e w1 ⟨rfl, hE1⟩
  have HE1 := Lib.hid hE1
  clear hE1
  go_wp2_with fail
  refine (brief_any ls _ w1 (HR.out.rows.ext0 HE1.out)).mono ?_
  rintro e w2 ⟨rfl, t, rfl, ht⟩
  cases t
  · clear ht
    go_wp2_with fail
    go_ret
    exact ⟨rfl, HE1.out⟩
  have hP := brief_le (ht.1 rfl)
  have HP := Lib.hid hP
  clear hP ht
  go_wp2_with fail
  refine (join29_any ls al ml cl w1 (HR.out.ext0 HE1.out) (by have := HP.out.2.2; omega)).mono ?_
  rintro e w2 ⟨x2, rfl, hx2, hE2⟩
  have hb2 := hx2.bytes
  have hn2 := NilOk.own hx2
  obtain ⟨a5, c5, rfl⟩ := own_form hx2
  obtain ⟨n, hn⟩ : ∃ n, n = (joinB ls).length := ⟨_, rfl⟩
  rw [← hn] at hb2 hn2 ⊢
  have hnc := (IsRow.len hb2).2
  have hn20 : n ≤ 2080 := by have := HP.out.2.2; omega
  have HN := Lib.hid hn; have HB := Lib.hid (And.intro hb2 hn2); have HE2 := Lib.hid (HE1.out.trans' hE2)
  clear hn hb2 hn2 hE2 HE1 hx2
  obtain ⟨c, hc⟩ : ∃ c, c = q % (n + 1) := ⟨_, rfl⟩
  have hci : (q : Int) % ((n : Int) + 1) = (c : Int) := by rw [hc]; push_cast; rfl
  have hcn : c ≤ n := by rw [hc]; have := Nat.mod_lt q (show 0 < n + 1 by omega); omega
  have hcc : (c : Int) ≤ c5 := by omega
  have hcc2 : c ≤ c5 := by omega
  clear hc
  have tk := fun wx => take31 a5 c n c5 hcc2 wx
  dsimp only
  go_wp2_with fail
  have HCN := Lib.hid hcn
  have hb3 := HB.out.1.take c hcn
  have hn3 : NilOk (.slice a5 c c5) := fun n' c' he => by simp at he; obtain ⟨rfl, rfl, rfl⟩ := he; exact HB.out.2 _ _ rfl
  refine (itemsS_any ((joinB ls).take c) a5 c c5 1000 w2 hb3 hn3 (by rw [List.length_take]; omega)).mono ?_
  rintro e w3 ⟨x3, rfl, hx3, hE3⟩
  have hr3 := hx3.rowsN.rows
  obtain ⟨a6, c6, rfl, hgc, hc6⟩ := rows_form hr3
  have HE3 := Lib.hid (HE2.out.trans' hE3); have HE23 := Lib.hid hE3
  obtain ⟨g, hg⟩ : ∃ g, g = (bodies ((itemsL ((joinB ls).take c)).take (Int.toNat 1000))).length := ⟨_, rfl⟩
  obtain ⟨p, hp⟩ : ∃ p, p = wholes ((itemsL ((joinB ls).take c)).take (Int.toNat 1000)) := ⟨_, rfl⟩
  rw [← hg] at hr3 hgc ⊢
  rw [← hp]
  have HG := Lib.hid hg; have HPP := Lib.hid hp; have HR3 := Lib.hid hr3
  clear hb3 hn3 hx3 hr3 hE3 HE2 hg hp tk h7
  dsimp only
  go_wp2_with fail
  rw [hci]
  clear hci
  have HR' := Lib.hid (HR.out.ext0 HE3.out)
  go_loopw [8, 9] (fun i j wr => ∃ k e0 : Nat, i = .int .i64 k ∧ j = .int .i64 e0 ∧ wr = w3 ∧ k ≤ ml ∧ e0 = (joinB (ls.take k)).length ∧ e0 ≤ c) (fun i _ _ => ml - (intOf i).toNat)
  case atStart => exact ⟨0, 0, rfl, rfl, rfl, Nat.zero_le _, rfl, Nat.zero_le _⟩
  case round =>
    obtain ⟨k, e0, rfl, rfl, rfl, hk, hel, hec0⟩ := hrel
    have HEL := Lib.hid hel
    clear hel
    by_cases hlt : k < ml
    · have hltI : (k : Int) < ml := by omega
      obtain ⟨bl, ol, xl, rfl, hcl2, hxl, -⟩ := HR'.out.get k hlt
      obtain ⟨axl, cxl, hxlf, -⟩ := id hxl
      obtain ⟨d, hd⟩ : ∃ d, d = (ls.getD k []).length := ⟨_, rfl⟩
      rw [← hd] at hxlf
      subst hxlf
      have hd100 : d ≤ 100 := by
        rw [hd, List.getD_eq_getElem?_getD, List.getElem?_eq_getElem (by have := HML.out; omega)]
        exact HP.out.1 _ (List.getElem_mem _)
      have HD := Lib.hid hd
      clear hd hxl
      by_cases hle : e0 + 4 + d ≤ c
      · have hleI : (e0 : Int) + 4 + d ≤ c := by omega
        go_wp2_with fail
        go_roundw
        case rel => exact ⟨k + 1, e0 + 4 + d, by go_num, by go_num, by trivial, by omega, by rw [joinB_take_succ ls k (by have := HML.out; omega), ← HEL.out, ← HD.out], hle⟩
        case measure => simp [intOf]; omega
      · have hleI : decide ((e0 : Int) + 4 + d ≤ c) = false := by simp; omega
        have HNO := Lib.hid (show k < ls.length → c < (joinB (ls.take k)).length + 4 + (ls.getD k []).length from fun _ => by rw [← HEL.out, ← HD.out]; omega)
        clear HD
        have hit := itemsL_take ls k c (by have := HML.out; omega) (fun x hx => by have := HP.out.1 x hx; omega) (by have := HEL.out; omega) HNO.out (by have := HN.out; have := HCN.out; omega)
        have hll : (ls.take k).length = k := by rw [List.length_take]; have := HML.out; omega
        by_cases hce : c = e0
        · rw [if_pos (by have := HEL.out; omega), List.append_nil] at hit
          have hgk : g = k := by rw [HG.out, hit, List.take_of_length_le (by rw [allW_length, hll]; show k ≤ 1000; have := HML.out; have := HP.out.2.1; omega), bodies_allW, hll]
          have hpk : p = k := by rw [HPP.out, hit, List.take_of_length_le (by rw [allW_length, hll]; show k ≤ 1000; have := HML.out; have := HP.out.2.1; omega), wholes_allW, hll]
          have hr3 := HR3.out
          rw [hit, List.take_of_length_le (by rw [allW_length, hll]; show k ≤ 1000; have := HML.out; have := HP.out.2.1; omega), bodies_allW] at hr3
          have hrk := (HR.out.rows.ext0 HE3.out).take k hk
          have hkc : k ≤ cl := by omega
          have tk := fun wx => take59 (some ⟨bl, ol, none⟩) k ml cl hkc wx
          have HA := Lib.hid hr3; have HB2 := Lib.hid hrk
          subst hce hgk hpk
          clear hit hr3 hrk hll
          clear HG HPP HR3
          go_wp2_with fail
          refine (same4_any _ _ _ _ wr HA.out HB2.out).mono ?_
          rintro e w4 ⟨rfl, hE4⟩
          rw [decide_eq_true rfl]
          have HE4 := Lib.hid (HE3.out.trans' hE4)
          clear hE4 HA HB2
          dsimp only
          go_wp2_with fail
          go_ret
          exact ⟨rfl, HE4.out⟩
        · rw [if_neg (by have := HEL.out; omega)] at hit
          have hbo : bodies (itemsL ((joinB ls).take c)) = ls.take k ++ [((joinB ls).take c).drop e0] := by rw [hit, bodies_append, bodies_allW, HEL.out]; rfl
          have hwo : wholes (itemsL ((joinB ls).take c)) = k := by rw [hit, wholes_append, wholes_allW, hll]; rfl
          have hil : (itemsL ((joinB ls).take c)).length ≤ Int.toNat 1000 := by rw [hit, List.length_append, allW_length, hll]; show k + 1 ≤ 1000; have := HML.out; have := HP.out.2.1; omega
          have hgk : g = k + 1 := by rw [HG.out, List.take_of_length_le hil, hbo, List.length_append, hll]; rfl
          have hpk : p = k := by rw [HPP.out, List.take_of_length_le hil, hwo]
          have hr3 := HR3.out
          rw [List.take_of_length_le hil, hbo] at hr3
          have hgot : (ls.take k ++ [((joinB ls).take c).drop e0]).take k = ls.take k := by rw [List.take_left' hll]
          have hlast : (ls.take k ++ [((joinB ls).take c).drop e0]).getD k [] = ((joinB ls).take c).drop e0 := by
            rw [List.getD_eq_getElem?_getD, List.getElem?_append_right (by omega), hll, Nat.sub_self]; rfl
          have hr3k := hr3.take k (by omega)
          rw [hgot] at hr3k
          have hrk := (HR.out.rows.ext0 HE3.out).take k hk
          obtain ⟨b6, o6, x6, rfl, hc6x, hx6⟩ := hr3.get k (by omega)
          rw [hlast] at hx6
          obtain ⟨ax, cx, hxf, -⟩ := id hx6
          have hb3 := (HB.out.1.ext0 HE23.out).take c HCN.out
          obtain ⟨b5, o5, ha5⟩ : ∃ b o, a5 = some ⟨b, o, none⟩ := by
            obtain ⟨b, o, h, -⟩ := IsRow.get HB.out.1 0 (by have := HCN.out; omega)
            exact ⟨b, o, h⟩
          subst ha5
          have hb4 := hb3.drop e0 (by omega)
          have q1 : ∀ j, Calls Try.prog 27 #[.slice (some ⟨b6, o6, none⟩) k c6, .slice (some ⟨bl, ol, none⟩) k cl] (wr.drewN j) fun e w'' => e = .returned (.bool true) ∧ ∃ i, w'' = wr.drewN i := fun j => by
            have h := quiet_of_Dr (same4_dr _ _ _ _ _ (hr3k.ext0 ((Dr.mk wr j).ext No)) (hrk.ext0 ((Dr.mk wr j).ext No)))
            rw [decide_eq_true rfl] at h; exact h
          have q2 : ∀ j, Calls Try.prog 15 #[x6, .slice (some ⟨b5, o5 + e0, none⟩) (c - e0) (c5 - e0)] (wr.drewN j) fun e w'' => e = .returned (.bool true) ∧ ∃ i, w'' = wr.drewN i := fun j => by
            have h := quiet_of_eq (same1_any _ _ _ _ _ (hx6.ext0 ((Dr.mk wr j).ext No)) (hb4.ext0 ((Dr.mk wr j).ext No)))
            rw [decide_eq_true rfl] at h; exact h
          have HQ1 := Lib.hid q1; have HQ2 := Lib.hid q2
          have hce1 : ¬ e0 = c := fun h => hce h.symm
          have hce2 : ¬ ((e0 : Int) = c) := by omega
          have hec : (e0 : Int) ≤ c := by omega
          have h5e : ¬ c5 = e0 := by have := HCN.out; omega
          have hkc : k ≤ cl := by omega
          have hkc6 : k ≤ c6 := by omega
          have hkc6i : (k : Int) ≤ c6 := by omega
          have hkcl : (k : Int) ≤ cl := by omega
          have hkg : (k : Int) < (g : Int) := by omega
          subst hgk hpk
          generalize HRESTNAME : ((joinB ls).take c).drop e0 = rest at *
          subst hxf
          clear hit hr3 hrk hll hbo hwo hil hgot hlast hr3k hb3 hb4 q1 q2 hx6 HRESTNAME hgc
          clear HG HPP HR3
          go_wp2_with fail
          go_quiet ((first | (go_at_call 27; exact HQ1.out _) | (go_at_call 15; exact HQ2.out _)))
          go_wp2_with fail
          go_ret
          exact ⟨rfl, HE3.out.drewN _⟩
    · have hltI : decide ((k : Int) < ml) = false := by simp; omega
      have HNO := Lib.hid (show k < ls.length → c < (joinB (ls.take k)).length + 4 + (ls.getD k []).length from fun h => absurd h (by have := HML.out; omega))
      have hit := itemsL_take ls k c (by have := HML.out; omega) (fun x hx => by have := HP.out.1 x hx; omega) (by have := HEL.out; omega) HNO.out (by have := HN.out; have := HCN.out; omega)
      have hll : (ls.take k).length = k := by rw [List.length_take]; have := HML.out; omega
      have hce : c = e0 := by
        have h1 := HEL.out
        rw [show ls.take k = ls from List.take_of_length_le (by have := HML.out; omega), ← HN.out] at h1
        have := HCN.out; omega
      · rw [if_pos (by have := HEL.out; omega), List.append_nil] at hit
        have hgk : g = k := by rw [HG.out, hit, List.take_of_length_le (by rw [allW_length, hll]; show k ≤ 1000; have := HML.out; have := HP.out.2.1; omega), bodies_allW, hll]
        have hpk : p = k := by rw [HPP.out, hit, List.take_of_length_le (by rw [allW_length, hll]; show k ≤ 1000; have := HML.out; have := HP.out.2.1; omega), wholes_allW, hll]
        have hr3 := HR3.out
        rw [hit, List.take_of_length_le (by rw [allW_length, hll]; show k ≤ 1000; have := HML.out; have := HP.out.2.1; omega), bodies_allW] at hr3
        have hrk := (HR.out.rows.ext0 HE3.out).take k hk
        have hkc : k ≤ cl := by omega
        have tk := fun wx => take59 al k ml cl hkc wx
        have HA := Lib.hid hr3; have HB2 := Lib.hid hrk
        subst hce hgk hpk
        clear hit hr3 hrk hll
        clear HG HPP HR3
        go_wp2_with fail
        refine (same4_any _ _ _ _ wr HA.out HB2.out).mono ?_
        rintro e w4 ⟨rfl, hE4⟩
        rw [decide_eq_true rfl]
        have HE4 := Lib.hid (HE3.out.trans' hE4)
        clear hE4 HA HB2
        dsimp only
        go_wp2_with fail
        go_ret
        exact ⟨rfl, HE4.out⟩

end Go.Proofs.Ytchejnnfbinclaa
end

section
/- The walk of ScriptJoins. -/
namespace Go.Proofs.Ytchejnnfbinclaa
open Go.RowKit Go.My

theorem rows_app {w : World} {B na nb : Nat} {a b : List (List UInt8)} {f g : Nat → Value} {v : Value} (h : w.ownsRow B 31 1 v (na + nb) ((List.range na).map f ++ (List.range nb).map g)) (ha : na = a.length) (hb : nb = b.length)
    (hf : ∀ i, i < a.length → IsBytes w (a.getD i []) (f i)) (hg : ∀ i, i < b.length → IsBytes w (b.getD i []) (g i)) : IsRows w (a ++ b) v := by
  subst ha hb
  have h1 := IsRow.of_own h
  refine ⟨_, by rw [List.length_append]; exact h1, fun i hi => ?_⟩
  rw [List.length_append] at hi
  by_cases hia : i < a.length
  · have e1 : (a ++ b).getD i [] = a.getD i [] := by simp [List.getD_eq_getElem?_getD, List.getElem?_append_left hia]
    have e2 : ((List.range a.length).map f ++ (List.range b.length).map g).getD i undef = f i := by
      rw [List.getD_eq_getElem?_getD, List.getElem?_append_left (by simpa using hia)]; simp [hia]
    rw [e1, e2]; exact hf i hia
  · have e1 : (a ++ b).getD i [] = b.getD (i - a.length) [] := by simp [List.getD_eq_getElem?_getD, List.getElem?_append_right (show a.length ≤ i by omega)]
    have e2 : ((List.range a.length).map f ++ (List.range b.length).map g).getD i undef = g (i - a.length) := by
      rw [List.getD_eq_getElem?_getD, List.getElem?_append_right (by simp; omega)]
      simp [show i - a.length < b.length by omega]
    rw [e1, e2]; exact hg _ (by omega)
theorem bytes_cell {w : World} {l : List UInt8} {v : Value} (h : IsBytes w l v) : v.oneCell' = true := by
  obtain ⟨a, c, rfl, -⟩ := h; rfl

set_option maxRecDepth 100000 in
set_option maxHeartbeats 8000000 in
theorem scriptJoins_fr (la : List (List UInt8)) (v0 : Value) (lb : List (List UInt8)) (v1 : Value) (w : World) (hr : IsRowsN w la v0 ∧ NilOk v0) (hr' : IsRowsN w lb v1 ∧ NilOk v1) :
    Calls Try.prog 9 #[v0, v1] w fun e w' => e = .returned (.bool true) ∧ Ext No w w' := by
  obtain ⟨hra, hna⟩ := hr
  obtain ⟨hrb, hnb⟩ := hr'
  obtain ⟨aa, ca, rfl, hmca, hca⟩ := rows_form hra.rows
  obtain ⟨ab, cb, rfl, hmcb, hcb⟩ := rows_form hrb.rows
  obtain ⟨ma, hma⟩ : ∃ m, m = la.length := ⟨_, rfl⟩
  obtain ⟨mb, hmb⟩ : ∃ m, m = lb.length := ⟨_, rfl⟩
  rw [← hma] at hra hna hmca ⊢
  rw [← hmb] at hrb hnb hmcb ⊢
  have HM := Lib.hid (And.intro hma hmb); have HRA := Lib.hid (And.intro hra hna); have HRB := Lib.hid (And.intro hrb hnb)
  clear hma hmb hra hna hrb hnb
  go_enter Try.func9, Try.ntmps9
  go_wp2_with fail
  refine (alive_any w).mono ?_
  rintro e w1 ⟨rfl, hE1⟩
  have HE1 := Lib.hid hE1
  clear hE1
  go_wp2_with fail
  refine (brief_any la _ w1 (HRA.out.1.rows.ext0 HE1.out)).mono ?_
  rintro e w2 ⟨rfl, t, rfl, ht⟩
  cases t
  · clear ht
    go_wp2_with fail
    go_ret
    exact ⟨rfl, HE1.out⟩
  have HPA := Lib.hid (brief_le (ht.1 rfl))
  clear ht
  go_wp2_with fail
  refine (brief_any lb _ w1 (HRB.out.1.rows.ext0 HE1.out)).mono ?_
  rintro e w2 ⟨rfl, t, rfl, ht⟩
  cases t
  · clear ht
    go_wp2_with fail
    go_ret
    exact ⟨rfl, HE1.out⟩
  have HPB := Lib.hid (brief_le (ht.1 rfl))
  clear ht
  go_wp2_with fail
  refine (join29_any la aa ma ca w1 (HRA.out.1.ext0 HE1.out) (by have := HPA.out.2.2; omega)).mono ?_
  rintro e w2 ⟨x2, rfl, hx2, hE2⟩
  have hb2 := hx2.bytes
  have hn2 := NilOk.own hx2
  obtain ⟨ax, cx, rfl⟩ := own_form hx2
  obtain ⟨nx, hnx⟩ : ∃ n, n = (joinB la).length := ⟨_, rfl⟩
  rw [← hnx] at hb2 hn2 ⊢
  have hnx20 : nx ≤ 2080 := by have := HPA.out.2.2; omega
  have HNX := Lib.hid hnx; have HX2 := Lib.hid (And.intro hb2 hn2); have HE2 := Lib.hid (HE1.out.trans' hE2)
  clear hnx hb2 hn2 hE2 HE1 hx2
  dsimp only
  go_wp2_with fail
  refine (join29_any lb ab mb cb w2 (HRB.out.1.ext0 HE2.out) (by have := HPB.out.2.2; omega)).mono ?_
  rintro e w3 ⟨x3, rfl, hx3, hE3⟩
  have hb3 := hx3.bytes
  have hn3 := NilOk.own hx3
  obtain ⟨ay, cy, rfl⟩ := own_form hx3
  obtain ⟨ny, hny⟩ : ∃ n, n = (joinB lb).length := ⟨_, rfl⟩
  rw [← hny] at hb3 hn3 ⊢
  have hny20 : ny ≤ 2080 := by have := HPB.out.2.2; omega
  have HNY := Lib.hid hny; have HY3 := Lib.hid (And.intro hb3 hn3); have HX3 := Lib.hid (HX2.out.1.ext0 hE3); have HE3 := Lib.hid (HE2.out.trans' hE3)
  clear hny hb3 hn3 hE3 HE2 hx3
  -- both scripts, one behind the other
  have hxa : Ext No w3 (w3.alloc (.cells #[] 5)) := (Ext.refl No w3).alloc _
  have hrow1 : IsRow (w3.alloc (.cells #[] 5)) (byt (joinB la)) nx (.slice ax nx cx) := by have h := HX3.out.ext0 hxa; unfold IsBytes at h; rw [← HNX.out] at h; exact h
  have hrow2 : ∀ w5, (w3.alloc (.cells #[] 5)).grownBy w5 (Value.slice (some ⟨w3.heap.size, 0, none⟩) 0 0).ownBlock → IsRow w5 (byt (joinB lb)) ny (.slice ay ny cy) ∧ w3.heap.size ≤ w5.heap.size := fun w5 hg => by
    have hx5 : Ext No w3 w5 := hxa.grown hg (fun j hj h => by have : w3.heap.size = j := Option.some.inj hj; omega)
    have h := HY3.out.1.ext0 hx5; unfold IsBytes at h; rw [← HNY.out] at h
    exact ⟨h, by have := hg.size; rw [World.size_alloc] at this; omega⟩
  have HR1 := Lib.hid hrow1; have HR2 := Lib.hid hrow2; have HNA := Lib.hid HX2.out.2.none; have HNB := Lib.hid HY3.out.2.none
  have HN1 := Lib.hid (show 0 + nx ≤ 9223372036854775807 ∧ (0 + nx) * 1 ≤ 140737488355328 ∧ nx + ny ≤ 9223372036854775807 ∧ (nx + ny) * 1 ≤ 140737488355328 by omega)
  have HS3 := Lib.hid (show w3.heap.size ≤ (w3.alloc (.cells #[] 5)).heap.size by simp)
  have HO0 := Lib.hid (World.ownsRow_made (e := 5) (size := 1) w3 #[] 0 (Nat.le_refl _) (by decide) rfl)
  have H1a := Lib.hid (show ∀ i, i < nx → (byt (joinB la) i).oneCell' = true from fun _ _ => rfl)
  have H1b := Lib.hid (show ∀ i, i < ny → (byt (joinB lb) i).oneCell' = true from fun _ _ => rfl)
  clear hxa hrow1 hrow2
  dsimp only
  go_wp2_with (first
    | (at_builtin; refine wpList_appN _ rfl _ _ 31 rfl w3.heap.size 5 _ _ u8_infoJ Try.underlying31 rfl _ _ _ rfl hown _ _ _ (byt (joinB lb)) rfl (HR2.out _ hg).1 HNB.out H1b.out HN1.out.2.2.1 HN1.out.2.2.2 (HR2.out _ hg).2 ?_; intro v7 w7 hown7 hg7; obtain ⟨a7, c7, rfl⟩ := own_form hown7)
    | (at_builtin; refine wpList_appN _ rfl _ _ 31 rfl w3.heap.size 5 _ _ u8_infoJ Try.underlying31 rfl _ _ _ rfl HO0.out _ _ _ (byt (joinB la)) rfl HR1.out HNA.out H1a.out HN1.out.1 HN1.out.2.1 HS3.out ?_; intro v6 w6 hown hg; rw [Nat.zero_add, List.nil_append] at hown; obtain ⟨a6, c6, rfl⟩ := own_form hown))
  have hx37 : Ext No w3 w7 := (((Ext.refl No w3).alloc _).grown hg (fun j hj h => by have : w3.heap.size = j := Option.some.inj hj; omega)).grown hg7 (fun j hj h => by have := (World.ownsRow.lt hown j hj).1; omega)
  have hob : OwnB w7 5 w3.heap.size (joinB la ++ joinB lb) (.slice a7 (nx + ny) c7) := by
    have h := hown7
    rw [HNX.out, HNY.out, byts_range, byts_range, ← byts_append, ← List.length_append] at h
    rw [HNX.out, HNY.out, ← List.length_append]
    exact h
  have HE7 := Lib.hid (HE3.out.trans' hx37); have HX7 := Lib.hid (HX3.out.ext0 hx37); have HY7 := Lib.hid (HY3.out.1.ext0 hx37)
  have hb7 := hob.bytes
  have hn7 := NilOk.own hob
  clear hown hg hown7 hg7 hx37 hob HR1 HR2 HNA HNB HN1 HS3 HO0 H1a H1b HE3 HX3
  refine (itemsS_any (joinB la ++ joinB lb) a7 (nx + ny) c7 1000 w7 hb7 hn7 (by rw [List.length_append]; have := HNX.out; have := HNY.out; omega)).mono ?_
  rintro e w8 ⟨x8, rfl, hx8, hE8⟩
  have hit : itemsL (joinB la ++ joinB lb) = allW (la ++ lb) := by
    rw [← joinB_append]
    exact itemsL_joinB _ (fun x hx => by
      rcases List.mem_append.1 hx with h | h
      · have := HPA.out.1 x h; omega
      · have := HPB.out.1 x h; omega)
  have hlab : (la ++ lb).length = ma + mb := by rw [List.length_append]; have := HM.out; omega
  have hm20 : ma ≤ 20 ∧ mb ≤ 20 := by have := HM.out; have := HPA.out.2.1; have := HPB.out.2.1; omega
  rw [hit, List.take_of_length_le (by rw [allW_length, hlab]; show ma + mb ≤ 1000; omega)] at hx8 ⊢
  rw [wholes_allW, hlab]
  rw [bodies_allW] at hx8
  have hr8 := hx8.rowsN.rows
  obtain ⟨a8, c8, rfl, -⟩ := rows_form hr8
  rw [hlab] at hr8 ⊢
  have HR8 := Lib.hid hr8
  have HE8 := Lib.hid (HE7.out.trans' hE8); have HX8 := Lib.hid (HX7.out.ext0 hE8); have HY8 := Lib.hid (HY7.out.ext0 hE8)
  clear hb7 hn7 hx8 hE8 hit hr8 HE7 HX7 HY7
  dsimp only
  obtain ⟨fa, hfa, hfa'⟩ := HRA.out.1
  obtain ⟨fb, hfb, hfb'⟩ := HRB.out.1
  rw [← HM.out.1] at hfa
  rw [← HM.out.2] at hfb
  have hxa : Ext No w (w8.alloc (.cells #[] 31)) := HE8.out.alloc _
  have hrow1 : IsRow (w8.alloc (.cells #[] 31)) fa ma (.slice aa ma ca) := hfa.ext0 hxa
  have hrow2 : ∀ w5, (w8.alloc (.cells #[] 31)).grownBy w5 (Value.slice (some ⟨w8.heap.size, 0, none⟩) 0 0).ownBlock → IsRow w5 fb mb (.slice ab mb cb) ∧ w8.heap.size ≤ w5.heap.size := fun w5 hg => by
    have hx5 : Ext No w w5 := hxa.grown hg (fun j hj h => by have h1 : w8.heap.size = j := Option.some.inj hj; have := HE8.out.size; omega)
    exact ⟨hfb.ext0 hx5, by have := hg.size; rw [World.size_alloc] at this; omega⟩
  have HR1 := Lib.hid hrow1; have HR2 := Lib.hid hrow2; have HNA := Lib.hid HRA.out.2.none; have HNB := Lib.hid HRB.out.2.none
  have HN1 := Lib.hid (show 0 + ma ≤ 9223372036854775807 ∧ (0 + ma) * 24 ≤ 140737488355328 ∧ ma + mb ≤ 9223372036854775807 ∧ (ma + mb) * 24 ≤ 140737488355328 by omega)
  have HS3 := Lib.hid (show w8.heap.size ≤ (w8.alloc (.cells #[] 31)).heap.size by simp)
  have HO0 := Lib.hid (World.ownsRow_made (e := 31) (size := 1) w8 #[] 0 (Nat.le_refl _) (by decide) rfl)
  have H1a := Lib.hid (show ∀ i, i < ma → (fa i).oneCell' = true from fun i hi => bytes_cell (hfa' i (by have := HM.out.1; omega)).1)
  have H1b := Lib.hid (show ∀ i, i < mb → (fb i).oneCell' = true from fun i hi => bytes_cell (hfb' i (by have := HM.out.2; omega)).1)
  have HFA := Lib.hid hfa'; have HFB := Lib.hid hfb'
  clear hxa hrow1 hrow2 hfa hfb hfa' hfb'
  go_wp2_with (first
    | (at_builtin; refine wpList_appN _ rfl _ _ 59 rfl w8.heap.size 31 _ _ rows_info Try.underlying59 rfl _ _ _ rfl hown _ _ _ fb rfl (HR2.out _ hg).1 HNB.out H1b.out HN1.out.2.2.1 HN1.out.2.2.2 (HR2.out _ hg).2 ?_; intro v9 w9 hown9 hg9; obtain ⟨a9, c9, rfl⟩ := own_form hown9)
    | (at_builtin; refine wpList_appN _ rfl _ _ 59 rfl w8.heap.size 31 _ _ rows_info Try.underlying59 rfl _ _ _ rfl HO0.out _ _ _ fa rfl HR1.out HNA.out H1a.out HN1.out.1 HN1.out.2.1 HS3.out ?_; intro v6 w6 hown hg; rw [Nat.zero_add, List.nil_append] at hown; obtain ⟨a6', c6', rfl⟩ := own_form hown))
  have hx89 : Ext No w8 w9 := (((Ext.refl No w8).alloc _).grown hg (fun j hj h => by have : w8.heap.size = j := Option.some.inj hj; omega)).grown hg9 (fun j hj h => by have := (World.ownsRow.lt hown j hj).1; omega)
  have hE9 := HE8.out.trans' hx89
  have hr9 : IsRows w9 (la ++ lb) (.slice a9 (ma + mb) c9) := rows_app hown9 HM.out.1 HM.out.2 (fun i hi => (HFA.out i hi).1.ext0 hE9) (fun i hi => (HFB.out i hi).1.ext0 hE9)
  have hx9 := HX8.out.ext0 hx89
  have hy9 := HY8.out.ext0 hx89
  have HR9 := Lib.hid hr9; have HR8' := Lib.hid (HR8.out.ext0 hx89); have HX9 := Lib.hid hx9; have HY9 := Lib.hid hy9; have HE9 := Lib.hid hE9
  clear hown hg hown9 hg9 hx89 hE9 hr9 hx9 hy9 HR1 HR2 HNA HNB HN1 HS3 HO0 H1a H1b HFA HFB HR8 HX8 HY8 HE8
  have hz : IsRowsN (w9.alloc (.cells #[.slice ax nx cx, .slice ay ny cy] 31)) [joinB la, joinB lb] (.slice (some ⟨w9.heap.size, 0, none⟩) 2 2) :=
    rows_two (Blk.new w9 #[.slice ax nx cx, .slice ay ny cy] 31) ⟨HX9.out.ext0 ((Ext.refl No w9).alloc _), HX2.out.2⟩ ⟨HY9.out.ext0 ((Ext.refl No w9).alloc _), HY3.out.2⟩
  have hzl : (joinB [joinB la, joinB lb]).length = 8 + nx + ny := by
    rw [joinB_cons, joinB_cons, joinB_nil, List.append_nil, List.length_append, bytesB_length, bytesB_length, ← HNX.out, ← HNY.out]; omega
  refine (join29_any [joinB la, joinB lb] (some ⟨w9.heap.size, 0, none⟩) 2 2 _ hz (by omega)).mono ?_
  rintro e w10 ⟨x10, rfl, hx10, hE10⟩
  have hb10 := hx10.bytes
  have hn10 := NilOk.own hx10
  obtain ⟨az, cz, rfl⟩ := own_form hx10
  rw [hzl] at hb10 hn10 ⊢
  have hE910 : Ext No w9 w10 := ((Ext.refl No w9).alloc _).trans' hE10
  have HR10 := Lib.hid (HR9.out.ext0 hE910); have HR8 := Lib.hid (HR8'.out.ext0 hE910); have HX10 := Lib.hid (HX9.out.ext0 hE910); have HY10 := Lib.hid (HY9.out.ext0 hE910); have HE10 := Lib.hid (HE9.out.trans' hE910)
  have HZ10 := Lib.hid (And.intro hb10 hn10); have HZL := Lib.hid hzl
  clear hz hzl hx10 hE10 hb10 hn10 hE910 HR9 HR8' HX9 HY9 HE9
  dsimp only
  go_wp2_with fail
  refine (itemsS_any (joinB [joinB la, joinB lb]) az (8 + nx + ny) cz 1000 w10 HZ10.out.1 HZ10.out.2 (by have := HZL.out; omega)).mono ?_
  rintro e w11 ⟨x11, rfl, hx11, hE11⟩
  have hit : itemsL (joinB [joinB la, joinB lb]) = allW [joinB la, joinB lb] := itemsL_joinB _ (fun x hx => by
    have h1 := HNX.out; have h2 := HNY.out
    simp only [List.mem_cons, List.not_mem_nil, or_false] at hx
    rcases hx with rfl | rfl
    · omega
    · omega)
  rw [hit, show (allW [joinB la, joinB lb]).take (Int.toNat 1000) = allW [joinB la, joinB lb] from rfl] at hx11 ⊢
  rw [wholes_allW, show [joinB la, joinB lb].length = 2 from rfl]
  rw [bodies_allW] at hx11
  have hr11 := hx11.rowsN
  obtain ⟨a11, c11, rfl, -⟩ := rows_form hr11.rows
  rw [show [joinB la, joinB lb].length = 2 from rfl] at hr11 ⊢
  have HO11 := Lib.hid hr11
  have HE11 := Lib.hid (HE10.out.trans' hE11); have HR11 := Lib.hid (HR10.out.ext0 hE11); have HR8' := Lib.hid (HR8.out.ext0 hE11); have HY11 := Lib.hid (HY10.out.ext0 hE11)
  clear hit hx11 hr11 hE11 HZ10 HZL HR10 HR8 HX10 HY10 HE10
  dsimp only
  go_wp2_with fail
  refine (same4_any (la ++ lb) (la ++ lb) _ _ w11 HR8'.out HR11.out).mono ?_
  rintro e w12 ⟨rfl, hE12⟩
  rw [decide_eq_true rfl]
  have HO12 := Lib.hid (HO11.out.ext0 hE12); have HY12 := Lib.hid (HY11.out.ext0 hE12); have HE12 := Lib.hid (HE11.out.trans' hE12)
  clear hE12 HO11 HR11 HR8' HY11 HE11
  obtain ⟨b1, o1, y0, rfl, hc0, hy0, hyn0⟩ := HO12.out.get 0 (by decide)
  obtain ⟨b1', o1', y1, hbe, hc1, hy1, -⟩ := HO12.out.get 1 (by decide)
  simp only [Option.some.injEq, Addr.mk.injEq, and_true] at hbe
  obtain ⟨rfl, rfl⟩ := hbe
  obtain ⟨a13, c13, rfl, -⟩ := id hy0
  obtain ⟨a14, c14, rfl, -⟩ := id hy1
  rw [show [joinB la, joinB lb].getD 0 [] = joinB la from rfl] at hy0 hyn0 hc0
  rw [show [joinB la, joinB lb].getD 1 [] = joinB lb from rfl] at hy1 hc1
  rw [← HNX.out] at hy0 hyn0 hc0
  rw [← HNY.out] at hy1 hc1
  rw [Nat.add_zero] at hc0
  have H0 := Lib.hid (And.intro hy0 hyn0); have H1 := Lib.hid hy1
  clear hy0 hyn0 hy1
  dsimp only
  go_wp2_with fail
  refine (itemsS_any (joinB la) a13 nx c13 1000 w12 H0.out.1 H0.out.2 (by have := HNX.out; omega)).mono ?_
  rintro e w13 ⟨x13, rfl, hx13, hE13⟩
  have hit : itemsL (joinB la) = allW la := itemsL_joinB _ (fun x hx => by have := HPA.out.1 x hx; omega)
  rw [hit, List.take_of_length_le (show (allW la).length ≤ Int.toNat 1000 by rw [allW_length]; show _ ≤ 1000; have := HM.out; omega)] at hx13 ⊢
  rw [wholes_allW, ← HM.out.1]
  rw [bodies_allW] at hx13
  have hr13 := hx13.rowsN.rows
  obtain ⟨a15, c15, rfl, -⟩ := rows_form hr13
  rw [← HM.out.1] at hr13 ⊢
  have hc1' : w13.cell? ⟨b1, o1 + 1, none⟩ = some (.slice a14 ny c14) := by rw [hE13.cell (World.block_lt_of_cell? _ _ hc1) (fun s => s)]; exact hc1
  have HR13 := Lib.hid hr13; have HE13 := Lib.hid (HE12.out.trans' hE13); have H1' := Lib.hid (H1.out.ext0 hE13); have HY13 := Lib.hid (HY12.out.ext0 hE13)
  clear hit hx13 hr13 hE13 hc0 hc1 H0 H1 HO12 HY12 HE12
  dsimp only
  go_wp2_with fail
  refine (same4_any la la _ _ w13 HR13.out (HRA.out.1.rows.ext0 HE13.out)).mono ?_
  rintro e w14 ⟨rfl, hE14⟩
  rw [decide_eq_true rfl]
  have hc2' : w14.cell? ⟨b1, o1 + 1, none⟩ = some (.slice a14 ny c14) := by rw [hE14.cell (World.block_lt_of_cell? _ _ hc1') (fun s => s)]; exact hc1'
  have HE14 := Lib.hid (HE13.out.trans' hE14); have H1 := Lib.hid (H1'.out.ext0 hE14); have HY14 := Lib.hid (HY13.out.ext0 hE14)
  clear hE14 hc1' H1' HY13 HE13 HR13
  dsimp only
  go_wp2_with fail
  refine (same1_any (joinB lb) (joinB lb) _ _ w14 H1.out HY14.out).mono ?_
  rintro e w15 ⟨rfl, rfl⟩
  rw [decide_eq_true rfl]
  dsimp only
  go_wp2_with fail
  go_ret
  exact ⟨rfl, HE14.out⟩

end Go.Proofs.Ytchejnnfbinclaa
end

section
/- Flat contracts on commands and answers; the walk of ScriptWrites. Printed by wip/mkwrites.py. -/
namespace Go.Proofs.Ytchejnnfbinclaa
open Go.RowKit Go.My

theorem few_flat (kind n : Int) (who : Nat) (flag : Bool) (name host : List UInt8) (files : List FileL) (last days day within : Int) (tag : List UInt8) (bits : List Bool) (vf vb : Value) (w : World) (hf : IsFiles w files vf) (hb : IsBools w bits vb) :
    Calls Try.prog 11 #[.agg #[.int .i64 kind, .int .i64 n, .int .u64 (who : Nat), .bool flag, .string (strB name), .string (strB host), vf, .int .i64 last, .int .i64 days, .int .i64 day, .int .i64 within, .string (strB tag), vb]] w (FewTold ⟨kind, n, who, flag, name, host, files, last, days, day, within, tag, bits⟩ w) := few29_any ⟨kind, n, who, flag, name, host, files, last, days, day, within, tag, bits⟩ vf vb w hf hb
theorem encode_flat (kind n : Int) (who : Nat) (flag : Bool) (name host : List UInt8) (files : List FileL) (last days day within : Int) (tag : List UInt8) (bits : List Bool) (vf vb : Value) (w : World) (hf : IsFiles w files vf) (hb : IsBools w bits vb) (hwho : who ≤ 18446744073709551615) (hl : 200 + name.length + host.length + tag.length + bits.length + (filesB files).length ≤ 1099511627776) :
    Calls Try.prog 12 #[.agg #[.int .i64 kind, .int .i64 n, .int .u64 (who : Nat), .bool flag, .string (strB name), .string (strB host), vf, .int .i64 last, .int .i64 days, .int .i64 day, .int .i64 within, .string (strB tag), vb]] w (EncTold ⟨kind, n, who, flag, name, host, files, last, days, day, within, tag, bits⟩ w) := encode_any ⟨kind, n, who, flag, name, host, files, last, days, day, within, tag, bits⟩ vf vb w hf hb hwho hl
theorem command_flat (kind n : Int) (who : Nat) (flag : Bool) (name host : List UInt8) (last days day within : Int) (tag : List UInt8) (vf vb : Value) (w : World) (hf : ∃ a n c, vf = .slice a n c) (hb : ∃ a n c, vb = .slice a n c) :
    Calls Try.prog 14 #[.agg #[.int .i64 kind, .int .i64 n, .int .u64 (who : Nat), .bool flag, .string (strB name), .string (strB host), vf, .int .i64 last, .int .i64 days, .int .i64 day, .int .i64 within, .string (strB tag), vb]] w fun e w' => e = .returned (.agg #[.int .i64 kind, .int .i64 n, .int .u64 (who : Nat), .bool flag, .string (strB name), .string (strB host), vf, .int .i64 last, .int .i64 days, .int .i64 day, .int .i64 within, .string (strB tag), vb]) ∧ Ext No w w' := command_any ⟨kind, n, who, flag, name, host, [], last, days, day, within, tag, []⟩ vf vb w hf hb
theorem slice_ex (a : Option Addr) (n c : Nat) : ∃ a' n' c', Value.slice a n c = .slice a' n' c' := ⟨a, n, c, rfl⟩
theorem files_form {w : World} {fs : List FileL} {v : Value} (h : IsFiles w fs v) : ∃ a n c, v = .slice a n c := by obtain ⟨a, c, h, -⟩ := h; exact ⟨a, _, c, h⟩
theorem bools_form {w : World} {bs : List Bool} {v : Value} (h : IsBools w bs v) : ∃ a n c, v = .slice a n c := by obtain ⟨a, c, h, -⟩ := h; exact ⟨a, _, c, h⟩
theorem strs_form {w : World} {ns : List (List UInt8)} {v : Value} (h : IsStrs w ns v) : ∃ a n c, v = .slice a n c := by obtain ⟨a, c, h, -⟩ := h; exact ⟨a, _, c, h⟩
theorem IsBools.ext0 {w w' : World} {bs : List Bool} {v : Value} (h : IsBools w bs v) (x : Ext No w w') : IsBools w' bs v := IsRow.ext0 h x
theorem IsStrs.ext0 {w w' : World} {ns : List (List UInt8)} {v : Value} (h : IsStrs w ns v) (x : Ext No w w') : IsStrs w' ns v := IsRow.ext0 h x
theorem small_le {fs : List FileL} (h : SmallP fs) : fs.length ≤ 520 ∧ (filesB fs).length ≤ 40000000 := by
  have hl : fs.length ≤ 520 := by have := h.2; omega
  have h1 : ∀ ks : List FileL, (∀ f ∈ ks, f.1.length ≤ 130 ∧ f.2.length ≤ 65600) → ((ks.map fileB).flatten).length ≤ ks.length * 66000 := by
    intro ks
    induction ks with
    | nil => intro _; simp
    | cons k ks ih =>
      intro hk
      have := ih (fun x hx => hk x (List.mem_cons_of_mem _ hx))
      have hk0 := hk k (List.mem_cons_self ..)
      rw [List.map_cons, List.flatten_cons, List.length_append, List.length_cons]
      unfold fileB
      rw [List.length_append, bytesB_length, bytesB_length]
      unfold fileB at this
      omega
  have h2 := h1 fs (fun f hf => by
    obtain ⟨i, hi, rfl⟩ := List.mem_iff_getElem.1 hf
    have := h.1 i hi
    rw [List.getD_eq_getElem?_getD, List.getElem?_eq_getElem hi] at this
    exact ⟨this.1, this.2.2⟩)
  refine ⟨hl, ?_⟩
  unfold filesB
  rw [List.length_append, numB_length]
  omega
theorem few_le {c : CmdI} (h : FewP c) : 200 + c.name.length + c.host.length + c.tag.length + c.bits.length + (filesB c.files).length ≤ 1000000000 := by
  obtain ⟨h1, h2, h3, h4, h5⟩ := h
  have := small_le h1
  omega

set_option maxRecDepth 100000 in
set_option maxHeartbeats 8000000 in
theorem scriptWrites_fr (c : CmdI) (v : Value) (w : World) (h : IsCmdA w c v) :
    Calls Try.prog 3 #[v] w fun e w' => e = .returned (.bool true) ∧ Ext No w w' := by
  obtain ⟨vf, vb, rfl, hf, hb, hwho, -⟩ := h
  obtain ⟨kind, n, who, flag, name, host, files, last, days, day, within, tag, bits⟩ := c
  obtain ⟨af, nf, cf, rfl⟩ := files_form hf
  obtain ⟨ab, nb, cb, rfl⟩ := bools_form hb
  dsimp only at hf hb hwho
  unfold cmdVal
  dsimp only
  have HF := Lib.hid hf; have HBB := Lib.hid hb; have HWHO := Lib.hid (show who ≤ 18446744073709551615 by omega)
  have hx : Ext No w (w.alloc (.cells #[.int .i64 kind, .int .i64 n, .int .u64 (who : Nat), .bool flag, .string (strB name), .string (strB host), .slice af nf cf, .int .i64 last, .int .i64 days, .int .i64 day, .int .i64 within, .string (strB tag), .slice ab nb cb] 28)) := (Ext.refl No w).alloc _
  have hB := Blk.new w #[.int .i64 kind, .int .i64 n, .int .u64 (who : Nat), .bool flag, .string (strB name), .string (strB host), .slice af nf cf, .int .i64 last, .int .i64 days, .int .i64 day, .int .i64 within, .string (strB tag), .slice ab nb cb] 28
  have HX := Lib.hid hx; have HB := Lib.hid hB; clear hx hB hf hb hwho
  go_enter Try.func3, Try.ntmps3
  go_wp2_with fail
  refine (alive_any _).mono ?_
  rintro e w1 ⟨rfl, hx1⟩
  have HX1 := Lib.hid (HX.out.trans' hx1); have HB1 := Lib.hid (HB.out.ext hx1 (fun x => x)); clear hx1 HX HB
  generalize w.heap.size = pb at *
  have hd0 := HB1.out.cell 0; have hd1 := HB1.out.cell 1; have hd2 := HB1.out.cell 2; have hd3 := HB1.out.cell 3; have hd4 := HB1.out.cell 4; have hd5 := HB1.out.cell 5; have hd6 := HB1.out.cell 6; have hd7 := HB1.out.cell 7; have hd8 := HB1.out.cell 8; have hd9 := HB1.out.cell 9; have hd10 := HB1.out.cell 10; have hd11 := HB1.out.cell 11; have hd12 := HB1.out.cell 12
  simp only [List.getElem?_toArray, List.getElem?_cons_succ, List.getElem?_cons_zero] at hd0 hd1 hd2 hd3 hd4 hd5 hd6 hd7 hd8 hd9 hd10 hd11 hd12
  go_wp2_with fail
  clear hd0 hd1 hd2 hd3 hd4 hd5 hd6 hd7 hd8 hd9 hd10 hd11 hd12
  refine (few_flat kind n who flag name host files last days day within tag bits _ _ w1 (HF.out.ext0 HX1.out) (HBB.out.ext0 HX1.out)).mono ?_
  rintro e w2 ⟨hx2, t, rfl, ht⟩
  have HX2 := Lib.hid (HX1.out.trans' hx2); have HB2 := Lib.hid (HB1.out.ext hx2 (fun x => x)); clear hx2 HX1 HB1
  cases t
  · clear ht
    dsimp only
    go_wp2_with fail
    go_ret
    exact ⟨rfl, HX2.out⟩
  have HP := Lib.hid (few_le (ht.1 rfl))
  clear ht
  have hd0 := HB2.out.cell 0; have hd1 := HB2.out.cell 1; have hd2 := HB2.out.cell 2; have hd3 := HB2.out.cell 3; have hd4 := HB2.out.cell 4; have hd5 := HB2.out.cell 5; have hd6 := HB2.out.cell 6; have hd7 := HB2.out.cell 7; have hd8 := HB2.out.cell 8; have hd9 := HB2.out.cell 9; have hd10 := HB2.out.cell 10; have hd11 := HB2.out.cell 11; have hd12 := HB2.out.cell 12
  simp only [List.getElem?_toArray, List.getElem?_cons_succ, List.getElem?_cons_zero] at hd0 hd1 hd2 hd3 hd4 hd5 hd6 hd7 hd8 hd9 hd10 hd11 hd12
  dsimp only
  go_wp2_with fail
  clear hd0 hd1 hd2 hd3 hd4 hd5 hd6 hd7 hd8 hd9 hd10 hd11 hd12
  refine (encode_flat kind n who flag name host files last days day within tag bits _ _ w2 (HF.out.ext0 HX2.out) (HBB.out.ext0 HX2.out) HWHO.out (Nat.le_trans HP.out (by decide))).mono ?_
  rintro e w3 ⟨hx3, hcase⟩
  have HX3 := Lib.hid (HX2.out.trans' hx3); have HB3 := Lib.hid (HB2.out.ext hx3 (fun x => x)); clear hx3 HX2 HB2
  have HCK := Lib.hid (fun W hw hz => checkR_flat kind n who flag name host files last days day within tag bits (.slice af nf cf) (.slice ab nb cb) W hw hz)
  have HBY := Lib.hid (fun W hw hz => bytesR29_flat kind n who flag name host files last days day within tag bits (.slice af nf cf) (.slice ab nb cb) W hw hz HWHO.out (Nat.le_trans HP.out (by decide)))
  generalize checkN ⟨kind, n, who, flag, name, host, files, last, days, day, within, tag, bits⟩ = k at *
  generalize cmdB ⟨kind, n, who, flag, name, host, files, last, days, day, within, tag, bits⟩ = lb at *
  have hd0 := HB3.out.cell 0; have hd1 := HB3.out.cell 1; have hd2 := HB3.out.cell 2; have hd3 := HB3.out.cell 3; have hd4 := HB3.out.cell 4; have hd5 := HB3.out.cell 5; have hd6 := HB3.out.cell 6; have hd7 := HB3.out.cell 7; have hd8 := HB3.out.cell 8; have hd9 := HB3.out.cell 9; have hd10 := HB3.out.cell 10; have hd11 := HB3.out.cell 11; have hd12 := HB3.out.cell 12
  simp only [List.getElem?_toArray, List.getElem?_cons_succ, List.getElem?_cons_zero] at hd0 hd1 hd2 hd3 hd4 hd5 hd6 hd7 hd8 hd9 hd10 hd11 hd12
  rcases hcase with ⟨rfl, x3, rfl, hx⟩ | ⟨hk, rfl⟩
  · have hbx := hx.bytes
    obtain ⟨ax, cx, rfl⟩ := own_form hx
    have HBX := Lib.hid hbx
    clear hx hbx
    dsimp only
    go_wp2_with fail
    refine (command_flat kind n who flag name host last days day within tag _ _ w3 (slice_ex _ _ _) (slice_ex _ _ _)).mono ?_
    rintro e w4 ⟨rfl, hx4⟩
    have HX4 := Lib.hid (HX3.out.trans' hx4); have HB4 := Lib.hid (HB3.out.ext hx4 (fun x => x)); clear HX3 HB3 hd0 hd1 hd2 hd3 hd4 hd5 hd6 hd7 hd8 hd9 hd10 hd11 hd12
    dsimp only
    go_wp2_with fail
    refine (HCK.out w4 (HF.out.ext0 HX4.out) (HBB.out.ext0 HX4.out)).mono ?_
    rintro e w5 ⟨rfl, hx5⟩
    have HX5 := Lib.hid (HX4.out.trans' hx5); have HB5 := Lib.hid (HB4.out.ext hx5 (fun x => x)); clear HX4 HB4
    have HBX5 := Lib.hid ((HBX.out.ext0 hx4).ext0 hx5)
    clear hx4 hx5 HBX
    have hd0 := HB5.out.cell 0; have hd1 := HB5.out.cell 1; have hd2 := HB5.out.cell 2; have hd3 := HB5.out.cell 3; have hd4 := HB5.out.cell 4; have hd5 := HB5.out.cell 5; have hd6 := HB5.out.cell 6; have hd7 := HB5.out.cell 7; have hd8 := HB5.out.cell 8; have hd9 := HB5.out.cell 9; have hd10 := HB5.out.cell 10; have hd11 := HB5.out.cell 11; have hd12 := HB5.out.cell 12
    simp only [List.getElem?_toArray, List.getElem?_cons_succ, List.getElem?_cons_zero] at hd0 hd1 hd2 hd3 hd4 hd5 hd6 hd7 hd8 hd9 hd10 hd11 hd12
    dsimp only
    go_wp2_with fail
    clear hd0 hd1 hd2 hd3 hd4 hd5 hd6 hd7 hd8 hd9 hd10 hd11 hd12
    refine (command_flat kind n who flag name host last days day within tag _ _ w5 (slice_ex _ _ _) (slice_ex _ _ _)).mono ?_
    rintro e w6 ⟨rfl, hx6⟩
    have HX6 := Lib.hid (HX5.out.trans' hx6); have HBX6 := Lib.hid (HBX5.out.ext0 hx6); clear HX5 HB5 hx6 HBX5
    dsimp only
    go_wp2_with fail
    refine (HBY.out w6 (HF.out.ext0 HX6.out) (HBB.out.ext0 HX6.out)).mono ?_
    rintro e w7 ⟨x7, rfl, hx7, hE7⟩
    have hb7 := hx7.bytes
    obtain ⟨a7, c7, rfl⟩ := own_form hx7
    have HX7 := Lib.hid (HX6.out.trans' hE7); have HBX7 := Lib.hid (HBX6.out.ext0 hE7); have HB7 := Lib.hid hb7
    clear hE7 hx7 hb7 HX6 HBX6
    dsimp only
    go_wp2_with fail
    refine (same1_any lb lb _ _ w7 HBX7.out HB7.out).mono ?_
    rintro e w8 ⟨rfl, rfl⟩
    rw [decide_eq_true rfl]
    dsimp only
    go_wp2_with fail
    go_ret
    exact ⟨rfl, HX7.out⟩
  · dsimp only
    go_wp2_with fail
    refine (command_flat kind n who flag name host last days day within tag _ _ w3 (slice_ex _ _ _) (slice_ex _ _ _)).mono ?_
    rintro e w4 ⟨rfl, hx4⟩
    have HX4 := Lib.hid (HX3.out.trans' hx4); have HB4 := Lib.hid (HB3.out.ext hx4 (fun x => x)); clear HX3 HB3 hd0 hd1 hd2 hd3 hd4 hd5 hd6 hd7 hd8 hd9 hd10 hd11 hd12
    dsimp only
    go_wp2_with fail
    refine (HCK.out w4 (HF.out.ext0 HX4.out) (HBB.out.ext0 HX4.out)).mono ?_
    rintro e w5 ⟨rfl, hx5⟩
    have HX5 := Lib.hid (HX4.out.trans' hx5); have HB5 := Lib.hid (HB4.out.ext hx5 (fun x => x)); clear HX4 HB4
    clear hx4 hx5
    dsimp only
    go_wp2_with fail
    go_ret
    exact ⟨rfl, HX5.out⟩

end Go.Proofs.Ytchejnnfbinclaa
end

section
/- The head of a region that draws its order and whose operations only add memory and may be guarded: each operation told once. No program in sight. Printed by wip/mkmonog.py. -/
namespace Go.My
open Go.RowKit

section
variable {P : Program}
/-- the head of a region: each operation fills a temporary of its own; a guarded one waits for its guard; D tells which are done -/
def headFormG (ops : Array Oper) (h n : Nat) (D : Nat → Bool) : Bool :=
  (List.range h).all fun i => match ops[i]? with
    | none => false
    | some o => (match o.guard with | none => D i | some gb => decide (gb.1 < h) && o.after.any (fun e => Region.binds .any e && e.on == gb.1)) && (match o.dst with | none => false | some d => decide (d < n)) && (List.range h).all (fun j => j == i || slotOf ops j != slotOf ops i) && o.after.all (fun e => !Region.binds .any e || decide (e.on < i))
theorem headFormG_spec {ops : Array Oper} {h n i : Nat} {o : Oper} {D : Nat → Bool} (hf : headFormG ops h n D = true) (hi : i < h) (ho : ops[i]? = some o) :
    (o.guard = none ∧ D i = true ∨ ∃ g b, o.guard = some (g, b) ∧ g < h ∧ ∃ e ∈ o.after, Region.binds .any e = true ∧ e.on = g) ∧ (∃ d, o.dst = some d ∧ d < n ∧ d = slotOf ops i) ∧ (∀ j, j < h → j ≠ i → slotOf ops j ≠ slotOf ops i) ∧ (∀ e ∈ o.after, Region.binds .any e = true → e.on < i) := by
  unfold headFormG at hf
  rw [List.all_eq_true] at hf
  have h1 := hf i (List.mem_range.2 hi)
  simp only [ho, Bool.and_eq_true] at h1
  obtain ⟨⟨⟨h2, h3⟩, h4⟩, h5⟩ := h1
  refine ⟨?_, ?_, ?_, ?_⟩
  · cases hg : o.guard with
    | none => rw [hg] at h2; exact .inl ⟨rfl, h2⟩
    | some gb =>
      obtain ⟨g, b⟩ := gb
      rw [hg] at h2
      simp only [Bool.and_eq_true, decide_eq_true_eq] at h2
      obtain ⟨e, he, hb⟩ := Array.any_eq_true'.1 h2.2
      simp only [Bool.and_eq_true, beq_iff_eq] at hb
      exact .inr ⟨g, b, rfl, h2.1, e, he, hb.1, hb.2⟩
  · cases hd : o.dst with
    | none => rw [hd] at h3; cases h3
    | some d => rw [hd] at h3; exact ⟨d, rfl, by simpa using h3, by simp [slotOf, ho, hd]⟩
  · intro j hj hne
    rw [List.all_eq_true] at h4
    have := h4 j (List.mem_range.2 hj)
    simp only [Bool.or_eq_true, beq_iff_eq, bne_iff_ne] at this
    rcases this with h | h
    · exact absurd h hne
    · exact h
  · intro e he hb
    have := Array.all_eq_true_iff_forall_mem.1 h5 e he
    simpa [hb] using this
/-- what a guard has told -/
def GuardOk (V : Nat → Value → World → Prop) (d : Bool) (o : Oper) : Prop :=
  match o.guard with
  | none => True
  | some gb => ∀ v w, V gb.1 v w → v = .bool (if d then gb.2 else !gb.2)
theorem yielded_of {ops : Array Oper} {tmps : Array Value} {g d : Nat} {o : Oper} {c : Bool} (ho : ops[g]? = some o) (hd : o.dst = some d) (h : tmps.getD (slotOf ops g) undef = .bool c) : yielded ops tmps g = some c := by
  have hs : slotOf ops g = d := by simp [slotOf, ho, hd]
  rw [hs] at h
  unfold yielded
  rw [ho, Option.bind_some, hd, Option.bind_some]
  rw [Array.getD_eq_getD_getElem?] at h
  cases ht : tmps[d]? with
  | none => rw [ht] at h; cases h
  | some v => rw [ht] at h; simp only [Option.getD_some] at h; subst h; rfl
def HeadStepsG (P : Program) (D : Nat → Bool) (S : Nat → Prop) (ops : Array Oper) (h : Nat) (w0 : World) (a0 : Act) (V : Nat → Value → World → Prop) (Q : Exit → Act → World → Prop) : Nat → List Oper → Prop
  | _, [] => True
  | i, o :: os => ((D i = true → HeadStep P S ops h w0 a0 V Q i o) ∧ (D i = false → ∀ w, V i undef w) ∧ GuardOk V (D i) o) ∧ HeadStepsG P D S ops h w0 a0 V Q (i + 1) os
theorem HeadStepsG.get {D : Nat → Bool} {S : Nat → Prop} {ops : Array Oper} {h : Nat} {w0 : World} {a0 : Act} {V : Nat → Value → World → Prop} {Q : Exit → Act → World → Prop} : ∀ (os : List Oper) (i : Nat), HeadStepsG P D S ops h w0 a0 V Q i os → ∀ j o, os[j]? = some o → (D (i + j) = true → HeadStep P S ops h w0 a0 V Q (i + j) o) ∧ (D (i + j) = false → ∀ w, V (i + j) undef w) ∧ GuardOk V (D (i + j)) o := by
  intro os
  induction os with
  | nil => intro i _ j o h; simp at h
  | cons x os ih =>
    intro i hh j o hj
    cases j with
    | zero => simp at hj; subst hj; exact hh.1
    | succ j => rw [show i + (j + 1) = (i + 1) + j by omega]; exact ih (i + 1) hh.2 j o (by simpa using hj)
theorem HeadStepsG.nil {D : Nat → Bool} {S : Nat → Prop} {ops : Array Oper} {h : Nat} {w0 : World} {a0 : Act} {V : Nat → Value → World → Prop} {Q : Exit → Act → World → Prop} {i : Nat} : HeadStepsG P D S ops h w0 a0 V Q i [] := trivial
/-- an operation that is done -/
theorem HeadStepsG.cons {D : Nat → Bool} {S : Nat → Prop} {ops : Array Oper} {h : Nat} {w0 : World} {a0 : Act} {V : Nat → Value → World → Prop} {Q : Exit → Act → World → Prop} {i : Nat} {o : Oper} {os : List Oper} (hD : D i = true) (hG : GuardOk V true o) (h1 : HeadStep P S ops h w0 a0 V Q i o) (h2 : HeadStepsG P D S ops h w0 a0 V Q (i + 1) os) : HeadStepsG P D S ops h w0 a0 V Q i (o :: os) :=
  ⟨⟨fun _ => h1, fun h => (by rw [hD] at h; cases h), by rw [hD]; exact hG⟩, h2⟩
/-- an operation that its guard leaves out -/
theorem HeadStepsG.skip {D : Nat → Bool} {S : Nat → Prop} {ops : Array Oper} {h : Nat} {w0 : World} {a0 : Act} {V : Nat → Value → World → Prop} {Q : Exit → Act → World → Prop} {i : Nat} {o : Oper} {os : List Oper} (hD : D i = false) (hG : GuardOk V false o) (h1 : ∀ w, V i undef w) (h2 : HeadStepsG P D S ops h w0 a0 V Q (i + 1) os) : HeadStepsG P D S ops h w0 a0 V Q i (o :: os) :=
  ⟨⟨fun h => (by rw [hD] at h; cases h), fun _ => h1, by rw [hD]; exact hG⟩, h2⟩
theorem wpAny_headMG {D : Nat → Bool} {S : Nat → Prop} {l : List Oper} {h : Nat} {w0 : World} {a0 : Act} {V : Nat → Value → World → Prop} {Q : Exit → Act → World → Prop} (hform : headFormG l.toArray h a0.tmps.size D = true)
    (hs : Region.sinkB .any l.toArray h = true) (hc : Region.chainB .any l.toArray h = true) (hlt : h < l.length) (hq : Region.seqB .any l.toArray (l.length - h) h (headDone h l.length) = true)
    (hV : ∀ i v w w', V i v w → Ext S w w' → V i v w') (hstep : HeadStepsG P D S l.toArray h w0 a0 V Q 0 (l.take h))
    (hend : ∀ a w, Ext S w0 w → a.defers = a0.defers → a.tmps.size = a0.tmps.size → (∀ t, ((List.range h).all fun j => slotOf l.toArray j != t) = true → a.tmps.getD t undef = a0.tmps.getD t undef) → (∀ i, i < h → V i (a.tmps.getD (slotOf l.toArray i) undef) w) → wpList P l.toArray Q (l.drop h) a w) :
    ∀ (f : Nat) (listed : Array Bool) (a : Act) (w : World), HeadSt S l.toArray h w0 a0 V listed a w → HeadInv .any l.toArray h listed → listed.toList.countP (fun b => !b) = f + (l.length - h) → wpAny P .any l.toArray Q (f + (l.length - h)) listed a w := by
  have hsz : l.toArray.size = l.length := by simp
  -- how many of the tail are not done
  have hcnt : (headDone h l.length).toList.countP (fun b => !b) = l.length - h := by
    simp only [headDone, List.countP_map]
    have e : ∀ m, h ≤ m → (List.range m).countP ((fun b => !b) ∘ fun i => decide (i < h)) = m - h := by
      intro m hm
      induction m with
      | zero => simp
      | succ m ih =>
        rw [List.range_succ, List.countP_append]
        by_cases hmh : h ≤ m
        · rw [ih hmh]
          have : ¬ m < h := by omega
          simp [this]; omega
        · have e1 : m + 1 = h := by omega
          have : (List.range m).countP ((fun b => !b) ∘ fun i => decide (i < h)) = 0 := by
            rw [List.countP_eq_zero]
            intro x hx
            have := List.mem_range.1 hx
            simp; omega
          rw [this]
          have : m < h := by omega
          simp [this]; omega
    exact e l.length (by omega)
  intro f
  induction f with
  | zero =>
    intro listed a w st inv hcn
    have hall : ∀ i, i < h → i < l.toArray.size → listed.getD i false = true := by
      intro i hi hi2
      cases hv : listed.getD i false with
      | true => rfl
      | false =>
        exfalso
        have hil : i < listed.size := by rw [inv.size]; exact hi2
        have hpos : ∀ (L : List Bool) (k : Nat), k < h → h ≤ L.length → L[k]? = some false → (∀ t, h ≤ t → t < L.length → L[t]? = some false) → L.length - h < L.countP (fun b => !b) := by
          intro L k hk hL hkf ht
          have e1 : L = L.take h ++ L.drop h := (List.take_append_drop h L).symm
          rw [e1, List.countP_append]
          have c2 : (L.drop h).countP (fun b => !b) = L.length - h := by
            rw [List.countP_eq_length.2, List.length_drop]
            intro b hb
            obtain ⟨j, hj, rfl⟩ := List.getElem_of_mem hb
            rw [List.length_drop] at hj
            have := ht (h + j) (by omega) (by omega)
            rw [List.getElem_drop]
            rw [List.getElem?_eq_getElem (by omega)] at this
            simpa using this
          have c1 : 0 < (L.take h).countP (fun b => !b) := by
            rw [List.countP_pos_iff]
            refine ⟨false, ?_, rfl⟩
            rw [List.mem_iff_getElem?]
            exact ⟨k, by rw [List.getElem?_take, if_pos hk]; exact hkf⟩
          rw [← e1, c2]; omega
        have := hpos listed.toList i hi (by simp [inv.size]; omega) (by
          have : listed[i] = false := by simpa [hil] using hv
          simp [hil, this]) (fun t ht1 ht2 => by
          have ht3 : t < l.toArray.size := by rw [← inv.size]; simpa using ht2
          have := inv.tail t ht1 ht3
          have ht4 : t < listed.size := by simpa using ht2
          have h5 : listed[t] = false := by simpa [ht4] using this
          simp [ht4, h5])
        have hl : listed.toList.length = l.length := by simp [inv.size]
        rw [hl] at this
        omega
    have e := headDone_eq inv hall
    rw [hsz] at e
    rw [Nat.zero_add]
    have hdl : (l.drop h).length = l.length - h := by simp
    have := wpAny_of_seq (P := P) (ops := l.toArray) (md := .any) (Q' := Q) (l.drop h) h listed a w (fun j => by simp) (by rw [hdl, e]; exact hq)
      (hend a w st.ext st.defers st.size st.same (fun i hi => st.vals i hi (hall i hi (by rw [hsz]; omega))))
    rw [hdl] at this
    exact this
  | succ f ih =>
    intro listed a w st inv hcn
    -- some operation of the head is not done
    obtain ⟨i0, hi0, hi0f⟩ : ∃ i, i < h ∧ listed.getD i true = false := by
      by_cases hex : ∃ i, i < h ∧ listed.getD i true = false
      · exact hex
      · exfalso
        have hall : ∀ i, i < h → i < l.toArray.size → listed.getD i false = true := by
          intro i hi hi2
          have hil : i < listed.size := by rw [inv.size]; exact hi2
          cases hv : listed.getD i false with
          | true => rfl
          | false => exact absurd ⟨i, hi, getD_in hil hv⟩ hex
        have e := headDone_eq inv hall
        rw [hsz] at e
        rw [e, hcnt] at hcn
        omega
    have hntail := tail_waits hs hc (by rw [hsz]; exact hlt) inv _ i0 rfl hi0 hi0f
    rw [show f + 1 + (l.length - h) = (f + (l.length - h)) + 1 by omega]
    refine ⟨fun hr => ?_, fun i hm => ?_⟩
    · exfalso
      -- the least operation that is not done may come up
      have hleast : ∀ i, i < h → listed.getD i true = false → ∃ j, j ∈ Region.ready .any l.toArray listed := by
        intro i
        induction i using Nat.strongRecOn with
        | _ i ihi =>
          intro hi hf
          obtain ⟨o, ho⟩ : ∃ o, l.toArray[i]? = some o := ⟨l[i]'(by omega), by simp⟩
          have hsp := headFormG_spec hform hi ho
          by_cases hall : ∀ e ∈ o.after, Region.binds .any e = true → listed.getD e.on false = true
          · exact ⟨i, mem_ready.2 ⟨hf, o, ho, hall⟩⟩
          · simp only [Classical.not_forall] at hall
            obtain ⟨e, he, hb, hl⟩ := hall
            have hon := hsp.2.2.2 e he hb
            refine ihi e.on hon (by omega) (getD_in (by rw [inv.size, hsz]; omega) (by simpa using hl))
      obtain ⟨j, hj⟩ := hleast i0 hi0 hi0f
      rw [hr] at hj; cases hj
    · have hih : i < h := by
        rcases Nat.lt_or_ge i h with h' | h'
        · exact h'
        · exact absurd hm (hntail i h')
      obtain ⟨hun, o, ho, hdep⟩ := mem_ready.1 hm
      obtain ⟨hgd, ⟨d, hd, hdn, hds⟩, hother, -⟩ := headFormG_spec hform hih ho
      have hst := HeadStepsG.get (l.take h) 0 hstep i o (by rw [List.getElem?_take, if_pos hih]; simpa using ho)
      rw [Nat.zero_add] at hst
      have hda : d < a.tmps.size := by rw [st.size]; exact hdn
      have hput : ∀ v w', Ext S w w' → V i v w' → wpAny P .any l.toArray Q (f + (l.length - h)) (listed.setIfInBounds i true) (a.put (some d) v) w' := by
        intro v w' hx hv
        refine ih _ _ _ ⟨st.ext.trans' hx, by simp [Act.put, st.defers], by simp [Act.put, st.size], fun t ht => ?_, fun j hj hl => ?_⟩ (inv.set hm hih) (by have := countP_lt hun; omega)
        · rw [getD_put hda, if_neg (fun e => by
            rw [List.all_eq_true] at ht
            have := ht i (List.mem_range.2 hih)
            simp only [bne_iff_ne] at this
            exact this (by rw [← hds, e]))]
          exact st.same t ht
        · rw [getD_put hda]
          by_cases e : j = i
          · subst e; rw [if_pos hds.symm]; exact hv
          · rw [if_neg (fun e2 => hother j hj e (by rw [e2, hds]))]
            refine hV j _ w w' (st.vals j hj ?_) hx
            rw [getD_set_ne false (Ne.symm e)] at hl
            exact hl
      have hw : Region.wanted o (yielded l.toArray a.tmps) = D i := by
        rcases hgd with ⟨hn, hD⟩ | ⟨g, b, hgb, hgh, e, he, hbe, heg⟩
        · simp [Region.wanted, hn, hD]
        · have hv := st.vals g hgh (by rw [← heg]; exact hdep e he hbe)
          have hok := hst.2.2
          unfold GuardOk at hok
          rw [hgb] at hok
          have hvv := hok _ _ hv
          obtain ⟨og, hog⟩ : ∃ og, l.toArray[g]? = some og := ⟨l[g]'(by omega), by simp⟩
          obtain ⟨-, ⟨dg, hdg, -, -⟩, -, -⟩ := headFormG_spec hform hgh hog
          have hy := yielded_of hog hdg hvv
          simp only [Region.wanted, hgb, hy]
          cases D i <;> cases b <;> rfl
      unfold wpOp
      rw [ho]
      simp only [hw]
      cases hDi : D i with
      | false =>
        simp only [Bool.false_eq_true, if_false]
        rw [hd]
        exact hput _ _ (Ext.refl _ _) (hst.2.1 hDi _)
      | true =>
      have hst := hst.1 hDi
      simp only [if_true]
      refine .inl (hst a w st.ext st.same (fun j hj => ?_) _ ?_)
      · simp only [Bool.and_eq_true, decide_eq_true_eq] at hj
        obtain ⟨hjh, hj⟩ := hj
        obtain ⟨e, he, hb⟩ := Array.any_eq_true'.1 hj
        simp only [Bool.and_eq_true, beq_iff_eq] at hb
        obtain ⟨hb1, rfl⟩ := hb
        exact st.vals e.on hjh (hdep e he hb1)
      · intro v w' hx hv
        rw [hd]
        exact hput v w' hx hv
theorem wp_region_headG {l : List Oper} {id : Nat} {a : Act} {w : World} {Q : Exit → Act → World → Prop} (h : Nat) (D : Nat → Bool) (S : Nat → Prop) (V : Nat → Value → World → Prop) (hm : P.follows .mixedOrders = true)
    (hform : headFormG l.toArray h a.tmps.size D = true)
    (hs : (Region.sinkB .any l.toArray h && Region.chainB .any l.toArray h && decide (h < l.length) && Region.seqB .any l.toArray (l.length - h) h (headDone h l.length)) = true)
    (hV : ∀ i v w w', V i v w → Ext S w w' → V i v w') (hstep : HeadStepsG P D S l.toArray h w.drew a V Q 0 (l.take h))
    (hend : ∀ a' w', Ext S w w' → a'.defers = a.defers → a'.tmps.size = a.tmps.size → (∀ t, ((List.range h).all fun j => slotOf l.toArray j != t) = true → a'.tmps.getD t undef = a.tmps.getD t undef) → (∀ i, i < h → V i (a'.tmps.getD (slotOf l.toArray i) undef) w') → wpList P l.toArray Q (l.drop h) a' w') :
    (Code.region id l.toArray true).wp P Q a w := by
  simp only [Bool.and_eq_true, decide_eq_true_eq] at hs
  obtain ⟨⟨⟨h1, h2⟩, h3⟩, h4⟩ := hs
  refine wp_region_any hm ?_
  have hsz : l.toArray.size = h + (l.length - h) := by simp; omega
  rw [hsz]
  have hrep : ∀ i, (Array.replicate l.toArray.size false).getD i false = false := fun i => getD_replicate_false _ _
  have := wpAny_headMG (w0 := w.drew) (a0 := a) hform h1 h2 h3 h4 hV hstep (fun a' w' hx => hend a' w' ((Ext.refl S w).drew.trans' hx)) h (Array.replicate l.toArray.size false) a w.drew
    ⟨Ext.refl S _, rfl, rfl, fun _ _ => rfl, fun i _ hl => by rw [hrep] at hl; cases hl⟩
    ⟨by simp, fun j oj _ hl => absurd hl (by rw [hrep]; decide), fun t _ ht => getD_in (by simpa using ht) (hrep t)⟩
    (by
      rw [Array.toList_replicate, List.countP_replicate]
      simp; omega)
  rw [hsz] at this
  exact this
end
end Go.My
end

section
/- The walk of ScriptReplies. Printed by wip/mkreplies.py. -/
namespace Go.Proofs.Ytchejnnfbinclaa
open Go.RowKit Go.My

theorem reply_flat (code : Int) (names : List (List UInt8)) (files : List FileL) (done : Bool) (n : Int) (vn vf : Value) (w : World) (hn : IsStrs w names vn) (hf : IsFiles w files vf) (hl : 100 + (joinB names).length + (filesB files).length ≤ 1099511627776) :
    Calls Try.prog 31 #[.agg #[.int .i64 code, vn, vf, .bool done, .int .i64 n]] w fun e w' => ∃ x, e = .returned x ∧ OwnB w' 5 w.heap.size (replyB ⟨code, names, files, done, n⟩) x ∧ Ext No w w' := reply_any ⟨code, names, files, done, n⟩ vn vf w hn hf hl
theorem replyR_flat (code : Int) (names : List (List UInt8)) (files : List FileL) (done : Bool) (n : Int) (vn vf : Value) (w : World) (hn : IsStrs w names vn) (hf : IsFiles w files vf) (hl : 100 + (joinB names).length + (filesB files).length ≤ 1099511627000) :
    Calls Try.prog 32 #[.agg #[.int .i64 code, vn, vf, .bool done, .int .i64 n]] w fun e w' => ∃ x, e = .returned x ∧ OwnB w' 5 w.heap.size (replyB ⟨code, names, files, done, n⟩) x ∧ Ext No w w' := replyR29_any code names files done n vn vf w hn hf hl
theorem rightR_flat (code : Int) (names : List (List UInt8)) (files : List FileL) (done : Bool) (n : Int) (vn vf : Value) (w : World) (hn : IsStrs w names vn) (hf : IsFiles w files vf) :
    Calls Try.prog 33 #[.agg #[.int .i64 code, vn, vf, .bool done, .int .i64 n]] w fun e w' => Ext No w w' ∧ ∃ t, e = .returned (.bool t) ∧ (t = true ↔ RightP ⟨code, names, files, done, n⟩) := rightR_any code names files done n vn vf w hn hf
theorem answer_flat (code : Int) (done : Bool) (n : Int) (vn vf : Value) (w : World) (hn : ∃ a n c, vn = .slice a n c) (hf : ∃ a n c, vf = .slice a n c) :
    Calls Try.prog 23 #[.agg #[.int .i64 code, vn, vf, .bool done, .int .i64 n]] w fun e w' => e = .returned (.agg #[.int .i64 code, vn, vf, .bool done, .int .i64 n]) ∧ Ext No w w' := answer_any ⟨code, [], [], done, n⟩ vn vf w hn hf
theorem alike_flat (code : Int) (names : List (List UInt8)) (files : List FileL) (done : Bool) (n : Int) (vn vf vn' vf' : Value) (w : World) (hn : IsStrs w names vn) (hf : IsFiles w files vf) (hn' : IsStrs w names vn') (hf' : IsFiles w files vf') :
    Calls Try.prog 22 #[.agg #[.int .i64 code, vn, vf, .bool done, .int .i64 n], .agg #[.int .i64 code, vn', vf', .bool done, .int .i64 n]] w fun e w' => Ext No w w' ∧ e = .returned (.bool true) :=
  (alike29_any code names files done n vn vf code names files done n vn' vf' w hn hf hn' hf').mono fun e w' ⟨h1, t, h2, h3⟩ => ⟨h1, by rw [h2, h3.2 rfl]⟩
theorem Dr.extN {w w' : World} (h : Ext No w.drew w') : Ext No w w' := (Ext.refl No w).drew.trans' h
/-- what Parse tells, in the flat -/
def ParF (l : List UInt8) (w : World) (e : Ending) (w' : World) : Prop :=
  Ext No w w' ∧ ((∃ code names files done n an cn af cf, parseA l = some ⟨code, names, files, done, n⟩ ∧ e = .returned (.tuple #[.agg #[.int .i64 code, .slice an names.length cn, .slice af files.length cf, .bool done, .int .i64 n], .int .i64 0]) ∧ NewF w' w.heap.size files (.slice af files.length cf) ∧ w'.ownsRow w.heap.size 9 1 (.slice an names.length cn) names.length (strVs names)) ∨
    (parseA l = none ∧ e = .returned (.tuple #[.agg #[.int .i64 0, .slice none 0 0, .slice none 0 0, .bool false, .int .i64 0], .int .i64 39])))
theorem parse_flat (l : List UInt8) (a : Option Addr) (m c : Nat) (w : World) (hv : IsBytes w l (.slice a m c)) (hl : l.length ≤ 1099511627776) :
    Calls Try.prog 18 #[.slice a m c] w (ParF l w) := by
  refine (parse29_any l a m c w hv hl).mono ?_
  rintro e w' ⟨hE, ⟨an, vn, vf, hd, rfl, hf, hb⟩ | ⟨hd, rfl⟩⟩
  · obtain ⟨code, names, files, done, n⟩ := an
    obtain ⟨af, cf, rfl⟩ := hf.len
    obtain ⟨ab, cb, rfl⟩ := own_form hb
    exact ⟨hE, .inl ⟨code, names, files, done, n, ab, cb, af, cf, hd, rfl, hf, hb⟩⟩
  · exact ⟨hE, .inr ⟨hd, rfl⟩⟩
theorem right_ok {a : AnsI} (h : RightP a) (hn : I64 a.n) (hm : a.names.length < 4294967296) : AnsOk a := by
  obtain ⟨h1, h2, h3, h4, h5⟩ := h
  refine ⟨⟨h1, h2⟩, hn, hm, fun t ht => ?_, h3, fun f hf => ?_⟩
  · obtain ⟨i, hi, rfl⟩ := List.mem_iff_getElem.1 ht
    have := h4 i hi
    rwa [List.getD_eq_getElem?_getD, List.getElem?_eq_getElem hi] at this
  · obtain ⟨i, hi, rfl⟩ := List.mem_iff_getElem.1 hf
    have := h5 i hi
    rwa [List.getD_eq_getElem?_getD, List.getElem?_eq_getElem hi] at this
theorem names_le (ns : List (List UInt8)) (h : ∀ i, i < ns.length → (ns.getD i []).length ≤ 130) : (joinB ns).length ≤ ns.length * 134 := by
  have h1 : ∀ x ∈ ns, x.length ≤ 130 := fun x hx => by
    obtain ⟨i, hi, rfl⟩ := List.mem_iff_getElem.1 hx
    have := h i hi
    rwa [List.getD_eq_getElem?_getD, List.getElem?_eq_getElem hi] at this
  clear h
  induction ns with
  | nil => simp [joinB]
  | cons k ks ih =>
    have := ih (fun x hx => h1 x (List.mem_cons_of_mem _ hx))
    have hk0 := h1 k (List.mem_cons_self ..)
    rw [joinB_cons, List.length_append, bytesB_length, List.length_cons]
    omega
def RepliesV (code : Int) (an : Option Addr) (nn cn : Nat) (af : Option Addr) (nf cf : Nat) (an2 : Option Addr) (nn2 cn2 : Nat) (af2 : Option Addr) (nf2 cf2 : Nat) (done : Bool) (n : Int) : Nat → Value → World → Prop
  | 0, v, w => v = .int .i64 0
  | 1, v, w => v = .bool true
  | 2, v, w => v = .bool true
  | 3, v, w => v = .agg #[.int .i64 code, .slice an2 nn2 cn2, .slice af2 nf2 cf2, .bool done, .int .i64 n]
  | 4, v, w => v = .agg #[.int .i64 code, .slice an2 nn2 cn2, .slice af2 nf2 cf2, .bool done, .int .i64 n]
  | 5, v, w => v = .agg #[.int .i64 code, .slice an nn cn, .slice af nf cf, .bool done, .int .i64 n]
  | 6, v, w => v = .agg #[.int .i64 code, .slice an nn cn, .slice af nf cf, .bool done, .int .i64 n]
  | 7, v, w => v = .bool true
  | 8, v, w => v = .bool true
  | 9, v, w => v = .bool true
  | 10, v, w => v = .int .i64 39
  | 11, v, w => v = .bool true
  | 12, v, w => v = .bool true
  | 13, v, w => v = .bool true
  | 14, v, w => v = .int .i64 39
  | 15, v, w => v = .bool true
  | 16, v, w => v = .bool true
  | _, _, _ => True
theorem RepliesV_ext (code : Int) (an : Option Addr) (nn cn : Nat) (af : Option Addr) (nf cf : Nat) (an2 : Option Addr) (nn2 cn2 : Nat) (af2 : Option Addr) (nf2 cf2 : Nat) (done : Bool) (n : Int) : ∀ i v w w', RepliesV code an nn cn af nf cf an2 nn2 cn2 af2 nf2 cf2 done n i v w → Ext No w w' → RepliesV code an nn cn af nf cf an2 nn2 cn2 af2 nf2 cf2 done n i v w'
  | 0, _, _, _, h, _ => h
  | 1, _, _, _, h, _ => h
  | 2, _, _, _, h, _ => h
  | 3, _, _, _, h, _ => h
  | 4, _, _, _, h, x => h
  | 5, _, _, _, h, _ => h
  | 6, _, _, _, h, x => h
  | 7, _, _, _, h, x => h
  | 8, _, _, _, h, _ => h
  | 9, _, _, _, h, _ => h
  | 10, _, _, _, h, _ => h
  | 11, _, _, _, h, _ => h
  | 12, _, _, _, h, _ => h
  | 13, _, _, _, h, _ => h
  | 14, _, _, _, h, _ => h
  | 15, _, _, _, h, _ => h
  | 16, _, _, _, h, _ => h
  | _ + 17, _, _, _, _, _ => trivial

set_option maxRecDepth 100000 in
set_option maxHeartbeats 20000000 in
theorem scriptReplies_fr (a : AnsI) (v : Value) (more : UInt8) (w : World) (h : IsAnsA w a v) :
    Calls Try.prog 8 #[v, .int .u8 (more.toNat : Int)] w fun e w' => e = .returned (.bool true) ∧ Ext No w w' := by
  obtain ⟨vn, vf, rfl, hn, hf, hcode, hnn⟩ := h
  obtain ⟨code, names, files, done, n⟩ := a
  obtain ⟨an, cn, rfl, hnc⟩ : ∃ a c, vn = .slice a names.length c ∧ names.length ≤ c := by obtain ⟨a, c, h, h2, -⟩ := id hn; exact ⟨a, c, h, h2⟩
  obtain ⟨af, cf, rfl⟩ : ∃ a c, vf = .slice a files.length c := by obtain ⟨a, c, h, -⟩ := id hf; exact ⟨a, c, h⟩
  dsimp only at hn hf hcode hnn
  obtain ⟨nn, hnne⟩ : ∃ m, m = names.length := ⟨_, rfl⟩
  obtain ⟨nf, hnfe⟩ : ∃ m, m = files.length := ⟨_, rfl⟩
  rw [← hnne] at hn hnc ⊢
  rw [← hnfe] at hf ⊢
  unfold ansVal
  dsimp only
  have HNE := Lib.hid hnne; have HFE := Lib.hid hnfe; have HNS := Lib.hid hn; have HF := Lib.hid hf; have HI := Lib.hid hnn
  have hx : Ext No w (w.alloc (.cells #[.int .i64 code, .slice an nn cn, .slice af nf cf, .bool done, .int .i64 n] 46)) := (Ext.refl No w).alloc _
  have hB := Blk.new w #[.int .i64 code, .slice an nn cn, .slice af nf cf, .bool done, .int .i64 n] 46
  have HX := Lib.hid hx; have HB := Lib.hid hB; clear hx hB hn hf hnn hcode hnne hnfe
  go_enter Try.func8, Try.ntmps8
  go_wp2_with fail
  refine (alive_any _).mono ?_
  rintro e w1 ⟨rfl, hx1⟩
  have HX1 := Lib.hid (HX.out.trans' hx1); have HB1 := Lib.hid (HB.out.ext hx1 (fun x => x)); clear hx1 HX HB
  generalize w.heap.size = pb at *
  have hd1 := HB1.out.cell 1; have hd2 := HB1.out.cell 2
  simp only [List.getElem?_toArray, List.getElem?_cons_succ, List.getElem?_cons_zero] at hd1 hd2
  by_cases h20 : 20 < nn
  · have h20i : (20 : Int) < nn := by omega
    go_wp2_with fail
    go_ret
    exact ⟨rfl, HX1.out⟩
  have h20i : decide ((20 : Int) < nn) = false := by simp; omega
  by_cases h12 : 12 < nf
  · have h12i : (12 : Int) < nf := by omega
    go_wp2_with fail
    go_ret
    exact ⟨rfl, HX1.out⟩
  have h12i : decide ((12 : Int) < nf) = false := by simp; omega
  go_wp2_with fail
  refine (small_any files _ w1 (HF.out.ext0 HX1.out)).mono ?_
  rintro e w2 ⟨hx2, t, rfl, ht⟩
  have HX2 := Lib.hid (HX1.out.trans' hx2); have HB2 := Lib.hid (HB1.out.ext hx2 (fun x => x)); clear hx2 HX1 HB1 hd1 hd2
  cases t
  · clear ht
    dsimp only
    go_wp2_with fail
    go_ret
    exact ⟨rfl, HX2.out⟩
  have HSM := Lib.hid (small_le (ht.1 rfl)).2
  clear ht
  have hd1 := HB2.out.cell 1; have hd2 := HB2.out.cell 2
  simp only [List.getElem?_toArray, List.getElem?_cons_succ, List.getElem?_cons_zero] at hd1 hd2
  dsimp only
  go_wp2_with fail
  clear hd1 hd2
  go_loopw [35] (fun i wr => ∃ k : Nat, i = .int .i64 k ∧ k ≤ nn ∧ wr = w2 ∧ ∀ j, j < k → (names.getD j []).length ≤ 130) (fun i _ => nn - (intOf i).toNat)
  case atStart => exact ⟨0, rfl, by omega, rfl, fun j hj => by omega⟩
  case round =>
    obtain ⟨k, rfl, hk, rfl, hall⟩ := hrel
    have HALL := Lib.hid hall; clear hall
    by_cases hlt : k < nn
    · have hltI : (k : Int) < nn := by omega
      obtain ⟨b, off, rfl, hck⟩ := IsRow.get (HNS.out.ext0 HX2.out) k hlt
      unfold strV at hck
      have hsz := strB_size (names.getD k [])
      generalize hnk : names.getD k [] = nk at *
      have HNK := Lib.hid hnk; clear hnk
      by_cases h130 : 130 < nk.length
      · have h130i : (130 : Int) < nk.length := by omega
        go_wp2_with fail
        go_ret
        exact ⟨rfl, HX2.out⟩
      · have h130i : decide ((130 : Int) < nk.length) = false := by simp; omega
        go_wp2_with fail
        go_roundw
        case rel => exact ⟨k + 1, by go_num, by omega, by trivial, fun j hj => by
          by_cases hjk : j = k
          · subst hjk; rw [HNK.out]; omega
          · exact HALL.out j (by omega)⟩
        case measure => simp [intOf]; omega
    · have hkn : nn = k := by omega
      subst hkn
      have HJL := Lib.hid (show 100 + (joinB names).length + (filesB files).length ≤ 1000000000 by
        have h1 := names_le names (fun i hi => HALL.out i (by have := HNE.out; omega))
        have h2 := HSM.out; have h3 := HNE.out; omega)
      clear hlt hk h20i h12i HALL
      have hd0 := HB2.out.cell 0; have hd1 := HB2.out.cell 1; have hd2 := HB2.out.cell 2; have hd3 := HB2.out.cell 3; have hd4 := HB2.out.cell 4
      simp only [List.getElem?_toArray, List.getElem?_cons_succ, List.getElem?_cons_zero] at hd0 hd1 hd2 hd3 hd4
      go_wp2_with fail
      clear hd0 hd1 hd2 hd3 hd4
      refine (reply_flat code names files done n _ _ wr (HNS.out.ext0 HX2.out) (HF.out.ext0 HX2.out) (Nat.le_trans HJL.out (by decide))).mono ?_
      rintro e w3 ⟨x3, rfl, hx3, hE3⟩
      have hb3 := hx3.bytes
      have hn3 := NilOk.own hx3
      obtain ⟨ax, cx, rfl⟩ := own_form hx3
      obtain ⟨m, hm⟩ : ∃ m, m + 1 = (replyB ⟨code, names, files, done, n⟩).length := ⟨(replyB ⟨code, names, files, done, n⟩).length - 1, by unfold replyB; simp only [List.length_append, numB_length]; omega⟩
      have hmle : m + 1 ≤ 1000000000 := by
        rw [hm]; have h1 := HJL.out; have h2 := joinB_len names; unfold replyB; simp only [List.length_append, numB_length]; omega
      rw [← hm] at hb3 hn3 ⊢
      have HMM := Lib.hid hm; have HBX := Lib.hid (And.intro hb3 hn3); have HX3 := Lib.hid (HX2.out.trans' hE3); have HB3 := Lib.hid (HB2.out.ext hE3 (fun s => s))
      have HP0 := Lib.hid (fun (h : RightP ⟨code, names, files, done, n⟩) => right_ok h HI.out (by have h1 := HNE.out; have h2 := h20; show names.length < 4294967296; omega))
      have HRT := Lib.hid (fun W h1 h2 => rightR_flat code names files done n (.slice an nn cn) (.slice af nf cf) W h1 h2)
      have HRP := Lib.hid (fun W h1 h2 => replyR_flat code names files done n (.slice an nn cn) (.slice af nf cf) W h1 h2 (Nat.le_trans HJL.out (by decide)))
      generalize hlb : replyB ⟨code, names, files, done, n⟩ = lb at *
      have HLB := Lib.hid hlb
      clear hm hb3 hn3 hE3 hx3 hlb
      have hd0 := HB3.out.cell 0; have hd1 := HB3.out.cell 1; have hd2 := HB3.out.cell 2; have hd3 := HB3.out.cell 3; have hd4 := HB3.out.cell 4
      simp only [List.getElem?_toArray, List.getElem?_cons_succ, List.getElem?_cons_zero] at hd0 hd1 hd2 hd3 hd4
      dsimp only
      go_wp2_with fail
      clear hd0 hd1 hd2 hd3 hd4
      refine (answer_flat code done n _ _ w3 (slice_ex _ _ _) (slice_ex _ _ _)).mono ?_
      rintro e w4 ⟨rfl, hE4⟩
      have HX4 := Lib.hid (HX3.out.trans' hE4); have HB4 := Lib.hid (HB3.out.ext hE4 (fun s => s)); have HBX4 := Lib.hid (HBX.out.1.ext0 hE4)
      clear hE4 HB3 HX3
      dsimp only
      go_wp2_with fail
      refine (HRP.out w4 (HNS.out.ext0 HX4.out) (HF.out.ext0 HX4.out)).mono ?_
      rintro e w5 ⟨x5, rfl, hx5, hE5⟩
      have hb5 := hx5.bytes
      obtain ⟨a5, c5, rfl⟩ := own_form hx5
      have HX5 := Lib.hid (HX4.out.trans' hE5); have HB5 := Lib.hid (HB4.out.ext hE5 (fun s => s)); have HBX5 := Lib.hid (HBX4.out.ext0 hE5); have HB5r := Lib.hid hb5
      clear hE5 HB4 HX4 HBX4 hx5 hb5
      dsimp only
      go_wp2_with fail
      refine (same1_any lb lb _ _ w5 HBX5.out HB5r.out).mono ?_
      rintro e w6 ⟨rfl, rfl⟩
      rw [decide_eq_true rfl]
      clear HB5r
      dsimp only
      go_wp2_with fail
      refine (parse_flat lb ax (m + 1) cx w5 HBX5.out (by rw [← HMM.out]; exact Nat.le_trans hmle (by decide))).mono ?_
      rintro e w6 ⟨hE6, hcase⟩
      have HX6 := Lib.hid (HX5.out.trans' hE6); have HB6 := Lib.hid (HB5.out.ext hE6 (fun s => s)); have HBX6 := Lib.hid (HBX5.out.ext0 hE6)
      clear hE6 HX5 HB5 HBX5
      by_cases hR : RightP ⟨code, names, files, done, n⟩
      case neg =>
        rcases hcase with ⟨code2, names2, files2, done2, n2, an2, cn2, af2, cf2, -, rfl, -, -⟩ | ⟨-, rfl⟩
        · have hA := HB6.out.alloc (.cells #[.int .i64 code2, .slice an2 names2.length cn2, .slice af2 files2.length cf2, .bool done2, .int .i64 n2] 46)
          have hd0 := hA.cell 0; have hd1 := hA.cell 1; have hd2 := hA.cell 2; have hd3 := hA.cell 3; have hd4 := hA.cell 4
          simp only [List.getElem?_toArray, List.getElem?_cons_succ, List.getElem?_cons_zero] at hd0 hd1 hd2 hd3 hd4
          have HA := Lib.hid hA
          have hxA : Ext No w6 (w6.alloc (.cells #[.int .i64 code2, .slice an2 names2.length cn2, .slice af2 files2.length cf2, .bool done2, .int .i64 n2] 46)) := (Ext.refl No w6).alloc _
          have HX7 := Lib.hid (HX6.out.trans' hxA)
          clear hA hxA
          dsimp only
          go_wp2_with fail
          clear hd0 hd1 hd2 hd3 hd4
          refine (answer_flat code done n _ _ _ (slice_ex _ _ _) (slice_ex _ _ _)).mono ?_
          rintro e w8 ⟨rfl, hE8⟩
          have HX8 := Lib.hid (HX7.out.trans' hE8)
          clear hE8 HX7 HA
          dsimp only
          go_wp2_with fail
          refine (HRT.out w8 (HNS.out.ext0 HX8.out) (HF.out.ext0 HX8.out)).mono ?_
          rintro e w9 ⟨hE9, t, rfl, ht⟩
          have htf : t = false := by cases t; exact rfl; exact absurd (ht.1 rfl) hR
          subst htf
          have HX9 := Lib.hid (HX8.out.trans' hE9)
          clear hE9 ht HX8
          dsimp only
          go_wp2_with fail
          go_ret
          exact ⟨rfl, HX9.out⟩
        · have hA := HB6.out.alloc (.cells #[.int .i64 0, .slice none 0 0, .slice none 0 0, .bool false, .int .i64 0] 46)
          have hd0 := hA.cell 0; have hd1 := hA.cell 1; have hd2 := hA.cell 2; have hd3 := hA.cell 3; have hd4 := hA.cell 4
          simp only [List.getElem?_toArray, List.getElem?_cons_succ, List.getElem?_cons_zero] at hd0 hd1 hd2 hd3 hd4
          have HA := Lib.hid hA
          have hxA : Ext No w6 (w6.alloc (.cells #[.int .i64 0, .slice none 0 0, .slice none 0 0, .bool false, .int .i64 0] 46)) := (Ext.refl No w6).alloc _
          have HX7 := Lib.hid (HX6.out.trans' hxA)
          clear hA hxA
          dsimp only
          go_wp2_with fail
          clear hd0 hd1 hd2 hd3 hd4
          refine (answer_flat code done n _ _ _ (slice_ex _ _ _) (slice_ex _ _ _)).mono ?_
          rintro e w8 ⟨rfl, hE8⟩
          have HX8 := Lib.hid (HX7.out.trans' hE8)
          clear hE8 HX7 HA
          dsimp only
          go_wp2_with fail
          refine (HRT.out w8 (HNS.out.ext0 HX8.out) (HF.out.ext0 HX8.out)).mono ?_
          rintro e w9 ⟨hE9, t, rfl, ht⟩
          have htf : t = false := by cases t; exact rfl; exact absurd (ht.1 rfl) hR
          subst htf
          have HX9 := Lib.hid (HX8.out.trans' hE9)
          clear hE9 ht HX8
          dsimp only
          go_wp2_with fail
          go_ret
          exact ⟨rfl, HX9.out⟩
      have hok := HP0.out hR
      have hpar := (parseA_iff lb ⟨code, names, files, done, n⟩).2 ⟨HLB.out.symm, hok⟩
      rcases hcase with ⟨code2, names2, files2, done2, n2, an2, cn2, af2, cf2, hd, rfl, hf2, hn2⟩ | ⟨hd, -⟩
      case inr => rw [hpar] at hd; cases hd
      rw [hpar] at hd
      simp only [Option.some.injEq, AnsI.mk.injEq] at hd
      obtain ⟨rfl, rfl, rfl, rfl, rfl⟩ := hd
      have hn2' := strs_own hn2
      have hf2' := hf2.files
      obtain ⟨nn2, hnn2⟩ : ∃ m, m = names.length := ⟨_, rfl⟩
      obtain ⟨nf2, hnf2⟩ : ∃ m, m = files.length := ⟨_, rfl⟩
      rw [← hnn2] at hn2' ⊢
      rw [← hnf2] at hf2' ⊢
      have hxA : Ext No w6 (w6.alloc (.cells #[.int .i64 code, .slice an2 nn2 cn2, .slice af2 nf2 cf2, .bool done, .int .i64 n] 46)) := (Ext.refl No w6).alloc _
      have HN2 := Lib.hid (hn2'.ext0 hxA); have HF2 := Lib.hid (hf2'.ext0 hxA)
      have HB8 := Lib.hid (Blk.new w6 #[.int .i64 code, .slice an2 nn2 cn2, .slice af2 nf2 cf2, .bool done, .int .i64 n] 46)
      have hA := HB6.out.ext hxA (fun s => s)
      have HX7 := Lib.hid (HX6.out.trans' hxA); have HBX7 := Lib.hid (HBX6.out.ext0 hxA)
      have hd0 := hA.cell 0; have hd1 := hA.cell 1; have hd2 := hA.cell 2; have hd3 := hA.cell 3; have hd4 := hA.cell 4
      simp only [List.getElem?_toArray, List.getElem?_cons_succ, List.getElem?_cons_zero] at hd0 hd1 hd2 hd3 hd4
      have HB7 := Lib.hid hA
      have HOK := Lib.hid hok
      clear hA hxA hn2 hf2 hn2' hf2' hnn2 hnf2 hpar hok HX6 HB6 HBX6
      dsimp only
      go_wp2_with fail
      clear hd0 hd1 hd2 hd3 hd4
      refine (answer_flat code done n _ _ _ (slice_ex _ _ _) (slice_ex _ _ _)).mono ?_
      rintro e w8 ⟨rfl, hE8⟩
      have HX8 := Lib.hid (HX7.out.trans' hE8); have HN28 := Lib.hid (HN2.out.ext0 hE8); have HF28 := Lib.hid (HF2.out.ext0 hE8); have HB88 := Lib.hid (HB8.out.ext hE8 (fun s => s)); have HB78 := Lib.hid (HB7.out.ext hE8 (fun s => s)); have HBX8 := Lib.hid (HBX7.out.ext0 hE8)
      clear hE8 HX7 HN2 HF2 HB8 HB7 HBX7
      generalize w6.heap.size = b8 at *
      dsimp only
      go_wp2_with fail
      refine (HRT.out w8 (HNS.out.ext0 HX8.out) (HF.out.ext0 HX8.out)).mono ?_
      rintro e w9 ⟨hE9, t, rfl, ht⟩
      have htt : t = true := ht.2 hR
      subst htt
      have HX9 := Lib.hid (HX8.out.trans' hE9); have HN29 := Lib.hid (HN28.out.ext0 hE9); have HF29 := Lib.hid (HF28.out.ext0 hE9); have HB89 := Lib.hid (HB88.out.ext hE9 (fun s => s)); have HB79 := Lib.hid (HB78.out.ext hE9 (fun s => s)); have HBX9 := Lib.hid (HBX8.out.ext0 hE9)
      clear hE9 ht HX8 HN28 HF28 HB88 HB78 HBX8 HRT HRP HP0
      have hmcx : m ≤ cx := by have := (IsRow.len HBX9.out).2; omega
      have tk := fun wx => take31 ax m (m + 1) cx hmcx wx
      have hmcxi : (m : Int) ≤ cx := by omega
      have hls : parseA (lb.take m) = none := by
        have h1 : (lb.drop m).length = 1 := by rw [List.length_drop]; have := HMM.out; omega
        match hdm : lb.drop m, h1 with
        | [x], _ =>
          have hap : lb.take m ++ [x] = replyB ⟨code, names, files, done, n⟩ := by rw [← hdm, List.take_append_drop, HLB.out]
          exact parseA_less _ HOK.out _ _ hap
      have HLS := Lib.hid hls
      clear hls
      dsimp only
      go_wp2_with fail
      refine (parse_flat (lb.take m) ax m cx w9 (HBX9.out.take m (by omega)) (by rw [List.length_take]; have := hmle; omega)).mono ?_
      rintro e w10 ⟨hE10, ⟨code2, names2, files2, done2, n2, an3, cn3, af3, cf3, hd, -⟩ | ⟨-, rfl⟩⟩
      case inl => rw [HLS.out] at hd; cases hd
      have hxA : Ext No w10 (w10.alloc (.cells #[.int .i64 0, .slice none 0 0, .slice none 0 0, .bool false, .int .i64 0] 46)) := (Ext.refl No w10).alloc _
      have hE := hE10.trans' hxA
      have HX10 := Lib.hid (HX9.out.trans' hE); have HN210 := Lib.hid (HN29.out.ext0 hE); have HF210 := Lib.hid (HF29.out.ext0 hE); have HB810 := Lib.hid (HB89.out.ext hE (fun s => s)); have HB710 := Lib.hid (HB79.out.ext hE (fun s => s)); have HBX10 := Lib.hid (HBX9.out.ext0 hE)
      clear hE10 hxA hE HX9 HN29 HF29 HB89 HB79 HBX9 tk
      -- one byte more
      have hsz : (w10.alloc (.cells #[.int .i64 0, .slice none 0 0, .slice none 0 0, .bool false, .int .i64 0] 46)).heap.size = w10.heap.size + 1 := World.size_alloc _ _
      have hxa : Ext No (w10.alloc (.cells #[.int .i64 0, .slice none 0 0, .slice none 0 0, .bool false, .int .i64 0] 46)) ((w10.alloc (.cells #[.int .i64 0, .slice none 0 0, .slice none 0 0, .bool false, .int .i64 0] 46)).alloc (.cells #[] 5)) := (Ext.refl No _).alloc _
      have hrow1 : IsRow ((w10.alloc (.cells #[.int .i64 0, .slice none 0 0, .slice none 0 0, .bool false, .int .i64 0] 46)).alloc (.cells #[] 5)) (byt lb) (m + 1) (.slice ax (m + 1) cx) := by have h := HBX10.out.ext0 hxa; unfold IsBytes at h; rw [← HMM.out] at h; exact h
      have ho0 := World.ownsRow_made (e := 5) (size := 1) (w10.alloc (.cells #[.int .i64 0, .slice none 0 0, .slice none 0 0, .bool false, .int .i64 0] 46)) #[] 0 (Nat.le_refl _) (by decide) rfl
      rw [hsz] at ho0
      have HR1 := Lib.hid hrow1; have HNA := Lib.hid HBX.out.2.none; have HO0 := Lib.hid ho0
      have HN1 := Lib.hid (show 0 + (m + 1) ≤ 9223372036854775807 ∧ (0 + (m + 1)) * 1 ≤ 140737488355328 ∧ m + 1 + 1 ≤ 9223372036854775807 ∧ (m + 1 + 1) * 1 ≤ 140737488355328 by omega)
      have HS3 := Lib.hid (show w10.heap.size + 1 ≤ ((w10.alloc (.cells #[.int .i64 0, .slice none 0 0, .slice none 0 0, .bool false, .int .i64 0] 46)).alloc (.cells #[] 5)).heap.size by rw [World.size_alloc, hsz]; omega)
      have HS4 := Lib.hid (show ∀ w6, ((w10.alloc (.cells #[.int .i64 0, .slice none 0 0, .slice none 0 0, .bool false, .int .i64 0] 46)).alloc (.cells #[] 5)).grownBy w6 (Value.slice (some ⟨w10.heap.size + 1, 0, none⟩) 0 0).ownBlock → w10.heap.size + 1 ≤ (w6.alloc (.cells #[.int .u8 (more.toNat : Int)] 5)).heap.size from fun w6 hg => by
        have := hg.size; rw [World.size_alloc, hsz] at this; rw [World.size_alloc]; omega)
      have H1a := Lib.hid (show ∀ i, i < m + 1 → (byt lb i).oneCell' = true from fun _ _ => rfl)
      clear hxa hrow1 ho0 hsz
      dsimp only
      go_wp2_with (first
        | (at_builtin; refine wpList_app1 _ _ rfl _ _ 31 rfl (w10.heap.size + 1) 5 _ _ u8_infoJ Try.underlying31 rfl _ _ _ rfl (hown.alloc _) _ rfl (cell_new _ _ _ rfl) rfl HN1.out.2.2.1 HN1.out.2.2.2 (HS4.out _ hg) ?_; intro v7 w12 hown7 hg7; obtain ⟨a7, c7, rfl⟩ := own_form hown7)
        | (at_builtin; refine wpList_appN _ rfl _ _ 31 rfl (w10.heap.size + 1) 5 _ _ u8_infoJ Try.underlying31 rfl _ _ _ rfl HO0.out _ _ _ (byt lb) rfl HR1.out HNA.out H1a.out HN1.out.1 HN1.out.2.1 HS3.out ?_; intro v6 w11 hown hg; rw [Nat.zero_add, List.nil_append] at hown; obtain ⟨a6, c6, rfl⟩ := own_form hown))
      have hxE : Ext No w10 w12 := ((((((Ext.refl No w10).alloc (.cells #[.int .i64 0, .slice none 0 0, .slice none 0 0, .bool false, .int .i64 0] 46))).alloc (.cells #[] 5)).grown hg (fun j hj h => by have h1 : w10.heap.size + 1 = j := Option.some.inj hj; omega)).alloc (.cells #[.int .u8 (more.toNat : Int)] 5)).grown hg7 (fun j hj h => by have := (World.ownsRow.lt hown j hj).1; omega)
      have hxA : Ext No (w10.alloc (.cells #[.int .i64 0, .slice none 0 0, .slice none 0 0, .bool false, .int .i64 0] 46)) w12 := ((((Ext.refl No _).alloc (.cells #[] 5)).grown hg (fun j hj h => by have h1 : w10.heap.size + 1 = j := Option.some.inj hj; rw [World.size_alloc] at h; omega)).alloc (.cells #[.int .u8 (more.toNat : Int)] 5)).grown hg7 (fun j hj h => by have := (World.ownsRow.lt hown j hj).1; rw [World.size_alloc] at h; omega)
      have hob : OwnB w12 5 (w10.heap.size + 1) (lb ++ [more]) (.slice a7 (m + 1 + 1) c7) := by
        have h := hown7
        unfold OwnB
        rw [List.length_append, List.length_singleton, byts_append, ← HMM.out]
        rw [HMM.out, byts_range] at h
        rw [HMM.out]
        exact h
      have hb12 := hob.bytes
      have HX12 := Lib.hid (HX10.out.trans' hxA); have HN212 := Lib.hid (HN210.out.ext0 hxA); have HF212 := Lib.hid (HF210.out.ext0 hxA); have HB812 := Lib.hid (HB810.out.ext hxA (fun s => s)); have HB712 := Lib.hid (HB710.out.ext hxA (fun s => s))
      clear hown hg hown7 hg7 hxE hxA hob HR1 HNA HO0 HN1 HS3 HS4 H1a HX10 HN210 HF210 HB810 HB710 HBX10
      refine (parse_flat (lb ++ [more]) a7 (m + 1 + 1) c7 w12 hb12 (by rw [List.length_append, List.length_singleton, ← HMM.out]; omega)).mono ?_
      rintro e w13 ⟨hE13, ⟨code2, names2, files2, done2, n2, an3, cn3, af3, cf3, hd, -⟩ | ⟨-, rfl⟩⟩
      case inl => rw [← HLB.out, parseA_more _ HOK.out more] at hd; cases hd
      have hxA : Ext No w13 (w13.alloc (.cells #[.int .i64 0, .slice none 0 0, .slice none 0 0, .bool false, .int .i64 0] 46)) := (Ext.refl No w13).alloc _
      have hE := hE13.trans' hxA
      have HX13 := Lib.hid (HX12.out.trans' hE); have HN2 := Lib.hid (HN212.out.ext0 hE); have HF2 := Lib.hid (HF212.out.ext0 hE); have HB8 := Lib.hid (HB812.out.ext hE (fun s => s)); have HBp := Lib.hid (HB712.out.ext hE (fun s => s))
      have HNw := Lib.hid (HNS.out.ext0 HX13.out); have HFw := Lib.hid (HF.out.ext0 HX13.out)
      clear hE13 hxA hE hb12 HX12 HN212 HF212 HB812 HB712
      dsimp only
      go_wp2_with fail
      refine wp_region_headG 17 (fun i => !([] : List Nat).contains i) No (RepliesV code an nn cn af nf cf an2 nn2 cn2 af2 nf2 cf2 done n) (by kernel_rfl) (by kernel_rfl) (by kernel_rfl) (RepliesV_ext code an nn cn af nf cf an2 nn2 cn2 af2 nf2 cf2 done n) (HeadStepsG.cons (by rfl) (by exact trivial) ?_ (HeadStepsG.cons (by rfl) (by exact trivial) ?_ (HeadStepsG.cons (by rfl) (by exact trivial) ?_ (HeadStepsG.cons (by rfl) (by exact fun _ _ h => h) ?_ (HeadStepsG.cons (by rfl) (by exact fun _ _ h => h) ?_ (HeadStepsG.cons (by rfl) (by exact fun _ _ h => h) ?_ (HeadStepsG.cons (by rfl) (by exact fun _ _ h => h) ?_ (HeadStepsG.cons (by rfl) (by exact fun _ _ h => h) ?_ (HeadStepsG.cons (by rfl) (by exact trivial) ?_ (HeadStepsG.cons (by rfl) (by exact trivial) ?_ (HeadStepsG.cons (by rfl) (by exact fun _ _ h => h) ?_ (HeadStepsG.cons (by rfl) (by exact fun _ _ h => h) ?_ (HeadStepsG.cons (by rfl) (by exact trivial) ?_ (HeadStepsG.cons (by rfl) (by exact trivial) ?_ (HeadStepsG.cons (by rfl) (by exact fun _ _ h => h) ?_ (HeadStepsG.cons (by rfl) (by exact fun _ _ h => h) ?_ (HeadStepsG.cons (by rfl) (by exact trivial) ?_ HeadStepsG.nil))))))))))))))))) ?_
      · -- slot 79
        intro ac wk hx hsame hdep K hK
        have d9 : ac.tmps.getD 9 undef = .int .i64 0 := hsame 9 (by kernel_rfl)
        have e9 := d9
        rw [Array.getD_eq_getD_getElem?] at e9
        clear hsame hdep
        go_simp
        exact hK _ _ (Ext.refl _ wk) rfl
      · -- slot 80
        intro ac wk hx hsame hdep K hK
        have d79 : ac.tmps.getD 79 undef = .int .i64 0 := hdep 0 (by kernel_rfl)
        have e79 := d79
        rw [Array.getD_eq_getD_getElem?] at e79
        clear hsame hdep
        go_simp
        exact hK _ _ (Ext.refl _ wk) rfl
      · -- slot 81
        intro ac wk hx hsame hdep K hK
        have d80 : ac.tmps.getD 80 undef = .bool true := hdep 1 (by kernel_rfl)
        have e80 := d80
        rw [Array.getD_eq_getD_getElem?] at e80
        clear hsame hdep
        go_simp
        exact hK _ _ (Ext.refl _ wk) rfl
      · -- slot 82
        intro ac wk hx hsame hdep K hK
        have d8 : ac.tmps.getD 8 undef = .pointer (some ⟨b8, 0, none⟩) := hsame 8 (by kernel_rfl)
        have e8 := d8
        rw [Array.getD_eq_getD_getElem?] at e8
        clear hsame hdep
        have hz := HB8.out.drew.ext hx (fun s => s)
        have hc0 := hz.cell 0; have hc1 := hz.cell 1; have hc2 := hz.cell 2; have hc3 := hz.cell 3; have hc4 := hz.cell 4
        simp only [List.getElem?_toArray, List.getElem?_cons_succ, List.getElem?_cons_zero] at hc0 hc1 hc2 hc3 hc4
        clear hz
        go_simp
        exact hK _ _ (Ext.refl _ wk) rfl
      · -- slot 83
        intro ac wk hx hsame hdep K hK
        have d82 : ac.tmps.getD 82 undef = .agg #[.int .i64 code, .slice an2 nn2 cn2, .slice af2 nf2 cf2, .bool done, .int .i64 n] := hdep 3 (by kernel_rfl)
        have e82 := d82
        rw [Array.getD_eq_getD_getElem?] at e82
        clear hsame hdep
        go_simp
        refine (answer_flat code done n _ _ wk (slice_ex _ _ _) (slice_ex _ _ _)).mono ?_
        rintro e w' ⟨rfl, hx'⟩
        exact hK _ _ hx' rfl
      · -- slot 84
        intro ac wk hx hsame hdep K hK
        have d2 : ac.tmps.getD 2 undef = .pointer (some ⟨pb, 0, none⟩) := hsame 2 (by kernel_rfl)
        have e2 := d2
        rw [Array.getD_eq_getD_getElem?] at e2
        clear hsame hdep
        have hz := HBp.out.drew.ext hx (fun s => s)
        have hc0 := hz.cell 0; have hc1 := hz.cell 1; have hc2 := hz.cell 2; have hc3 := hz.cell 3; have hc4 := hz.cell 4
        simp only [List.getElem?_toArray, List.getElem?_cons_succ, List.getElem?_cons_zero] at hc0 hc1 hc2 hc3 hc4
        clear hz
        go_simp
        exact hK _ _ (Ext.refl _ wk) rfl
      · -- slot 85
        intro ac wk hx hsame hdep K hK
        have d84 : ac.tmps.getD 84 undef = .agg #[.int .i64 code, .slice an nn cn, .slice af nf cf, .bool done, .int .i64 n] := hdep 5 (by kernel_rfl)
        have e84 := d84
        rw [Array.getD_eq_getD_getElem?] at e84
        clear hsame hdep
        go_simp
        refine (answer_flat code done n _ _ wk (slice_ex _ _ _) (slice_ex _ _ _)).mono ?_
        rintro e w' ⟨rfl, hx'⟩
        exact hK _ _ hx' rfl
      · -- slot 86
        intro ac wk hx hsame hdep K hK
        have p83 : (ac.tmps.getD 83 undef) = .agg #[.int .i64 code, .slice an2 nn2 cn2, .slice af2 nf2 cf2, .bool done, .int .i64 n] := hdep 4 (by kernel_rfl)
        have d83 := p83
        have e83 := d83
        rw [Array.getD_eq_getD_getElem?] at e83
        have p85 : (ac.tmps.getD 85 undef) = .agg #[.int .i64 code, .slice an nn cn, .slice af nf cf, .bool done, .int .i64 n] := hdep 6 (by kernel_rfl)
        have d85 := p85
        have e85 := d85
        rw [Array.getD_eq_getD_getElem?] at e85
        clear hsame hdep
        go_simp
        refine (alike_flat code names files done n _ _ _ _ wk (HN2.out.ext0 (Dr.extN hx)) (HF2.out.ext0 (Dr.extN hx)) (HNw.out.ext0 (Dr.extN hx)) (HFw.out.ext0 (Dr.extN hx))).mono ?_
        rintro e w' ⟨hx', rfl⟩
        exact hK _ _ hx' rfl
      · -- slot 87
        intro ac wk hx hsame hdep K hK
        have d81 : ac.tmps.getD 81 undef = .bool true := hdep 2 (by kernel_rfl)
        have e81 := d81
        rw [Array.getD_eq_getD_getElem?] at e81
        have p86 : (ac.tmps.getD 86 undef) = .bool true := hdep 7 (by kernel_rfl)
        have d86 := p86
        have e86 := d86
        rw [Array.getD_eq_getD_getElem?] at e86
        clear hsame hdep
        go_simp
        exact hK _ _ (Ext.refl _ wk) rfl
      · -- slot 88
        intro ac wk hx hsame hdep K hK
        have d87 : ac.tmps.getD 87 undef = .bool true := hdep 8 (by kernel_rfl)
        have e87 := d87
        rw [Array.getD_eq_getD_getElem?] at e87
        clear hsame hdep
        go_simp
        exact hK _ _ (Ext.refl _ wk) rfl
      · -- slot 89
        intro ac wk hx hsame hdep K hK
        have d11 : ac.tmps.getD 11 undef = .int .i64 39 := hsame 11 (by kernel_rfl)
        have e11 := d11
        rw [Array.getD_eq_getD_getElem?] at e11
        clear hsame hdep
        go_simp
        exact hK _ _ (Ext.refl _ wk) rfl
      · -- slot 90
        intro ac wk hx hsame hdep K hK
        have d89 : ac.tmps.getD 89 undef = .int .i64 39 := hdep 10 (by kernel_rfl)
        have e89 := d89
        rw [Array.getD_eq_getD_getElem?] at e89
        clear hsame hdep
        go_simp
        exact hK _ _ (Ext.refl _ wk) rfl
      · -- slot 91
        intro ac wk hx hsame hdep K hK
        have d88 : ac.tmps.getD 88 undef = .bool true := hdep 9 (by kernel_rfl)
        have e88 := d88
        rw [Array.getD_eq_getD_getElem?] at e88
        have d90 : ac.tmps.getD 90 undef = .bool true := hdep 11 (by kernel_rfl)
        have e90 := d90
        rw [Array.getD_eq_getD_getElem?] at e90
        clear hsame hdep
        go_simp
        exact hK _ _ (Ext.refl _ wk) rfl
      · -- slot 92
        intro ac wk hx hsame hdep K hK
        have d91 : ac.tmps.getD 91 undef = .bool true := hdep 12 (by kernel_rfl)
        have e91 := d91
        rw [Array.getD_eq_getD_getElem?] at e91
        clear hsame hdep
        go_simp
        exact hK _ _ (Ext.refl _ wk) rfl
      · -- slot 93
        intro ac wk hx hsame hdep K hK
        have d13 : ac.tmps.getD 13 undef = .int .i64 39 := hsame 13 (by kernel_rfl)
        have e13 := d13
        rw [Array.getD_eq_getD_getElem?] at e13
        clear hsame hdep
        go_simp
        exact hK _ _ (Ext.refl _ wk) rfl
      · -- slot 94
        intro ac wk hx hsame hdep K hK
        have d93 : ac.tmps.getD 93 undef = .int .i64 39 := hdep 14 (by kernel_rfl)
        have e93 := d93
        rw [Array.getD_eq_getD_getElem?] at e93
        clear hsame hdep
        go_simp
        exact hK _ _ (Ext.refl _ wk) rfl
      · -- slot 95
        intro ac wk hx hsame hdep K hK
        have d92 : ac.tmps.getD 92 undef = .bool true := hdep 13 (by kernel_rfl)
        have e92 := d92
        rw [Array.getD_eq_getD_getElem?] at e92
        have d94 : ac.tmps.getD 94 undef = .bool true := hdep 15 (by kernel_rfl)
        have e94 := d94
        rw [Array.getD_eq_getD_getElem?] at e94
        clear hsame hdep
        go_simp
        exact hK _ _ (Ext.refl _ wk) rfl
      · intro ac wk hx hdf hsz hsame hvals
        obtain ⟨u0, f0⟩ : ∃ u, ac.tmps.getD 0 undef = u := ⟨_, rfl⟩
        obtain ⟨u1, f1⟩ : ∃ u, ac.tmps.getD 1 undef = u := ⟨_, rfl⟩
        have f2 : ac.tmps.getD 2 undef = .pointer (some ⟨pb, 0, none⟩) := hsame 2 (by kernel_rfl)
        obtain ⟨u3, f3⟩ : ∃ u, ac.tmps.getD 3 undef = u := ⟨_, rfl⟩
        obtain ⟨u4, f4⟩ : ∃ u, ac.tmps.getD 4 undef = u := ⟨_, rfl⟩
        obtain ⟨u5, f5⟩ : ∃ u, ac.tmps.getD 5 undef = u := ⟨_, rfl⟩
        obtain ⟨u6, f6⟩ : ∃ u, ac.tmps.getD 6 undef = u := ⟨_, rfl⟩
        obtain ⟨u7, f7⟩ : ∃ u, ac.tmps.getD 7 undef = u := ⟨_, rfl⟩
        have f8 : ac.tmps.getD 8 undef = .pointer (some ⟨b8, 0, none⟩) := hsame 8 (by kernel_rfl)
        have f9 : ac.tmps.getD 9 undef = .int .i64 0 := hsame 9 (by kernel_rfl)
        obtain ⟨u10, f10⟩ : ∃ u, ac.tmps.getD 10 undef = u := ⟨_, rfl⟩
        have f11 : ac.tmps.getD 11 undef = .int .i64 39 := hsame 11 (by kernel_rfl)
        obtain ⟨u12, f12⟩ : ∃ u, ac.tmps.getD 12 undef = u := ⟨_, rfl⟩
        have f13 : ac.tmps.getD 13 undef = .int .i64 39 := hsame 13 (by kernel_rfl)
        obtain ⟨u14, f14⟩ : ∃ u, ac.tmps.getD 14 undef = u := ⟨_, rfl⟩
        obtain ⟨u15, f15⟩ : ∃ u, ac.tmps.getD 15 undef = u := ⟨_, rfl⟩
        obtain ⟨u16, f16⟩ : ∃ u, ac.tmps.getD 16 undef = u := ⟨_, rfl⟩
        obtain ⟨u17, f17⟩ : ∃ u, ac.tmps.getD 17 undef = u := ⟨_, rfl⟩
        obtain ⟨u18, f18⟩ : ∃ u, ac.tmps.getD 18 undef = u := ⟨_, rfl⟩
        obtain ⟨u19, f19⟩ : ∃ u, ac.tmps.getD 19 undef = u := ⟨_, rfl⟩
        obtain ⟨u20, f20⟩ : ∃ u, ac.tmps.getD 20 undef = u := ⟨_, rfl⟩
        obtain ⟨u21, f21⟩ : ∃ u, ac.tmps.getD 21 undef = u := ⟨_, rfl⟩
        obtain ⟨u22, f22⟩ : ∃ u, ac.tmps.getD 22 undef = u := ⟨_, rfl⟩
        obtain ⟨u23, f23⟩ : ∃ u, ac.tmps.getD 23 undef = u := ⟨_, rfl⟩
        obtain ⟨u24, f24⟩ : ∃ u, ac.tmps.getD 24 undef = u := ⟨_, rfl⟩
        obtain ⟨u25, f25⟩ : ∃ u, ac.tmps.getD 25 undef = u := ⟨_, rfl⟩
        obtain ⟨u26, f26⟩ : ∃ u, ac.tmps.getD 26 undef = u := ⟨_, rfl⟩
        obtain ⟨u27, f27⟩ : ∃ u, ac.tmps.getD 27 undef = u := ⟨_, rfl⟩
        obtain ⟨u28, f28⟩ : ∃ u, ac.tmps.getD 28 undef = u := ⟨_, rfl⟩
        obtain ⟨u29, f29⟩ : ∃ u, ac.tmps.getD 29 undef = u := ⟨_, rfl⟩
        obtain ⟨u30, f30⟩ : ∃ u, ac.tmps.getD 30 undef = u := ⟨_, rfl⟩
        obtain ⟨u31, f31⟩ : ∃ u, ac.tmps.getD 31 undef = u := ⟨_, rfl⟩
        obtain ⟨u32, f32⟩ : ∃ u, ac.tmps.getD 32 undef = u := ⟨_, rfl⟩
        obtain ⟨u33, f33⟩ : ∃ u, ac.tmps.getD 33 undef = u := ⟨_, rfl⟩
        obtain ⟨u34, f34⟩ : ∃ u, ac.tmps.getD 34 undef = u := ⟨_, rfl⟩
        obtain ⟨u35, f35⟩ : ∃ u, ac.tmps.getD 35 undef = u := ⟨_, rfl⟩
        obtain ⟨u36, f36⟩ : ∃ u, ac.tmps.getD 36 undef = u := ⟨_, rfl⟩
        obtain ⟨u37, f37⟩ : ∃ u, ac.tmps.getD 37 undef = u := ⟨_, rfl⟩
        obtain ⟨u38, f38⟩ : ∃ u, ac.tmps.getD 38 undef = u := ⟨_, rfl⟩
        obtain ⟨u39, f39⟩ : ∃ u, ac.tmps.getD 39 undef = u := ⟨_, rfl⟩
        obtain ⟨u40, f40⟩ : ∃ u, ac.tmps.getD 40 undef = u := ⟨_, rfl⟩
        obtain ⟨u41, f41⟩ : ∃ u, ac.tmps.getD 41 undef = u := ⟨_, rfl⟩
        obtain ⟨u42, f42⟩ : ∃ u, ac.tmps.getD 42 undef = u := ⟨_, rfl⟩
        obtain ⟨u43, f43⟩ : ∃ u, ac.tmps.getD 43 undef = u := ⟨_, rfl⟩
        obtain ⟨u44, f44⟩ : ∃ u, ac.tmps.getD 44 undef = u := ⟨_, rfl⟩
        obtain ⟨u45, f45⟩ : ∃ u, ac.tmps.getD 45 undef = u := ⟨_, rfl⟩
        obtain ⟨u46, f46⟩ : ∃ u, ac.tmps.getD 46 undef = u := ⟨_, rfl⟩
        obtain ⟨u47, f47⟩ : ∃ u, ac.tmps.getD 47 undef = u := ⟨_, rfl⟩
        obtain ⟨u48, f48⟩ : ∃ u, ac.tmps.getD 48 undef = u := ⟨_, rfl⟩
        obtain ⟨u49, f49⟩ : ∃ u, ac.tmps.getD 49 undef = u := ⟨_, rfl⟩
        obtain ⟨u50, f50⟩ : ∃ u, ac.tmps.getD 50 undef = u := ⟨_, rfl⟩
        obtain ⟨u51, f51⟩ : ∃ u, ac.tmps.getD 51 undef = u := ⟨_, rfl⟩
        obtain ⟨u52, f52⟩ : ∃ u, ac.tmps.getD 52 undef = u := ⟨_, rfl⟩
        obtain ⟨u53, f53⟩ : ∃ u, ac.tmps.getD 53 undef = u := ⟨_, rfl⟩
        obtain ⟨u54, f54⟩ : ∃ u, ac.tmps.getD 54 undef = u := ⟨_, rfl⟩
        obtain ⟨u55, f55⟩ : ∃ u, ac.tmps.getD 55 undef = u := ⟨_, rfl⟩
        obtain ⟨u56, f56⟩ : ∃ u, ac.tmps.getD 56 undef = u := ⟨_, rfl⟩
        obtain ⟨u57, f57⟩ : ∃ u, ac.tmps.getD 57 undef = u := ⟨_, rfl⟩
        obtain ⟨u58, f58⟩ : ∃ u, ac.tmps.getD 58 undef = u := ⟨_, rfl⟩
        obtain ⟨u59, f59⟩ : ∃ u, ac.tmps.getD 59 undef = u := ⟨_, rfl⟩
        obtain ⟨u60, f60⟩ : ∃ u, ac.tmps.getD 60 undef = u := ⟨_, rfl⟩
        obtain ⟨u61, f61⟩ : ∃ u, ac.tmps.getD 61 undef = u := ⟨_, rfl⟩
        obtain ⟨u62, f62⟩ : ∃ u, ac.tmps.getD 62 undef = u := ⟨_, rfl⟩
        obtain ⟨u63, f63⟩ : ∃ u, ac.tmps.getD 63 undef = u := ⟨_, rfl⟩
        obtain ⟨u64, f64⟩ : ∃ u, ac.tmps.getD 64 undef = u := ⟨_, rfl⟩
        obtain ⟨u65, f65⟩ : ∃ u, ac.tmps.getD 65 undef = u := ⟨_, rfl⟩
        obtain ⟨u66, f66⟩ : ∃ u, ac.tmps.getD 66 undef = u := ⟨_, rfl⟩
        obtain ⟨u67, f67⟩ : ∃ u, ac.tmps.getD 67 undef = u := ⟨_, rfl⟩
        obtain ⟨u68, f68⟩ : ∃ u, ac.tmps.getD 68 undef = u := ⟨_, rfl⟩
        obtain ⟨u69, f69⟩ : ∃ u, ac.tmps.getD 69 undef = u := ⟨_, rfl⟩
        obtain ⟨u70, f70⟩ : ∃ u, ac.tmps.getD 70 undef = u := ⟨_, rfl⟩
        obtain ⟨u71, f71⟩ : ∃ u, ac.tmps.getD 71 undef = u := ⟨_, rfl⟩
        obtain ⟨u72, f72⟩ : ∃ u, ac.tmps.getD 72 undef = u := ⟨_, rfl⟩
        obtain ⟨u73, f73⟩ : ∃ u, ac.tmps.getD 73 undef = u := ⟨_, rfl⟩
        obtain ⟨u74, f74⟩ : ∃ u, ac.tmps.getD 74 undef = u := ⟨_, rfl⟩
        obtain ⟨u75, f75⟩ : ∃ u, ac.tmps.getD 75 undef = u := ⟨_, rfl⟩
        obtain ⟨u76, f76⟩ : ∃ u, ac.tmps.getD 76 undef = u := ⟨_, rfl⟩
        obtain ⟨u77, f77⟩ : ∃ u, ac.tmps.getD 77 undef = u := ⟨_, rfl⟩
        obtain ⟨u78, f78⟩ : ∃ u, ac.tmps.getD 78 undef = u := ⟨_, rfl⟩
        have f79 : ac.tmps.getD 79 undef = .int .i64 0 := hvals 0 (by decide)
        have f80 : ac.tmps.getD 80 undef = .bool true := hvals 1 (by decide)
        have f81 : ac.tmps.getD 81 undef = .bool true := hvals 2 (by decide)
        have f82 : ac.tmps.getD 82 undef = .agg #[.int .i64 code, .slice an2 nn2 cn2, .slice af2 nf2 cf2, .bool done, .int .i64 n] := hvals 3 (by decide)
        obtain ⟨u83, f83⟩ : ∃ u, ac.tmps.getD 83 undef = u := ⟨_, rfl⟩
        have f84 : ac.tmps.getD 84 undef = .agg #[.int .i64 code, .slice an nn cn, .slice af nf cf, .bool done, .int .i64 n] := hvals 5 (by decide)
        obtain ⟨u85, f85⟩ : ∃ u, ac.tmps.getD 85 undef = u := ⟨_, rfl⟩
        obtain ⟨u86, f86⟩ : ∃ u, ac.tmps.getD 86 undef = u := ⟨_, rfl⟩
        have f87 : ac.tmps.getD 87 undef = .bool true := hvals 8 (by decide)
        have f88 : ac.tmps.getD 88 undef = .bool true := hvals 9 (by decide)
        have f89 : ac.tmps.getD 89 undef = .int .i64 39 := hvals 10 (by decide)
        have f90 : ac.tmps.getD 90 undef = .bool true := hvals 11 (by decide)
        have f91 : ac.tmps.getD 91 undef = .bool true := hvals 12 (by decide)
        have f92 : ac.tmps.getD 92 undef = .bool true := hvals 13 (by decide)
        have f93 : ac.tmps.getD 93 undef = .int .i64 39 := hvals 14 (by decide)
        have f94 : ac.tmps.getD 94 undef = .bool true := hvals 15 (by decide)
        have f95 : ac.tmps.getD 95 undef = .bool true := hvals 16 (by decide)
        have hlit : ac = ⟨#[u0, u1, .pointer (some ⟨pb, 0, none⟩), u3, u4, u5, u6, u7, .pointer (some ⟨b8, 0, none⟩), .int .i64 0, u10, .int .i64 39, u12, .int .i64 39, u14, u15, u16, u17, u18, u19, u20, u21, u22, u23, u24, u25, u26, u27, u28, u29, u30, u31, u32, u33, u34, u35, u36, u37, u38, u39, u40, u41, u42, u43, u44, u45, u46, u47, u48, u49, u50, u51, u52, u53, u54, u55, u56, u57, u58, u59, u60, u61, u62, u63, u64, u65, u66, u67, u68, u69, u70, u71, u72, u73, u74, u75, u76, u77, u78, .int .i64 0, .bool true, .bool true, .agg #[.int .i64 code, .slice an2 nn2 cn2, .slice af2 nf2 cf2, .bool done, .int .i64 n], u83, .agg #[.int .i64 code, .slice an nn cn, .slice af nf cf, .bool done, .int .i64 n], u85, u86, .bool true, .bool true, .int .i64 39, .bool true, .bool true, .bool true, .int .i64 39, .bool true, .bool true], []⟩ := by
          refine (act_lit hsz hdf).trans ?_
          rw [show List.range _ = [0, 1, 2, 3, 4, 5, 6, 7, 8, 9, 10, 11, 12, 13, 14, 15, 16, 17, 18, 19, 20, 21, 22, 23, 24, 25, 26, 27, 28, 29, 30, 31, 32, 33, 34, 35, 36, 37, 38, 39, 40, 41, 42, 43, 44, 45, 46, 47, 48, 49, 50, 51, 52, 53, 54, 55, 56, 57, 58, 59, 60, 61, 62, 63, 64, 65, 66, 67, 68, 69, 70, 71, 72, 73, 74, 75, 76, 77, 78, 79, 80, 81, 82, 83, 84, 85, 86, 87, 88, 89, 90, 91, 92, 93, 94, 95] from rfl]
          simp only [List.map_cons, List.map_nil, f0, f1, f2, f3, f4, f5, f6, f7, f8, f9, f10, f11, f12, f13, f14, f15, f16, f17, f18, f19, f20, f21, f22, f23, f24, f25, f26, f27, f28, f29, f30, f31, f32, f33, f34, f35, f36, f37, f38, f39, f40, f41, f42, f43, f44, f45, f46, f47, f48, f49, f50, f51, f52, f53, f54, f55, f56, f57, f58, f59, f60, f61, f62, f63, f64, f65, f66, f67, f68, f69, f70, f71, f72, f73, f74, f75, f76, f77, f78, f79, f80, f81, f82, f83, f84, f85, f86, f87, f88, f89, f90, f91, f92, f93, f94, f95]
        clear hvals hsame hdf hsz f0 f1 f2 f3 f4 f5 f6 f7 f8 f9 f10 f11 f12 f13 f14 f15 f16 f17 f18 f19 f20 f21 f22 f23 f24 f25 f26 f27 f28 f29 f30 f31 f32 f33 f34 f35 f36 f37 f38 f39 f40 f41 f42 f43 f44 f45 f46 f47 f48 f49 f50 f51 f52 f53 f54 f55 f56 f57 f58 f59 f60 f61 f62 f63 f64 f65 f66 f67 f68 f69 f70 f71 f72 f73 f74 f75 f76 f77 f78 f79 f80 f81 f82 f83 f84 f85 f86 f87 f88 f89 f90 f91 f92 f93 f94 f95
        subst hlit
        simp only [List.drop_succ_cons, List.drop_zero]
        go_wp2_with fail
        go_ret
        exact ⟨rfl, HX13.out.trans' hx⟩
end Go.Proofs.Ytchejnnfbinclaa
end
