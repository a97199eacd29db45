/- The contract of Same (rows of bytes) of the document's answer. -/
import Derived.Test.YtceiahjhfbghpaaSame
namespace Go.Proofs.Ytceiahjhfbghpaa
open Go.RowKit Go.My

theorem take_step {α : Type} (ls ks : List α) (d : α) (k : Nat) (h1 : k < ls.length) (h2 : k < ks.length) (h : ls.take k = ks.take k) : ls.take (k + 1) = ks.take (k + 1) ↔ ls.getD k d = ks.getD k d := by
  rw [List.take_add_one, List.take_add_one, h, List.getElem?_eq_getElem h1, List.getElem?_eq_getElem h2, List.getD_eq_getElem?_getD, List.getD_eq_getElem?_getD, List.getElem?_eq_getElem h1, List.getElem?_eq_getElem h2]
  simp only [Option.toList_some, Option.getD_some, List.append_cancel_left_eq, List.cons.injEq, and_true]

set_option maxRecDepth 100000 in
set_option maxHeartbeats 1000000 in
theorem same4_dr (ls ks : List (List UInt8)) (v u : Value) (w : World) (h : IsRows w ls v) (h' : IsRows w ks u) :
    Calls Try.prog 12 #[v, u] w fun e w' => e = .returned (.bool (decide (ls = ks))) ∧ Dr w w' := by
  obtain ⟨f, hr1, he1⟩ := h
  obtain ⟨g, hr2, he2⟩ := h'
  have hr1' := hr1; have hr2' := hr2
  obtain ⟨a, c, rfl, hc1, hc2, -⟩ := hr1
  obtain ⟨b, d, rfl, hc3, hc4, -⟩ := hr2
  have H := Lib.hid (And.intro hr1' (And.intro hr2' (And.intro he1 he2))); clear hr1' hr2' he1 he2
  obtain ⟨m, hm⟩ : ∃ m, m = ls.length := ⟨_, rfl⟩
  obtain ⟨n, hn⟩ : ∃ n, n = ks.length := ⟨_, rfl⟩
  rw [← hm] at hc1 ⊢; rw [← hn] at hc3 ⊢
  have HM := Lib.hid hm; have HN := Lib.hid hn; clear hm hn
  go_enter Try.func12, Try.ntmps12
  by_cases hmn : m = n
  · subst hmn
    go_wp2_with fail
    go_loopw [5] (fun i wr => ∃ k : Nat, i = .int .i64 k ∧ k ≤ m ∧ Dr w wr ∧ ls.take k = ks.take k) (fun i _ => m - (intOf i).toNat)
    case atStart => exact ⟨0, rfl, by omega, Dr.refl _, by simp⟩
    case round =>
      obtain ⟨k, rfl, hk, hdr, ht⟩ := hrel
      have HT := Lib.hid ht; have HDR := Lib.hid hdr
      by_cases hlt : k < m
      · obtain ⟨h1, h2, h3, h4⟩ := H.out
        rw [← HM.out] at h1 h3; rw [← HN.out] at h2 h4
        obtain ⟨b1, o1, rfl, e1⟩ := h1.get k hlt
        obtain ⟨b2, o2, rfl, e2⟩ := h2.get k hlt
        rw [← hdr.cell] at e1 e2
        have h3' := h3 k hlt
        have h4' := h4 k hlt
        have hst := take_step ls ks [] k (by rw [← HM.out]; exact hlt) (by rw [← HN.out]; exact hlt) HT.out
        generalize ls.getD k [] = l1 at *
        generalize ks.getD k [] = l2 at *
        generalize f k = x1 at *
        generalize g k = x2 at *
        have hx1 : ∃ a n c, x1 = .slice a n c := by obtain ⟨a, c, h, -⟩ := h3'; exact ⟨_, _, _, h⟩
        have hx2 : ∃ a n c, x2 = .slice a n c := by obtain ⟨a, c, h, -⟩ := h4'; exact ⟨_, _, _, h⟩
        obtain ⟨a1, n1, c1, rfl⟩ := hx1
        obtain ⟨a2, n2, c2, rfl⟩ := hx2
        have hq : ∀ j, Calls Try.prog 15 #[.slice a1 n1 c1, .slice a2 n2 c2] (wr.drewN j) fun e w'' => e = .returned (.bool (decide (l1 = l2))) ∧ ∃ i, w'' = wr.drewN i := fun j =>
          quiet_of_eq (same1_any l1 l2 _ _ _ ((h3'.ext0 (hdr.ext No)).ext0 ((Dr.mk _ _).ext No)) ((h4'.ext0 (hdr.ext No)).ext0 ((Dr.mk _ _).ext No)))
        have HQ := Lib.hid hq; have HST := Lib.hid hst; clear hq hst h1 h2 h3 h4 h3' h4' hdr ht
        by_cases heq : l1 = l2
        · have hd : decide (l1 = l2) = true := by simpa using heq
          generalize decide (l1 = l2) = r at *
          subst hd
          go_wp2_with fail
          go_quiet ((go_at_call 15; exact HQ.out _))
          go_wp2_with fail
          go_roundw
          case rel => exact ⟨k + 1, by go_num, by omega, HDR.out.more _, HST.out.2 heq⟩
          case measure => simp [intOf]; omega
        · have hd : decide (l1 = l2) = false := by simpa using heq
          generalize decide (l1 = l2) = r at *
          subst hd
          go_wp2_with fail
          go_quiet ((go_at_call 15; exact HQ.out _))
          go_wp2_with fail
          go_ret
          refine ⟨?_, HDR.out.more _⟩
          have : ¬ ls = ks := fun h => heq (HST.out.1 (by rw [h]))
          simp [this]
      · have hkm : k = m := by omega
        subst hkm
        clear hdr ht
        go_wp2_with fail
        go_ret
        refine ⟨?_, HDR.out⟩
        have : ls = ks := by
          have h := HT.out
          rw [List.take_of_length_le (by rw [← HM.out]; exact Nat.le_refl _), List.take_of_length_le (by rw [← HN.out]; exact Nat.le_refl _)] at h
          exact h
        simp [this]
  · have hne : ¬ ((m : Int) = n) := by omega
    go_wp2_with fail
    go_ret
    refine ⟨?_, Dr.refl _⟩
    have : ¬ ls = ks := fun h => hmn (by rw [HM.out, HN.out, h])
    simp [this]

theorem same4_any (ls ks : List (List UInt8)) (v u : Value) (w : World) (h : IsRows w ls v) (h' : IsRows w ks u) :
    Calls Try.prog 12 #[v, u] w fun e w' => e = .returned (.bool (decide (ls = ks))) ∧ Ext No w w' :=
  (same4_dr ls ks v u w h h').mono fun _ _ ⟨h1, h2⟩ => ⟨h1, h2.ext No⟩

end Go.Proofs.Ytceiahjhfbghpaa
