/- The contract of Join of the documents' answers. -/
import Derived.Test.YtceiahjhfbghpaaApp
import Derived.Test.YtceiahjhfbghpaaProg
namespace Go.Proofs.Ytceiahjhfbghpaa
open Go.RowKit Go.My

theorem u8_infoJ : (Try.prog.info? 5).map (fun i => (i.zero, i.size, i.bytes)) = some (some (.int .u8 0), 1, 1) := by kernel_rfl

theorem flat_take (ls : List (List UInt8)) (k : Nat) (hk : k < ls.length) : (ls.take (k + 1)).flatten = (ls.take k).flatten ++ ls.getD k [] := by
  rw [List.take_add_one, List.flatten_append, List.getElem?_eq_getElem hk]
  simp [List.getD_eq_getElem?_getD, List.getElem?_eq_getElem hk]
theorem flat_take_le (ls : List (List UInt8)) (k : Nat) : (ls.take k).flatten.length ≤ ls.flatten.length := by
  conv => rhs; rw [← List.take_append_drop k ls, List.flatten_append, List.length_append]
  omega

set_option maxRecDepth 100000 in
set_option maxHeartbeats 1000000 in
theorem join_any (ls : List (List UInt8)) (v : Value) (w : World) (h : IsRowsN w ls v) (hb : ls.flatten.length ≤ 1099511627776) :
    Calls Try.prog 16 #[v] w fun e w' => ∃ x, e = .returned x ∧ OwnB w' 5 w.heap.size ls.flatten x ∧ Ext No w w' := by
  have H := Lib.hid h
  obtain ⟨f, ⟨a, c, rfl, hc1, hc2, -⟩, -⟩ := h
  obtain ⟨n, hn⟩ : ∃ n, n = ls.length := ⟨_, rfl⟩
  rw [← hn] at hc1 H ⊢
  have HN := Lib.hid hn; have HB := Lib.hid hb; clear hn hb
  have hx0 : Ext No w (w.alloc (.cells #[] 5)) := (Ext.refl No w).alloc _
  have hown0 : OwnB (w.alloc (.cells #[] 5)) 5 w.heap.size ([] : List UInt8) (.slice (some ⟨w.heap.size, 0, none⟩) 0 0) := World.ownsRow_made w #[] 0 (Nat.le_refl _) (by decide) rfl
  have HX0 := Lib.hid hx0; have HO0 := Lib.hid hown0; clear hx0 hown0
  go_enter Try.func16, Try.ntmps16
  go_wp2_with fail
  go_loopw [3, 4] (fun o i wr => ∃ (k m : Nat) (ax : Option Addr) (cx : Nat), o = .slice ax m cx ∧ i = .int .i64 k ∧ k ≤ n ∧ m = (ls.take k).flatten.length ∧ OwnB wr 5 w.heap.size (ls.take k).flatten (.slice ax m cx) ∧ Ext No w wr) (fun _ i _ => n - (intOf i).toNat)
  case atStart => exact ⟨0, 0, _, _, rfl, rfl, by omega, rfl, HO0.out, HX0.out⟩
  case round =>
    obtain ⟨k, m, ax, cx, rfl, rfl, hk, hm, ho, hx⟩ := hrel
    have HO := Lib.hid ho; have HX := Lib.hid hx; have HM := Lib.hid hm; clear ho hx hm
    by_cases hlt : k < n
    · obtain ⟨b, off, y, rfl, hy, hyb, hyn⟩ := (H.out.ext0 HX.out).get k hlt
      obtain ⟨ay, cy, hyf⟩ : ∃ a c, y = .slice a (ls.getD k []).length c := by obtain ⟨a, c, h, -⟩ := hyb; exact ⟨a, c, h⟩
      have hfl := flat_take ls k (by rw [← HN.out]; exact hlt)
      have hle := flat_take_le ls (k + 1)
      have hbb := HB.out
      have hmm := HM.out
      have hsum : m + (ls.getD k []).length ≤ 1099511627776 := by rw [hfl, List.length_append] at hle; omega
      generalize hy0 : ls.getD k [] = yl at *
      have HYL := Lib.hid (show yl.length = yl.length from rfl)
      obtain ⟨ny, hny⟩ : ∃ ny, ny = yl.length := ⟨_, rfl⟩
      rw [← hny] at hyf hsum
      subst hyf
      have HYB := Lib.hid hyb; have HYN := Lib.hid hyn; have HFL := Lib.hid hfl; have HNY := Lib.hid hny
      have HO' : Hid (wr.ownsRow w.heap.size 5 1 (.slice ax m cx) m (byts (ls.take k).flatten)) := Lib.hid (by have := HO.out; unfold OwnB at this; rw [← HM.out] at this; exact this)
      have HYR : Hid (IsRow wr (byt yl) ny (.slice ay ny cy)) := Lib.hid (by have := HYB.out; unfold IsBytes at this; rw [← HNY.out] at this; exact this)
      have H1 := Lib.hid (show m + ny ≤ 9223372036854775807 by omega)
      have H2 := Lib.hid (show (m + ny) * 1 ≤ 140737488355328 by omega)
      have H3 := Lib.hid HX.out.size
      have H4 := Lib.hid (show ∀ i, i < ny → (byt yl i).oneCell' = true from fun _ _ => rfl)
      have H5 := Lib.hid HYN.out.none
      clear hyb hyn hfl hle hbb hmm hy0 HYL hny hsum
      go_wp2_with (at_builtin; refine wpList_appN _ rfl _ _ 25 rfl w.heap.size 5 _ _ u8_infoJ Try.underlying25 rfl _ _ _ rfl HO'.out _ _ _ (byt yl) rfl HYR.out H5.out H4.out H1.out H2.out H3.out ?_; intro v' w1 hown hg; obtain ⟨a6, c6, rfl⟩ := own_form hown)
      go_roundw
      case rel =>
        have e : m + ny = (ls.take (k + 1)).flatten.length := by rw [HFL.out, List.length_append, ← HM.out, ← HNY.out]
        refine ⟨k + 1, m + ny, a6, c6, rfl, by go_num, by omega, e, ?_, HX.out.grown hg (fun j hj h => by have := (World.ownsRow.lt HO'.out j hj).1; omega)⟩
        rw [HNY.out, byts_range, ← byts_append, ← HFL.out, ← HNY.out, e] at hown
        rw [e]
        exact hown
      case measure => simp [intOf]; omega
    · have hkn : k = n := by omega
      subst hkn
      go_wp2_with fail
      go_ret
      have hf : ls.take k = ls := List.take_of_length_le (by rw [← HN.out]; exact Nat.le_refl _)
      have ho := HO.out
      rw [hf] at ho
      exact ⟨_, rfl, ho, HX.out⟩

end Go.Proofs.Ytceiahjhfbghpaa
