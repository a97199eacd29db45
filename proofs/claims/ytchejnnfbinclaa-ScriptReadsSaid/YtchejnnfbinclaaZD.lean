/-
  JOINED (4): the contracts of the documents own answer: numbers, reading, files.
-/
import Derived.Test.YtchejnnfbinclaaZC
import Derived.Test.YtchejnnfbinclaaProg
import Derived.StillTail
set_option linter.unusedVariables false
set_option linter.unusedSimpArgs false

section
/- The contract of Join of the documents' answers. -/
namespace Go.Proofs.Ytchejnnfbinclaa
open Go.RowKit Go.My

theorem u8_infoJ : (Try.prog.info? 5).map (fun i => (i.zero, i.size, i.bytes)) = some (some (.int .u8 0), 1, 1) := by kernel_rfl

theorem flat_take (ls : List (List UInt8)) (k : Nat) (hk : k < ls.length) : (ls.take (k + 1)).flatten = (ls.take k).flatten ++ ls.getD k [] := by
  rw [List.take_add_one, List.flatten_append, List.getElem?_eq_getElem hk]
  simp [List.getD_eq_getElem?_getD, List.getElem?_eq_getElem hk]
theorem flat_take_le (ls : List (List UInt8)) (k : Nat) : (ls.take k).flatten.length ≤ ls.flatten.length := by
  conv => rhs; rw [← List.take_append_drop k ls, List.flatten_append, List.length_append]
  omega

set_option maxRecDepth 100000 in
set_option maxHeartbeats 1000000 in
theorem join_any (ls : List (List UInt8)) (v : Value) (w : World) (h : IsRowsN w ls v) (hb : ls.flatten.length ≤ 1099511627776) :
    Calls Try.prog 46 #[v] w fun e w' => ∃ x, e = .returned x ∧ OwnB w' 5 w.heap.size ls.flatten x ∧ Ext No w w' := by
  have H := Lib.hid h
  obtain ⟨f, ⟨a, c, rfl, hc1, hc2, -⟩, -⟩ := h
  obtain ⟨n, hn⟩ : ∃ n, n = ls.length := ⟨_, rfl⟩
  rw [← hn] at hc1 H ⊢
  have HN := Lib.hid hn; have HB := Lib.hid hb; clear hn hb
  have hx0 : Ext No w (w.alloc (.cells #[] 5)) := (Ext.refl No w).alloc _
  have hown0 : OwnB (w.alloc (.cells #[] 5)) 5 w.heap.size ([] : List UInt8) (.slice (some ⟨w.heap.size, 0, none⟩) 0 0) := World.ownsRow_made w #[] 0 (Nat.le_refl _) (by decide) rfl
  have HX0 := Lib.hid hx0; have HO0 := Lib.hid hown0; clear hx0 hown0
  go_enter Try.func46, Try.ntmps46
  go_wp2_with fail
  go_loopw [3, 4] (fun o i wr => ∃ (k m : Nat) (ax : Option Addr) (cx : Nat), o = .slice ax m cx ∧ i = .int .i64 k ∧ k ≤ n ∧ m = (ls.take k).flatten.length ∧ OwnB wr 5 w.heap.size (ls.take k).flatten (.slice ax m cx) ∧ Ext No w wr) (fun _ i _ => n - (intOf i).toNat)
  case atStart => exact ⟨0, 0, _, _, rfl, rfl, by omega, rfl, HO0.out, HX0.out⟩
  case round =>
    obtain ⟨k, m, ax, cx, rfl, rfl, hk, hm, ho, hx⟩ := hrel
    have HO := Lib.hid ho; have HX := Lib.hid hx; have HM := Lib.hid hm; clear ho hx hm
    by_cases hlt : k < n
    · obtain ⟨b, off, y, rfl, hy, hyb, hyn⟩ := (H.out.ext0 HX.out).get k hlt
      obtain ⟨ay, cy, hyf⟩ : ∃ a c, y = .slice a (ls.getD k []).length c := by obtain ⟨a, c, h, -⟩ := hyb; exact ⟨a, c, h⟩
      have hfl := flat_take ls k (by rw [← HN.out]; exact hlt)
      have hle := flat_take_le ls (k + 1)
      have hbb := HB.out
      have hmm := HM.out
      have hsum : m + (ls.getD k []).length ≤ 1099511627776 := by rw [hfl, List.length_append] at hle; omega
      generalize hy0 : ls.getD k [] = yl at *
      have HYL := Lib.hid (show yl.length = yl.length from rfl)
      obtain ⟨ny, hny⟩ : ∃ ny, ny = yl.length := ⟨_, rfl⟩
      rw [← hny] at hyf hsum
      subst hyf
      have HYB := Lib.hid hyb; have HYN := Lib.hid hyn; have HFL := Lib.hid hfl; have HNY := Lib.hid hny
      have HO' : Hid (wr.ownsRow w.heap.size 5 1 (.slice ax m cx) m (byts (ls.take k).flatten)) := Lib.hid (by have := HO.out; unfold OwnB at this; rw [← HM.out] at this; exact this)
      have HYR : Hid (IsRow wr (byt yl) ny (.slice ay ny cy)) := Lib.hid (by have := HYB.out; unfold IsBytes at this; rw [← HNY.out] at this; exact this)
      have H1 := Lib.hid (show m + ny ≤ 9223372036854775807 by omega)
      have H2 := Lib.hid (show (m + ny) * 1 ≤ 140737488355328 by omega)
      have H3 := Lib.hid HX.out.size
      have H4 := Lib.hid (show ∀ i, i < ny → (byt yl i).oneCell' = true from fun _ _ => rfl)
      have H5 := Lib.hid HYN.out.none
      clear hyb hyn hfl hle hbb hmm hy0 HYL hny hsum
      go_wp2_with (at_builtin; refine wpList_appN _ rfl _ _ 31 rfl w.heap.size 5 _ _ u8_infoJ Try.underlying31 rfl _ _ _ rfl HO'.out _ _ _ (byt yl) rfl HYR.out H5.out H4.out H1.out H2.out H3.out ?_; intro v' w1 hown hg; obtain ⟨a6, c6, rfl⟩ := own_form hown)
      go_roundw
      case rel =>
        have e : m + ny = (ls.take (k + 1)).flatten.length := by rw [HFL.out, List.length_append, ← HM.out, ← HNY.out]
        refine ⟨k + 1, m + ny, a6, c6, rfl, by go_num, by omega, e, ?_, HX.out.grown hg (fun j hj h => by have := (World.ownsRow.lt HO'.out j hj).1; omega)⟩
        rw [HNY.out, byts_range, ← byts_append, ← HFL.out, ← HNY.out, e] at hown
        rw [e]
        exact hown
      case measure => simp [intOf]; omega
    · have hkn : k = n := by omega
      subst hkn
      go_wp2_with fail
      go_ret
      have hf : ls.take k = ls := List.take_of_length_le (by rw [← HN.out]; exact Nat.le_refl _)
      have ho := HO.out
      rw [hf] at ho
      exact ⟨_, rfl, ho, HX.out⟩

end Go.Proofs.Ytchejnnfbinclaa
end

section
/- The contracts of the documents' answer for fields in bytes: Held, Num, Bytes. -/
namespace Go.Proofs.Ytchejnnfbinclaa
open Go.RowKit Go.My

set_option maxRecDepth 100000 in
set_option maxHeartbeats 400000 in
theorem heldR_any (n a b : Int) (w : World) (h1 : a ≤ n) (h2 : n ≤ b) :
    Calls Try.prog 70 #[.int .i64 n, .int .i64 a, .int .i64 b] w fun e w' => e = .returned (.int .i64 n) ∧ w = w' := by
  have hd1 : decide (b < n) = false := by simp; omega
  have hd2 : decide (n < a) = false := by simp; omega
  go_enter Try.func70, Try.ntmps70
  go_wp2_with fail
  go_ret
  exact ⟨rfl, rfl⟩

theorem numB_byteR (q : Nat) : (((UInt8.ofNat (q % 256)).toNat : Nat) : Int) = (q : Int) % 256 := by
  rw [UInt8.toNat_ofNat']; omega

set_option maxRecDepth 100000 in
set_option maxHeartbeats 2000000 in
theorem numR_any (m k : Nat) (hm : m ≤ 18446744073709551615) (h1 : 1 ≤ k) (h8 : k ≤ 8) (w : World) :
    Calls Try.prog 44 #[.int .u64 m, .int .i64 k] w fun e w' => ∃ x, e = .returned x ∧ OwnB w' 5 w.heap.size (numB m k) x ∧ Ext No w w' := by
  have hx0 : Ext No w (w.alloc (.cells #[] 5)) := (Ext.refl No w).alloc _
  have hown0 : OwnB (w.alloc (.cells #[] 5)) 5 w.heap.size ([] : List UInt8) (.slice (some ⟨w.heap.size, 0, none⟩) 0 0) := World.ownsRow_made w #[] 0 (Nat.le_refl _) (by decide) rfl
  have HX0 := Lib.hid hx0; have HO0 := Lib.hid hown0; clear hx0 hown0
  go_enter Try.func44, Try.ntmps44
  go_wp2_with fail
  go_loopw [0, 5, 6] (fun n o i wr => ∃ (j : Nat) (a : Option Addr) (c : Nat), j ≤ k ∧ i = .int .i64 j ∧ n = .int .u64 ((m / 256 ^ j : Nat) : Int) ∧ o = .slice a j c ∧ OwnB wr 5 w.heap.size (numB m j) (.slice a j c) ∧ Ext No w wr) (fun _ _ i _ => k - (intOf i).toNat)
  case atStart => exact ⟨0, _, 0, by omega, rfl, by simp, rfl, HO0.out, HX0.out⟩
  case round =>
    obtain ⟨j, a, c, hj, rfl, rfl, rfl, ho, hx⟩ := hrel
    have HO := Lib.hid ho; have HX := Lib.hid hx; clear ho hx
    go_wp2_with fail
    refine (heldR_any k 1 8 wr (by omega) (by omega)).mono ?_
    rintro e w' ⟨rfl, rfl⟩
    dsimp only
    by_cases hlt : j < k
    · have hsn := numB_snoc j m
      have hq : m / 256 ^ j ≤ m := Nat.div_le_self _ _
      generalize hqq : m / 256 ^ j = q at *
      have hby := numB_byteR q
      generalize hcc : UInt8.ofNat (q % 256) = cc at *
      have hown := HO.out
      unfold OwnB at hown
      rw [numB_length] at hown
      have HOB := Lib.hid (hown.alloc (.cells #[.int .u8 ((q : Int) % 256)] 5))
      have HZ := Lib.hid (show w.heap.size ≤ (wr.alloc (.cells #[.int .u8 ((q : Int) % 256)] 5)).heap.size by have := HX.out.size; rw [World.size_alloc]; omega)
      have HN := Lib.hid (show j + 1 ≤ 9223372036854775807 ∧ (j + 1) * 1 ≤ 140737488355328 by omega)
      have HBY := Lib.hid hby; have HSN := Lib.hid hsn; have HQQ := Lib.hid hqq
      have hq64 : q ≤ 18446744073709551615 := by omega
      have hlt' : (j : Int) < k := by omega
      clear hby hsn hqq hown hcc
      go_wp2_with (at_builtin; refine wpList_app1 _ _ rfl _ _ 31 rfl w.heap.size 5 _ _ u8_infoJ Try.underlying31 rfl _ _ _ rfl HOB.out _ rfl (cell_new _ _ _ rfl) rfl HN.out.1 HN.out.2 HZ.out ?_; intro v' w2 hown2 hg; obtain ⟨a6, c6, rfl⟩ := own_form hown2)
      go_roundw
      case rel =>
        have e : m / 256 ^ (j + 1) = q / 256 := by rw [Nat.pow_succ, ← Nat.div_div_eq_div_mul, HQQ.out]
        refine ⟨j + 1, a6, c6, by omega, by go_num, by rw [e]; rfl, rfl, ?_, ?_⟩
        · have h := hown2
          unfold OwnB
          rw [numB_length, HSN.out, byts_append]
          have e2 : byts [cc] = [.int .u8 ((q : Int) % 256)] := by rw [← HBY.out]; rfl
          rw [e2]; exact h
        · exact (HX.out.alloc _).grown hg (fun i hi hlt => absurd hlt (by have := (HO.out.lt i hi).1; omega))
      case measure => simp [intOf]; omega
    · have hjk : j = k := by omega
      subst hjk
      go_wp2_with fail
      go_ret
      exact ⟨_, rfl, HO.out, HX.out⟩

set_option maxRecDepth 100000 in
set_option maxHeartbeats 2000000 in
theorem bytesR_any (x : List UInt8) (a : Option Addr) (n c : Nat) (w : World) (hx : IsBytes w x (.slice a n c)) (hn : NilOk (.slice a n c)) (hl : x.length ≤ 1099511627000) :
    Calls Try.prog 45 #[.slice a n c] w fun e w' => ∃ y, e = .returned y ∧ OwnB w' 5 w.heap.size (bytesB x) y ∧ Ext No w w' := by
  have hnx := hx.len
  have H := Lib.hid hx; have HN := Lib.hid hn; have HNX := Lib.hid hnx; have HL := Lib.hid hl
  have hn2 : n ≤ 1099511627776 := by omega
  clear hx hn hnx hl
  go_enter Try.func45, Try.ntmps45
  go_wp2_with fail
  refine (numR_any n 4 (by omega) (by decide) (by decide) w).mono ?_
  rintro e w1 ⟨y, rfl, ho, hx1⟩
  obtain ⟨ay, cy, hyf⟩ := own_form ho
  rw [numB_length] at hyf
  subst hyf
  have HO := Lib.hid ho; have HX1 := Lib.hid hx1; clear ho hx1
  have hrows : IsRowsN (w1.alloc (.cells #[.slice ay 4 cy, .slice a n c] 31)) [numB n 4, x] (.slice (some ⟨w1.heap.size, 0, none⟩) 2 2) := by
    have hxa : Ext No w1 (w1.alloc (.cells #[.slice ay 4 cy, .slice a n c] 31)) := (Ext.refl No w1).alloc _
    refine ⟨fun i => if i = 0 then .slice ay 4 cy else .slice a n c, ⟨_, 2, rfl, by simp, by decide, Rd.of_blk (Blk.new w1 _ _) (fun i hi => ?_)⟩, fun i hi => ?_⟩
    · have : i = 0 ∨ i = 1 := by simp at hi; omega
      rcases this with rfl | rfl <;> rfl
    · have : i = 0 ∨ i = 1 := by simp at hi; omega
      rcases this with rfl | rfl
      · exact ⟨(HO.out.ext hxa (fun _ _ s => s)).bytes, NilOk.own HO.out⟩
      · exact ⟨(H.out.ext0 HX1.out).ext0 hxa, HN.out⟩
  have HR := Lib.hid hrows; clear hrows
  dsimp only
  go_wp2_with fail
  refine (join_any [numB n 4, x] _ _ HR.out (by have := HL.out; simp [numB_length]; omega)).mono ?_
  rintro e w2 ⟨z, rfl, ho2, hx2⟩
  have e : [numB n 4, x].flatten = bytesB x := by unfold bytesB; simp [HNX.out]
  rw [e] at ho2
  have HO2 := Lib.hid ho2; have HX2 := Lib.hid hx2; clear ho2 hx2
  dsimp only
  go_wp2_with fail
  go_ret
  refine ⟨z, rfl, own_le HO2.out (by have := HX1.out.size; rw [World.size_alloc]; omega), ?_⟩
  exact ((HX1.out.alloc _).trans' HX2.out)

end Go.Proofs.Ytchejnnfbinclaa
end

section
/- The contracts of the documents' reader: Raw, Get, Some, End. -/
namespace Go.Proofs.Ytchejnnfbinclaa
open Go.RowKit Go.My

abbrev RSt := List UInt8 × Int
/-- a reader's value that reads so -/
def IsRd (w : World) (s : RSt) (v : Value) : Prop := ∃ a n c, v = .agg #[.slice a n c, .int .i64 s.2] ∧ IsBytes w s.1 (.slice a n c) ∧ NilOk (.slice a n c)
theorem IsRd.ext0 {w w' : World} {s : RSt} {v : Value} (h : IsRd w s v) (x : Ext No w w') : IsRd w' s v := by
  obtain ⟨a, n, c, h1, h2, h3⟩ := h
  exact ⟨a, n, c, h1, h2.ext0 x, h3⟩
/-- bytes that may be nil -/
def IsBN (w : World) (l : List UInt8) (v : Value) : Prop := ∃ a n c, v = .slice a n c ∧ IsBytes w l v ∧ NilOk v
theorem IsBN.ext0 {w w' : World} {l : List UInt8} {v : Value} (h : IsBN w l v) (x : Ext No w w') : IsBN w' l v := by
  obtain ⟨a, n, c, h1, h2, h3⟩ := h
  exact ⟨a, n, c, h1, h2.ext0 x, h3⟩
def rawS (s : RSt) (n : Nat) : RSt × List UInt8 :=
  if s.2 ≠ 0 then (s, []) else if s.1.length < n then ((s.1, 20), []) else ((s.1.drop n, s.2), s.1.take n)
def getS (s : RSt) (k : Nat) : RSt × Nat := ((rawS s k).1, getN (rawS s k).2)
def someS (s : RSt) (most : Nat) : RSt × List UInt8 :=
  if (getS s 4).1.2 ≠ 0 then ((s.1, (getS s 4).1.2), []) else if most < (getS s 4).2 then ((s.1, 2), []) else if (getS s 4).1.1.length < (getS s 4).2 then ((s.1, 20), []) else rawS (getS s 4).1 (getS s 4).2
def endS (s : RSt) : Int := if s.2 = 0 ∧ 0 < s.1.length then 22 else s.2

theorem IsBN.nil (w : World) : IsBN w [] (.slice none 0 0) := ⟨none, 0, 0, rfl, IsRow.nil _ _, fun n c h => by simp at h; exact h.2.symm⟩
theorem nilok_drop {a : Option Addr} {n c k : Nat} (h : NilOk (.slice a n c)) (hk : k ≤ c) : NilOk (dropS a k n c) := by
  rw [dropS_eq]
  cases a with
  | none =>
    have hc := h.none rfl
    subst hc
    have : dropA none k 0 = none := by rw [dropA_def]; split <;> rfl
    rw [this]
    intro n' c' he; simp at he; omega
  | some x =>
    rw [dropA_def]
    split
    · exact NilOk.some _ _ _
    · exact NilOk.some _ _ _

set_option maxRecDepth 100000 in
set_option maxHeartbeats 4000000 in
theorem rawR_any (s : RSt) (v : Value) (n : Nat) (hn : n ≤ 9223372036854775807) (wo w : World) (h : IsRd wo s v) :
    Calls Try.prog 57 #[v, .int .i64 n] w fun e w' => Ext No w w' ∧ ∃ r x, e = .returned (.tuple #[r, x]) ∧ IsRd wo (rawS s n).1 r ∧ IsBN wo (rawS s n).2 x := by
  obtain ⟨l, e⟩ := s
  obtain ⟨a, m, c, rfl, hb, hnl⟩ := h
  simp only at hb
  have hm := hb.len
  have hcc := (IsRow.len hb).2
  have hnd : decide ((n : Int) < 0) = false := by simp
  have HB := Lib.hid hb; have HNL := Lib.hid hnl; have HM := Lib.hid hm
  clear hb hnl hm
  by_cases he : e = 0
  case neg =>
    have hen : (e != 0) = true := by simpa using he
    have hr : rawS (l, e) n = ((l, e), []) := by unfold rawS; rw [if_pos he]
    rw [hr]
    have HR := Lib.hid he
    clear hr
    go_enter Try.func57, Try.ntmps57
    go_wp2_with fail
    refine bodyPost_ret (v := .tuple #[.agg #[.slice a m c, .int .i64 e], .slice none 0 0]) (by simp [results, Try.results57, go_sem]) rfl ?_
    have hx : Ext No w ((w.alloc (.cells #[.slice a m c, .int .i64 e] 100)).alloc (.cells #[.slice a m c, .int .i64 e] 100)) := ((Ext.refl No w).alloc _).alloc _
    exact ⟨hx, _, _, rfl, ⟨a, m, c, rfl, HB.out, HNL.out⟩, IsBN.nil _⟩
  subst he
  by_cases hmn : m < n
  · have hr : rawS (l, 0) n = ((l, 20), []) := by unfold rawS; rw [if_neg (by simp), if_pos (by rw [← HM.out]; exact hmn)]
    rw [hr]
    clear hr
    go_enter Try.func57, Try.ntmps57
    go_wp2_with fail
    refine bodyPost_ret (v := .tuple #[.agg #[.slice a m c, .int .i64 20], .slice none 0 0]) (by simp [results, Try.results57, go_sem]) rfl ?_
    have hx : Ext No w ((w.alloc (.cells #[.slice a m c, .int .i64 20] 100)).alloc (.cells #[.slice a m c, .int .i64 20] 100)) := ((Ext.refl No w).alloc _).alloc _
    exact ⟨hx, _, _, rfl, ⟨a, m, c, rfl, HB.out, HNL.out⟩, IsBN.nil _⟩
  · have hr : rawS (l, 0) n = ((l.drop n, 0), l.take n) := by unfold rawS; rw [if_neg (by simp), if_neg (by rw [← HM.out]; exact hmn)]
    rw [hr]
    have hnc : n ≤ c := by omega
    have hnm : n ≤ m := by omega
    have hd := HB.out.dropS n hnm
    have hnd' := nilok_drop HNL.out hnc
    have ht := HB.out.take n hnm
    have hnt : NilOk (.slice a n c) := fun n' c' he => by
      simp only [Value.slice.injEq] at he; obtain ⟨rfl, rfl, rfl⟩ := he
      exact HNL.out m c rfl
    rw [dropS_eq] at hd hnd'
    have HD := Lib.hid hd; have HND := Lib.hid hnd'; have HT := Lib.hid ht; have HNT := Lib.hid hnt
    clear hr hd hnd' ht hnt
    by_cases hcn : c = n
    · subst hcn
      obtain rfl : m = c := by omega
      rw [dropA_def, if_pos rfl] at HD HND
      go_enter Try.func57, Try.ntmps57
      go_wp2_with fail
      refine bodyPost_ret (v := .tuple #[.agg #[.slice a 0 0, .int .i64 0], .slice a m m]) (by simp [results, Try.results57, go_sem]) rfl ?_
      rw [Nat.sub_self] at HD HND
      have hx : Ext No w ((w.alloc (.cells #[.slice a 0 0, .int .i64 0] 100)).alloc (.cells #[.slice a 0 0, .int .i64 0] 100)) := ((Ext.refl No w).alloc _).alloc _
      exact ⟨hx, _, _, rfl, ⟨_, _, _, rfl, HD.out, HND.out⟩, ⟨_, _, _, rfl, HT.out, HNT.out⟩⟩
    · rw [dropA_def, if_neg hcn] at HD HND
      go_enter Try.func57, Try.ntmps57
      go_wp2_with fail
      refine bodyPost_ret (v := .tuple #[.agg #[.slice (a.map (fun x => x.add n)) (m - n) (c - n), .int .i64 0], .slice a n c]) (by simp [results, Try.results57, go_sem]) rfl ?_
      have hx : Ext No w ((w.alloc (.cells #[.slice (a.map (fun x => x.add n)) (m - n) (c - n), .int .i64 0] 100)).alloc (.cells #[.slice (a.map (fun x => x.add n)) (m - n) (c - n), .int .i64 0] 100)) := ((Ext.refl No w).alloc _).alloc _
      exact ⟨hx, _, _, rfl, ⟨_, _, _, rfl, HD.out, HND.out⟩, ⟨_, _, _, rfl, HT.out, HNT.out⟩⟩

set_option maxRecDepth 100000 in
set_option maxHeartbeats 4000000 in
theorem endR_any (s : RSt) (v : Value) (w : World) (h : IsRd w s v) :
    Calls Try.prog 59 #[v] w fun e w' => Ext No w w' ∧ e = .returned (.int .i64 (endS s)) := by
  obtain ⟨l, e⟩ := s
  obtain ⟨a, m, c, rfl, hb, hnl⟩ := h
  simp only at hb
  have hm := hb.len
  by_cases he : e = 0
  · subst he
    by_cases h0 : 0 < m
    · have hr : endS (l, 0) = 22 := by unfold endS; rw [if_pos ⟨rfl, by rw [← hm]; exact h0⟩]
      rw [hr]
      clear hr hb hnl hm
      have h0' : decide (0 < (m : Int)) = true := by simpa using h0
      go_enter Try.func59, Try.ntmps59
      go_wp2_with fail
      go_ret
      exact ⟨(Ext.refl No w).alloc _, rfl⟩
    · have hr : endS (l, 0) = 0 := by unfold endS; rw [if_neg (fun h => h0 (by rw [hm]; exact h.2))]
      rw [hr]
      clear hr hb hnl hm
      obtain rfl : m = 0 := by omega
      go_enter Try.func59, Try.ntmps59
      go_wp2_with fail
      go_ret
      exact ⟨(Ext.refl No w).alloc _, rfl⟩
  · have hr : endS (l, e) = e := by unfold endS; rw [if_neg (fun h => he h.1)]
    rw [hr]
    have hen : (e == 0) = false := by simpa using he
    clear hr hb hnl hm
    go_enter Try.func59, Try.ntmps59
    go_wp2_with fail
    go_ret
    exact ⟨(Ext.refl No w).alloc _, rfl⟩

end Go.Proofs.Ytchejnnfbinclaa
end

section
/- The contracts of the documents' reader: Get. -/
namespace Go.Proofs.Ytchejnnfbinclaa
open Go.RowKit Go.My

theorem rawS_len (s : RSt) (n : Nat) : (rawS s n).2.length ≤ n := by
  unfold rawS
  split
  · simp
  · split
    · simp
    · simp only [List.length_take]; omega
theorem getN_drop (l : List UInt8) (j : Nat) (h : j < l.length) : getN (l.drop j) = (l.getD j 0).toNat + 256 * getN (l.drop (j + 1)) := by
  rw [List.drop_eq_getElem_cons h, getN]
  simp [List.getD_eq_getElem?_getD, List.getElem?_eq_getElem h]

set_option maxRecDepth 100000 in
set_option maxHeartbeats 4000000 in
theorem getR_any (s : RSt) (v : Value) (k : Nat) (h1 : 1 ≤ k) (h8 : k ≤ 8) (wo w : World) (hwo : Ext No wo w) (h : IsRd wo s v) :
    Calls Try.prog 55 #[v, .int .i64 k] w fun e w' => Ext No w w' ∧ ∃ r, e = .returned (.tuple #[r, .int .u64 ((getS s k).2 : Nat)]) ∧ IsRd wo (getS s k).1 r := by
  unfold getS
  have hlen := rawS_len s k
  have H := Lib.hid h; have HWO := Lib.hid hwo; clear hwo
  obtain ⟨a, m, c, rfl, -, -⟩ := h
  have hraw : ∀ w1, _ := fun w1 => rawR_any s (.agg #[.slice a m c, .int .i64 s.2]) k (by omega) wo w1 H.out
  have HRAW := Lib.hid hraw; have HLEN := Lib.hid hlen
  clear hraw hlen
  generalize (rawS s k).1 = s1 at *
  generalize (rawS s k).2 = b at *
  go_enter Try.func55, Try.ntmps55
  go_wp2_with fail
  obtain ⟨w0, hw0⟩ : ∃ w0, (w.alloc (.cells #[.slice a m c, .int .i64 s.2] 100)).alloc (.cells #[.slice none 0 0, .int .i64 0] 100) = w0 := ⟨_, rfl⟩
  have hx0 : Ext No w w0 := by rw [← hw0]; exact ((Ext.refl No w).alloc _).alloc _
  have hb0 : Blk w0 w.heap.size #[.slice a m c, .int .i64 s.2] 100 := by rw [← hw0]; exact (Blk.new w _ _).alloc _
  have hb1 : Blk w0 (w.heap.size + 1) #[.slice none 0 0, .int .i64 0] 100 := by
    have := Blk.new (w.alloc (.cells #[.slice a m c, .int .i64 s.2] 100)) #[.slice none 0 0, .int .i64 0] 100
    rw [World.size_alloc, hw0] at this; exact this
  rw [hw0]
  obtain ⟨pb, hpb⟩ : ∃ pb, w.heap.size = pb := ⟨_, rfl⟩
  obtain ⟨rb, hrb⟩ : ∃ rb, pb + 1 = rb := ⟨_, rfl⟩
  rw [hpb] at hb0 hb1 ⊢
  rw [hrb] at hb1 ⊢
  have hc0 := hb0.cell 0; have hc1 := hb0.cell 1
  simp only [List.getElem?_toArray, List.getElem?_cons_zero, List.getElem?_cons_succ] at hc0 hc1
  have HX0 := Lib.hid hx0; have HB0 := Lib.hid hb0; have HB1 := Lib.hid hb1; have HPB := Lib.hid hpb; have HRB := Lib.hid hrb
  clear hx0 hb0 hb1 hpb hrb hw0
  go_region_with (first
    | (go_at_call 70; refine (heldR_any k 1 8 w0.drew (Int.ofNat_le.2 h1) (Int.ofNat_le.2 h8)).mono ?_; rintro e w' ⟨rfl, rfl⟩)
    | (go_at_call 57; refine (HRAW.out w0.drew).mono ?_; rintro e w2 ⟨hx2, r, x, rfl, ⟨a2, m2, c2, rfl, hr2, hn2⟩, ⟨a3, m3, c3, rfl, hx3, hn3⟩⟩; have hb2 := HB0.out.drew.ext hx2 (fun s => s); have hb3 := HB1.out.drew.ext hx2 (fun s => s); have hd0 := hb2.cell 0; have hd1 := hb2.cell 1; have hf0 := hb2.free 0; have hf1 := hb2.free 1; simp only [List.getElem?_toArray, List.getElem?_cons_zero, List.getElem?_cons_succ] at hd0 hd1; have HB2 := Lib.hid hb2; have HB3 := Lib.hid hb3; have HX2 := Lib.hid (HX0.out.drew.trans' hx2); have HR2 := Lib.hid (And.intro hr2 hn2); have HX3 := Lib.hid hx3; clear hx2 hr2 hn2 hx3 hn3 hb2 hb3))
  all_goals
    obtain ⟨w3, hw3⟩ : ∃ w3, putAll w2 pb 0 [.slice a2 m2 c2, .int .i64 s1.2] = w3 := ⟨_, rfl⟩
    have hx3 := putAll_ext pb [.slice a2 m2 c2, .int .i64 s1.2] w2 0
    have hb4 := putAll_all HB2.out [.slice a2 m2 c2, .int .i64 s1.2] rfl
    rw [hw3] at hx3 hb4
    simp only [putAll, Nat.zero_add] at hw3
    have hb5 := HB3.out.ext hx3 (by have := HRB.out; omega)
    have hxw3 : Ext No w w3 := HX2.out.trans hx3 (fun _ _ s => s) (fun j hj s => by have := HPB.out; omega)
    have hd0 := hb4.cell 0; have hd1 := hb4.cell 1; have hd2 := hb5.cell 0; have hd3 := hb5.cell 1; have hf2 := hb5.free 0; have hf3 := hb5.free 1
    simp only [List.getElem?_toArray, List.getElem?_cons_zero, List.getElem?_cons_succ] at hd0 hd1 hd2 hd3
    have HW3 := Lib.hid hw3; have HXW := Lib.hid hxw3; have HB5 := Lib.hid hb5
    have HBX := Lib.hid (show IsBytes w3 b (.slice a3 m3 c3) from (HX3.out.ext0 HWO.out).ext0 hxw3)
    have hm3 : m3 = b.length := HX3.out.len
    have hml : m3 ≤ 8 := by have := HLEN.out; omega
    have HM3 := Lib.hid hm3
    clear hw3 hx3 hb4 hb5 hxw3 hm3 hf0 hf1
    go_wp2_with fail
    rw [HW3.out]
    go_loopw [7, 8] (fun n i wr => ∃ j : Nat, j ≤ m3 ∧ i = .int .i64 ((j : Int) - 1) ∧ n = .int .u64 ((getN (b.drop j) : Nat) : Int) ∧ wr = w3) (fun _ i _ => (intOf i + 1).toNat)
    case atStart => exact ⟨m3, Nat.le_refl _, rfl, by rw [HM3.out, List.drop_length]; rfl, rfl⟩
    case round =>
      obtain ⟨j, hj, rfl, rfl, rfl⟩ := hrel
      by_cases h0 : 0 < j
      · obtain ⟨q, rfl⟩ : ∃ q, j = q + 1 := ⟨j - 1, by omega⟩
        have e : (((q + 1 : Nat) : Int) - 1) = q := by omega
        rw [e]
        obtain ⟨bb, oo, rfl, hcx⟩ := HBX.out.get q (by omega)
        have hgd := getN_drop b q (by have := HM3.out; omega)
        have ht := getN_lt (b.drop (q + 1))
        have ht7 : getN (b.drop (q + 1)) < 256 ^ 7 := Nat.lt_of_lt_of_le ht (Nat.pow_le_pow_right (by decide) (by rw [List.length_drop]; have := HM3.out; omega))
        have hcl := (b.getD q 0).toNat_lt
        generalize getN (b.drop (q + 1)) = t at *
        generalize (b.getD q 0).toNat = cc at *
        have hw1 : IntKind.u64.wrap (256 * (t : Int)) = 256 * (t : Int) := IntWalk.u64_in _ (by omega)
        have hw2 : IntKind.u64.wrap (256 * (t : Int) + (cc : Int)) = 256 * (t : Int) + (cc : Int) := IntWalk.u64_in _ (by omega)
        have HGD := Lib.hid hgd
        clear ht ht7 hgd e
        go_wp2_with fail
        go_roundw
        case rel => exact ⟨q, by omega, by go_num, by rw [HGD.out]; congr 1; omega, by trivial⟩
        case measure => simp [intOf] <;> omega
      · obtain rfl : j = 0 := by omega
        have hg0 : (((0 : Nat) : Int) - 1) = -1 := rfl
        rw [hg0]
        rw [List.drop_zero]
        generalize hgt : getN b = t
        have HGT := Lib.hid hgt; clear hgt
        go_wp2_with fail
        have hx4 := putAll_ext rb [.slice a2 m2 c2, .int .i64 s1.2] wr 0
        have hb6 := putAll_all HB5.out [.slice a2 m2 c2, .int .i64 s1.2] rfl
        simp only [putAll, Nat.zero_add] at hx4 hb6
        have hq0 := hb6.cell 0; have hq1 := hb6.cell 1
        simp only [List.getElem?_toArray, List.getElem?_cons_zero, List.getElem?_cons_succ] at hq0 hq1
        clear hd2 hd3 hf2 hf3
        refine bodyPost_ret (v := .tuple #[.agg #[.slice a2 m2 c2, .int .i64 s1.2], .int .u64 (t : Nat)]) (by simp [results, Try.results55, go_sem, hq0, hq1]) rfl ?_
        exact ⟨HXW.out.trans hx4 (fun _ _ s => s) (fun j hj s => by have := HPB.out; have := HRB.out; omega), _, by rw [HGT.out], a2, m2, c2, rfl, HR2.out.1, HR2.out.2⟩

end Go.Proofs.Ytchejnnfbinclaa
end

section
/- The contracts of the documents' reader: Some. -/
namespace Go.Proofs.Ytchejnnfbinclaa
open Go.RowKit Go.My

set_option maxRecDepth 100000 in
set_option maxHeartbeats 4000000 in
theorem someR_any (s : RSt) (v : Value) (most : Nat) (hmo : most ≤ 9223372036854775807) (wo w : World) (hwo : Ext No wo w) (h : IsRd wo s v) :
    Calls Try.prog 56 #[v, .int .i64 most] w fun e w' => Ext No w w' ∧ ∃ r x, e = .returned (.tuple #[r, x]) ∧ IsRd wo (someS s most).1 r ∧ IsBN wo (someS s most).2 x := by
  have H := Lib.hid h; have HWO := Lib.hid hwo
  obtain ⟨l, e⟩ := s
  have hsd : someS (l, e) most = if (getS (l, e) 4).1.2 ≠ 0 then ((l, (getS (l, e) 4).1.2), []) else if most < (getS (l, e) 4).2 then ((l, 2), []) else if (getS (l, e) 4).1.1.length < (getS (l, e) 4).2 then ((l, 20), []) else rawS (getS (l, e) 4).1 (getS (l, e) 4).2 := rfl
  obtain ⟨a, m, c, rfl, hb, hnl⟩ := h
  simp only at hb
  have HV := Lib.hid (And.intro hb hnl)
  have hget : ∀ w1, Ext No wo w1 → _ := fun w1 hx => getR_any (l, e) (.agg #[.slice a m c, .int .i64 e]) 4 (by decide) (by decide) wo w1 hx H.out
  have HGET := Lib.hid hget
  have hlt : (getS (l, e) 4).2 < 256 ^ 4 := by
    unfold getS
    exact Nat.lt_of_lt_of_le (getN_lt _) (Nat.pow_le_pow_right (by decide) (rawS_len _ _))
  have HLT := Lib.hid hlt
  clear hget hb hnl hwo hlt
  obtain ⟨w0, hw0⟩ : ∃ w0, (w.alloc (.cells #[.slice a m c, .int .i64 e] 100)).alloc (.cells #[.slice none 0 0, .int .i64 0] 100) = w0 := ⟨_, rfl⟩
  have hx0 : Ext No w w0 := by rw [← hw0]; exact ((Ext.refl No w).alloc _).alloc _
  have hb0 : Blk w0 w.heap.size #[.slice a m c, .int .i64 e] 100 := by rw [← hw0]; exact (Blk.new w _ _).alloc _
  have hb1 : Blk w0 (w.heap.size + 1) #[.slice none 0 0, .int .i64 0] 100 := by
    have := Blk.new (w.alloc (.cells #[.slice a m c, .int .i64 e] 100)) #[.slice none 0 0, .int .i64 0] 100
    rw [World.size_alloc, hw0] at this; exact this
  obtain ⟨pb, hpb⟩ : ∃ pb, w.heap.size = pb := ⟨_, rfl⟩
  obtain ⟨rb, hrb⟩ : ∃ rb, pb + 1 = rb := ⟨_, rfl⟩
  rw [hpb] at hb0 hb1
  rw [hrb] at hb1
  have HX0 := Lib.hid hx0; have HB0 := Lib.hid hb0; have HB1 := Lib.hid hb1; have HPB := Lib.hid hpb; have HRB := Lib.hid hrb; have HW0 := Lib.hid hw0
  clear hx0 hb0 hb1 hpb hrb hw0
  obtain ⟨g, hg⟩ : ∃ g, getS (l, e) 4 = g := ⟨_, rfl⟩
  rw [hg] at HGET HLT hsd
  obtain ⟨⟨l1, e1⟩, n⟩ := g
  simp only at HLT hsd
  obtain ⟨sr, hsr⟩ : ∃ sr, someS (l, e) most = sr := ⟨_, rfl⟩
  rw [hsr]
  rw [hsr] at hsd
  have HSD := Lib.hid hsd; clear hsd hsr
  go_enter Try.func56, Try.ntmps56
  go_wp2_with fail
  rw [HW0.out, HPB.out, HRB.out]
  refine (HGET.out w0 (HWO.out.trans' HX0.out)).mono ?_
  rintro e w1 ⟨hx1, r, rfl, a1, m1, c1, rfl, hr1, hn1⟩
  simp only at hr1 hn1
  have hm1 := hr1.len
  have hm63 : m1 ≤ 9223372036854775807 := by have := (IsRow.len hr1).2; omega
  have hb0 := (HB0.out.ext hx1 (fun s => s)).alloc (.cells #[.slice a1 m1 c1, .int .i64 e1] 100); have hb1 := (HB1.out.ext hx1 (fun s => s)).alloc (.cells #[.slice a1 m1 c1, .int .i64 e1] 100)
  have hc0 := hb0.cell 0; have hc1 := hb0.cell 1; have hf0 := hb0.free 0; have hf1 := hb0.free 1
  have hd0 := hb1.cell 0; have hd1 := hb1.cell 1; have hg0 := hb1.free 0; have hg1 := hb1.free 1
  simp only [List.getElem?_toArray, List.getElem?_cons_zero, List.getElem?_cons_succ] at hc0 hc1 hd0 hd1
  have hx2 : Ext No w (w1.alloc (.cells #[.slice a1 m1 c1, .int .i64 e1] 100)) := (HX0.out.trans' hx1).alloc _
  have hpl := hb0.lt; have hrl := hb1.lt
  have HX2 := Lib.hid hx2; have HB2 := Lib.hid hb0; have HB3 := Lib.hid hb1; have HR1 := Lib.hid (And.intro hr1 hn1); have HM1 := Lib.hid hm1; have HPL := Lib.hid (And.intro hpl hrl)
  clear hx2 hb0 hb1 hr1 hn1 hm1 hx1 hpl hrl hg
  have hn64 : n ≤ 4294967295 := by have := HLT.out; omega
  have hmd : decide ((most : Int) < 0) = false := by simp
  have hne : ¬ pb = rb := by have := HRB.out; omega
  have hne' : ¬ rb = pb := fun h => hne h.symm
  obtain ⟨wa, hwa⟩ : ∃ wa, w1.alloc (.cells #[.slice a1 m1 c1, .int .i64 e1] 100) = wa := ⟨_, rfl⟩
  have hend : ∀ X : Value, (((wa.setCell ⟨pb, 1, none⟩ X).setCell ⟨rb, 0, none⟩ (.slice a m c)).setCell ⟨rb, 1, none⟩ X).cell? ⟨rb, 0, none⟩ = some (.slice a m c) ∧ (((wa.setCell ⟨pb, 1, none⟩ X).setCell ⟨rb, 0, none⟩ (.slice a m c)).setCell ⟨rb, 1, none⟩ X).cell? ⟨rb, 1, none⟩ = some X ∧ Ext No w (((wa.setCell ⟨pb, 1, none⟩ X).setCell ⟨rb, 0, none⟩ (.slice a m c)).setCell ⟨rb, 1, none⟩ X) := by
    intro X
    have h3 := HB3.out.set_other ⟨pb, 1, none⟩ X (show rb ≠ pb by have := HRB.out; omega)
    rw [hwa] at h3
    have h4 := putAll_all h3 [.slice a m c, X] rfl
    have h5 := putAll_ext rb [.slice a m c, X] (wa.setCell ⟨pb, 1, none⟩ X) 0
    simp only [putAll, Nat.zero_add] at h4 h5
    refine ⟨by rw [h4.cell]; rfl, by rw [h4.cell]; rfl, ?_⟩
    have h6 : Ext (fun j => j = pb) wa (wa.setCell ⟨pb, 1, none⟩ X) := (Ext.refl _ wa).setCell _ _ (fun _ => rfl)
    have h7 := HX2.out
    rw [hwa] at h7
    exact (h7.trans h6 (fun _ _ s => s) (fun j hj s => by have := HPB.out; omega)).trans h5 (fun _ _ s => s) (fun j hj s => by have := HPB.out; have := HRB.out; omega)
  have hf5 := HB3.out
  have hx6 := HX2.out
  rw [hwa] at hf5 hx6
  have HX6 := Lib.hid hx6; have HB6 := Lib.hid hf5
  have HEND := Lib.hid hend; have HWA := Lib.hid hwa
  clear hend hwa hf5 hx6
  dsimp only
  by_cases he1 : e1 = 0
  case neg =>
    have hen : (e1 != 0) = true := by simpa using he1
    go_wp2_with fail
    rw [HWA.out]
    obtain ⟨q0, q1, q2⟩ := HEND.out (.int .i64 e1)
    refine bodyPost_ret (v := .tuple #[.agg #[.slice a m c, .int .i64 e1], .slice none 0 0]) (by simp [results, Try.results56, go_sem, q0, q1]) rfl ?_
    rw [HSD.out, if_pos he1]
    exact ⟨q2, _, _, rfl, ⟨a, m, c, rfl, HV.out.1, HV.out.2⟩, IsBN.nil _⟩
  subst he1
  by_cases h2 : most < n
  · go_wp2_with fail
    rw [HWA.out]
    obtain ⟨q0, q1, q2⟩ := HEND.out (.int .i64 2)
    refine bodyPost_ret (v := .tuple #[.agg #[.slice a m c, .int .i64 2], .slice none 0 0]) (by simp [results, Try.results56, go_sem, q0, q1]) rfl ?_
    rw [HSD.out, if_neg (show ¬ ((0 : Int) ≠ 0) by simp), if_pos h2]
    exact ⟨q2, _, _, rfl, ⟨a, m, c, rfl, HV.out.1, HV.out.2⟩, IsBN.nil _⟩
  by_cases h3 : m1 < n
  · go_wp2_with fail
    rw [HWA.out]
    obtain ⟨q0, q1, q2⟩ := HEND.out (.int .i64 20)
    refine bodyPost_ret (v := .tuple #[.agg #[.slice a m c, .int .i64 20], .slice none 0 0]) (by simp [results, Try.results56, go_sem, q0, q1]) rfl ?_
    rw [HSD.out, if_neg (show ¬ ((0 : Int) ≠ 0) by simp), if_neg h2, if_pos (show l1.length < n by rw [← HM1.out]; exact h3)]
    exact ⟨q2, _, _, rfl, ⟨a, m, c, rfl, HV.out.1, HV.out.2⟩, IsBN.nil _⟩
  go_wp2_with fail
  rw [HWA.out]
  refine (rawR_any (l1, 0) (.agg #[.slice a1 m1 c1, .int .i64 0]) n (by omega) wo wa ⟨a1, m1, c1, rfl, HR1.out.1, HR1.out.2⟩).mono ?_
  rintro e w2 ⟨hx2, r, x, rfl, ⟨a2, m2, c2, rfl, hr2, hn2⟩, ⟨a3, m3, c3, rfl, hx3, hn3⟩⟩
  have hb2 := HB6.out.ext hx2 (fun s => s)
  have hz0 := hb2.cell 0; have hz1 := hb2.cell 1; have hy0 := hb2.free 0; have hy1 := hb2.free 1
  simp only [List.getElem?_toArray, List.getElem?_cons_zero, List.getElem?_cons_succ] at hz0 hz1
  have HB2' := Lib.hid hb2; have HX7 := Lib.hid (HX6.out.trans' hx2); have HQ := Lib.hid (And.intro hr2 (And.intro hn2 (And.intro hx3 hn3)))
  clear hb2 hx2 hr2 hn2 hx3 hn3
  dsimp only
  go_wp2_with fail
  have h4 := putAll_all HB2'.out [.slice a2 m2 c2, .int .i64 (rawS (l1, 0) n).1.2] rfl
  have h5 := putAll_ext rb [.slice a2 m2 c2, .int .i64 (rawS (l1, 0) n).1.2] w2 0
  simp only [putAll, Nat.zero_add] at h4 h5
  have q0 := h4.cell 0; have q1 := h4.cell 1
  simp only [List.getElem?_toArray, List.getElem?_cons_zero, List.getElem?_cons_succ] at q0 q1
  clear hc0 hc1 hf0 hf1 hd0 hd1 hg0 hg1 hz0 hz1 hy0 hy1
  refine bodyPost_ret (v := .tuple #[.agg #[.slice a2 m2 c2, .int .i64 (rawS (l1, 0) n).1.2], .slice a3 m3 c3]) (by simp [results, Try.results56, go_sem, q0, q1]) rfl ?_
  rw [HSD.out, if_neg (show ¬ ((0 : Int) ≠ 0) by simp), if_neg h2, if_neg (show ¬ l1.length < n by rw [← HM1.out]; exact h3)]
  exact ⟨HX7.out.trans h5 (fun _ _ s => s) (fun j hj s => by have := HPB.out; have := HRB.out; omega), _, _, rfl, ⟨a2, m2, c2, rfl, HQ.out.1, HQ.out.2.1⟩, ⟨a3, m3, c3, rfl, HQ.out.2.2.1, HQ.out.2.2.2⟩⟩

end Go.Proofs.Ytchejnnfbinclaa
end

section
/- The contracts of the documents' answer for scripts: long, flag, Join. -/
namespace Go.Proofs.Ytchejnnfbinclaa
open Go.RowKit Go.My

set_option maxRecDepth 100000 in
set_option maxHeartbeats 400000 in
theorem longR_any (x : List UInt8) (w : World) : Calls Try.prog 42 #[.string (strB x)] w fun e w' => e = .returned (.bool (decide (120 < x.length))) ∧ w = w' := by
  have hs := strB_size x
  go_enter Try.func42, Try.ntmps42
  go_wp2_with fail
  go_ret
  refine ⟨?_, rfl⟩
  congr 2
  simp
  try omega

set_option maxRecDepth 100000 in
set_option maxHeartbeats 400000 in
theorem flagR_any (b : Bool) (w : World) : Calls Try.prog 43 #[.bool b] w fun e w' => ∃ a, e = .returned (.slice a 1 1) ∧ OwnB w' 5 w.heap.size (numB (flagN b) 1) (.slice a 1 1) ∧ Ext No w w' := by
  cases b
  · go_enter Try.func43, Try.ntmps43
    go_wp2_with fail
    go_ret
    exact ⟨_, rfl, ⟨rfl, .inr ⟨w.heap.size, 1, #[.int .u8 0], rfl, Nat.le_refl _, Blk.new w _ _, by decide, by decide, rfl, rfl⟩⟩, (Ext.refl No w).alloc _⟩
  · go_enter Try.func43, Try.ntmps43
    go_wp2_with fail
    go_ret
    exact ⟨_, rfl, ⟨rfl, .inr ⟨w.heap.size, 1, #[.int .u8 1], rfl, Nat.le_refl _, Blk.new w _ _, by decide, by decide, rfl, rfl⟩⟩, (Ext.refl No w).alloc _⟩

set_option maxRecDepth 100000 in
set_option maxHeartbeats 2000000 in
theorem joinR29_any (ls : List (List UInt8)) (v : Value) (w : World) (h : IsRowsN w ls v) (hb : (joinB ls).length ≤ 1099511627000) :
    Calls Try.prog 29 #[v] w fun e w' => ∃ x, e = .returned x ∧ OwnB w' 5 w.heap.size (joinB ls) x ∧ Ext No w w' := by
  have H := Lib.hid h
  obtain ⟨f, ⟨a, c, rfl, hc1, hc2, -⟩, -⟩ := h
  obtain ⟨n, hn⟩ : ∃ n, n = ls.length := ⟨_, rfl⟩
  rw [← hn] at hc1 H ⊢
  have HN := Lib.hid hn; have HB := Lib.hid hb; clear hn hb
  have hx0 : Ext No w (w.alloc (.cells #[] 5)) := (Ext.refl No w).alloc _
  have hown0 : OwnB (w.alloc (.cells #[] 5)) 5 w.heap.size ([] : List UInt8) (.slice (some ⟨w.heap.size, 0, none⟩) 0 0) := World.ownsRow_made w #[] 0 (Nat.le_refl _) (by decide) rfl
  have HX0 := Lib.hid hx0; have HO0 := Lib.hid hown0; clear hx0 hown0
  go_enter Try.func29, Try.ntmps29
  go_wp2_with fail
  go_loopw [3, 4] (fun o i wr => ∃ (k m : Nat) (ax : Option Addr) (cx : Nat), o = .slice ax m cx ∧ i = .int .i64 k ∧ k ≤ n ∧ m = (joinB (ls.take k)).length ∧ OwnB wr 5 w.heap.size (joinB (ls.take k)) (.slice ax m cx) ∧ Ext No w wr) (fun _ i _ => n - (intOf i).toNat)
  case atStart => exact ⟨0, 0, _, 0, rfl, rfl, by omega, rfl, HO0.out, HX0.out⟩
  case round =>
    obtain ⟨k, m, ax, cx, rfl, rfl, hk, hm, ho, hx⟩ := hrel
    have HO := Lib.hid ho; have HX := Lib.hid hx; have HM := Lib.hid hm
    clear ho hx hm
    by_cases hlt : k < n
    · have hltI : (k : Int) < n := by omega
      obtain ⟨b, off, y, rfl, hy, hyb, hyn⟩ := H.out.get k hlt
      obtain ⟨ay, ny, cy, hyf⟩ : ∃ a n c, y = .slice a n c := by obtain ⟨a, c, h, -⟩ := hyb; exact ⟨a, _, c, h⟩
      subst hyf
      have hcy : wr.cell? ⟨b, off + k, none⟩ = some (.slice ay ny cy) := by rw [HX.out.cell (World.block_lt_of_cell? _ _ hy) (fun s => s)]; exact hy
      have hjt := joinB_take ls k (by rw [← HN.out]; exact hlt)
      have hjl := joinB_take_le ls (k + 1)
      generalize ls.getD k [] = z at *
      rw [hjt, List.length_append, bytesB_length] at hjl
      have HYB := Lib.hid (hyb.ext0 HX.out); have HYN := Lib.hid hyn; have HJT := Lib.hid hjt; have HJL := Lib.hid hjl
      clear hy hyb hyn hjt hjl
      go_wp2_with fail
      refine (bytesR_any z ay ny cy wr HYB.out HYN.out (by have := HB.out; have := HJL.out; omega)).mono ?_
      rintro e w2 ⟨y, rfl, hy2, hx2⟩
      obtain ⟨a2, c2, hyf⟩ := own_form hy2
      obtain ⟨n2, hn2⟩ : ∃ n2, n2 = (bytesB z).length := ⟨_, rfl⟩
      rw [← hn2] at hyf
      subst hyf
      have hrow2 : IsRow w2 (byt (bytesB z)) n2 (.slice a2 n2 c2) := by have h := OwnB.bytes hy2; unfold IsBytes at h; rw [← hn2] at h; exact h
      have HROW := Lib.hid hrow2
      have HNN := Lib.hid (NilOk.own hy2).none
      have HO2 := Lib.hid (HO.out.ext hx2 (fun _ _ s => s))
      have H1 := Lib.hid (show ∀ i, i < n2 → (byt (bytesB z) i).oneCell' = true from fun _ _ => rfl)
      have HNM := Lib.hid (show m + n2 ≤ 9223372036854775807 ∧ (m + n2) * 1 ≤ 140737488355328 by have := HB.out; have := HJL.out; have := HM.out; rw [hn2, bytesB_length]; omega)
      have HZ := Lib.hid (show w.heap.size ≤ w2.heap.size by have := HX.out.size; have := hx2.size; omega)
      have HOM := Lib.hid (show w2.ownsRow w.heap.size 5 1 (.slice ax m cx) m (byts (joinB (ls.take k))) by have h := HO2.out; unfold OwnB at h; rw [← HM.out] at h; exact h)
      have HX2 := Lib.hid (HX.out.trans' hx2); have HN2 := Lib.hid hn2
      clear hy2 hx2 hrow2 hn2
      dsimp only
      go_wp2_with (at_builtin; refine wpList_appN _ rfl _ _ 31 rfl w.heap.size 5 _ _ u8_infoJ Try.underlying31 rfl _ _ _ rfl HOM.out _ _ _ (byt (bytesB z)) rfl HROW.out HNN.out H1.out HNM.out.1 HNM.out.2 HZ.out ?_; intro v' w3 hown3 hg; obtain ⟨a6, c6, rfl⟩ := own_form hown3)
      go_roundw
      case rel =>
        have hlen : m + n2 = (joinB (ls.take (k + 1))).length := by rw [HJT.out, List.length_append, HM.out, HN2.out]
        refine ⟨k + 1, m + n2, a6, c6, rfl, by go_num, by omega, hlen, ?_, HX2.out.grown hg (fun i hi h => absurd h (by have := (HO.out.lt i hi).1; omega))⟩
        unfold OwnB
        rw [← hlen, HJT.out, byts_append]
        have e2 : byts (bytesB z) = (List.range n2).map (byt (bytesB z)) := by rw [HN2.out, byts_range]
        rw [e2]; exact hown3
      case measure => simp [intOf]; omega
    · have hkn : k = n := by omega
      subst hkn
      go_wp2_with fail
      go_ret
      refine ⟨_, rfl, ?_, HX.out⟩
      have h := HO.out
      rw [List.take_of_length_le (by rw [HN.out]; exact Nat.le_refl _)] at h
      exact h

end Go.Proofs.Ytchejnnfbinclaa
end

section
/- A region that draws its order and whose operations only add memory: each operation told once, in the order of the text. No program in sight. -/
namespace Go.My
open Go.RowKit

section
variable {P : Program}
/-- the temporary that operation j fills -/
def slotOf (ops : Array Oper) (j : Nat) : Nat := ((ops[j]?).bind (·.dst)).getD 0
/-- the region's form: each operation fills a temporary of its own, is unguarded, and waits for earlier ones alone -/
def monoForm (ops : Array Oper) (n : Nat) : Bool :=
  (List.range ops.size).all fun i => match ops[i]? with
    | none => false
    | some o => o.guard.isNone && (match o.dst with | none => false | some d => decide (d < n)) &&
        (List.range ops.size).all (fun j => j == i || slotOf ops j != slotOf ops i) && o.after.all (fun e => !Region.binds .any e || decide (e.on < i))

theorem monoForm_spec {ops : Array Oper} {n i : Nat} {o : Oper} (h : monoForm ops n = true) (ho : ops[i]? = some o) :
    o.guard = none ∧ (∃ d, o.dst = some d ∧ d < n ∧ d = slotOf ops i) ∧ (∀ j, j < ops.size → j ≠ i → slotOf ops j ≠ slotOf ops i) ∧ (∀ e ∈ o.after, Region.binds .any e = true → e.on < i) := by
  have hi : i < ops.size := (Array.getElem?_eq_some_iff.1 ho).1
  unfold monoForm at h
  rw [List.all_eq_true] at h
  have h1 := h i (List.mem_range.2 hi)
  simp only [ho, Bool.and_eq_true] at h1
  obtain ⟨⟨⟨h2, h3⟩, h4⟩, h5⟩ := h1
  refine ⟨by simpa using h2, ?_, ?_, ?_⟩
  · cases hd : o.dst with
    | none => rw [hd] at h3; cases h3
    | some d => rw [hd] at h3; exact ⟨d, rfl, by simpa using h3, by simp [slotOf, ho, hd]⟩
  · intro j hj hne
    rw [List.all_eq_true] at h4
    have := h4 j (List.mem_range.2 hj)
    simp only [Bool.or_eq_true, beq_iff_eq, bne_iff_ne] at this
    rcases this with h | h
    · exact absurd h hne
    · exact h
  · intro e he hb
    have := Array.all_eq_true_iff_forall_mem.1 h5 e he
    simpa [hb] using this

/-- how the region stands: the memory that was there is as it was; what is done has told its value -/
structure MonoSt (S : Nat → Prop) (ops : Array Oper) (w0 : World) (a0 : Act) (V : Nat → Value → World → Prop) (listed : Array Bool) (a : Act) (w : World) : Prop where
  ext : Ext S w0 w
  defers : a.defers = a0.defers
  size : a.tmps.size = a0.tmps.size
  same : ∀ t, (∀ j, j < ops.size → slotOf ops j ≠ t) → a.tmps.getD t undef = a0.tmps.getD t undef
  vals : ∀ i, i < ops.size → listed.getD i false = true → V i (a.tmps.getD (slotOf ops i) undef) w

/-- what an operation owes -/
def MonoStep (P : Program) (S : Nat → Prop) (ops : Array Oper) (w0 : World) (a0 : Act) (V : Nat → Value → World → Prop) (Q : Exit → Act → World → Prop) (i : Nat) (o : Oper) : Prop :=
  ∀ a w, Ext S w0 w → (∀ t, ((List.range ops.size).all fun j => slotOf ops j != t) = true → a.tmps.getD t undef = a0.tmps.getD t undef) →
    (∀ j, (o.after.any fun e => Region.binds .any e && e.on == j) = true → V j (a.tmps.getD (slotOf ops j) undef) w) →
    ∀ K : Act → World → Prop, (∀ v w', Ext S w w' → V i v w' → K (a.put o.dst v) w') → o.wp P a w K Q
theorem slots_all {ops : Array Oper} {t : Nat} (h : ((List.range ops.size).all fun j => slotOf ops j != t) = true) : ∀ j, j < ops.size → slotOf ops j ≠ t := by
  intro j hj
  rw [List.all_eq_true] at h
  simpa using h j (List.mem_range.2 hj)
/-- an act, written out -/
theorem act_lit {a : Act} {n : Nat} {ds : List Deferred} (hs : a.tmps.size = n) (hd : a.defers = ds) : a = ⟨((List.range n).map fun t => a.tmps.getD t undef).toArray, ds⟩ := by
  obtain ⟨tmps, d⟩ := a
  simp only at hs hd
  subst hd; subst hs
  congr 1
  apply Array.ext
  · simp
  · intro i h1 h2
    simp [h1]

def MonoSteps (P : Program) (S : Nat → Prop) (ops : Array Oper) (w0 : World) (a0 : Act) (V : Nat → Value → World → Prop) (Q : Exit → Act → World → Prop) : Nat → List Oper → Prop
  | _, [] => True
  | i, o :: os => MonoStep P S ops w0 a0 V Q i o ∧ MonoSteps P S ops w0 a0 V Q (i + 1) os
theorem MonoSteps.get {S : Nat → Prop} {ops : Array Oper} {w0 : World} {a0 : Act} {V : Nat → Value → World → Prop} {Q : Exit → Act → World → Prop} : ∀ (os : List Oper) (i : Nat), MonoSteps P S ops w0 a0 V Q i os → ∀ j o, os[j]? = some o → MonoStep P S ops w0 a0 V Q (i + j) o := by
  intro os
  induction os with
  | nil => intro i _ j o h; simp at h
  | cons x os ih =>
    intro i h j o hj
    cases j with
    | zero => simp at hj; subst hj; exact h.1
    | succ j => rw [show i + (j + 1) = (i + 1) + j by omega]; exact ih (i + 1) h.2 j o (by simpa using hj)

theorem getD_put {a : Act} {d t : Nat} {v : Value} (h : d < a.tmps.size) : (a.put (some d) v).tmps.getD t undef = if t = d then v else a.tmps.getD t undef := by
  simp only [Act.put]
  by_cases e : t = d
  · subst e; simp [h]
  · rw [if_neg e]
    simp [Array.getElem?_setIfInBounds_ne (Ne.symm e)]

theorem countP_lt {listed : Array Bool} {i : Nat} (h : listed.getD i true = false) : ((listed.setIfInBounds i true).toList.countP (fun b => !b)) + 1 = listed.toList.countP (fun b => !b) := by
  have hi : i < listed.size := by
    rcases Nat.lt_or_ge i listed.size with h' | h'
    · exact h'
    · simp [Array.getElem?_eq_none h'] at h
  have hv : listed.toList[i]'(by simpa using hi) = false := by simpa [hi] using h
  rw [Array.toList_setIfInBounds, List.countP_set (by simpa using hi)]
  have hpos : 0 < listed.toList.countP (fun b => !b) := List.countP_pos_iff.2 ⟨false, by rw [← hv]; exact List.getElem_mem _, rfl⟩
  have hv2 : listed[i] = false := by simpa using hv
  simp [hv2]
  have : 0 < listed.toList.countP (fun b => !b) := hpos
  rw [← Array.countP_toList]
  omega

theorem wpAny_mono {S : Nat → Prop} {ops : Array Oper} {w0 : World} {a0 : Act} {V : Nat → Value → World → Prop} {Q : Exit → Act → World → Prop} (hform : monoForm ops a0.tmps.size = true)
    (hV : ∀ i v w w', V i v w → Ext S w w' → V i v w') (hstep : MonoSteps P S ops w0 a0 V Q 0 ops.toList)
    (hend : ∀ a w, Ext S w0 w → a.defers = a0.defers → a.tmps.size = a0.tmps.size → (∀ t, (∀ j, j < ops.size → slotOf ops j ≠ t) → a.tmps.getD t undef = a0.tmps.getD t undef) → (∀ i, i < ops.size → V i (a.tmps.getD (slotOf ops i) undef) w) → Q .normal a w) :
    ∀ (fuel : Nat) (listed : Array Bool) (a : Act) (w : World), MonoSt S ops w0 a0 V listed a w → listed.size = ops.size → listed.toList.countP (fun b => !b) ≤ fuel → wpAny P .any ops Q fuel listed a w := by
  have hdone : ∀ listed : Array Bool, listed.size = ops.size → Region.ready .any ops listed = [] → ∀ i, i < ops.size → listed.getD i false = true := by
    intro listed hsz hr i
    induction i using Nat.strongRecOn with
    | _ i ih =>
      intro hi
      by_cases hl : listed.getD i false = true
      · exact hl
      · exfalso
        have hlt : listed.getD i true = false := by
          have h1 : i < listed.size := by omega
          have h2 : listed.getD i false = false := by simpa using hl
          simpa [h1] using h2
        obtain ⟨o, ho⟩ : ∃ o, ops[i]? = some o := ⟨ops[i], by simp [hi]⟩
        have hm : i ∈ Region.ready .any ops listed := by
          rw [mem_ready]
          exact ⟨hlt, o, ho, fun e he hb => by
            have hlt' := (monoForm_spec hform ho).2.2.2 e he hb
            exact ih e.on hlt' (by omega)⟩
        rw [hr] at hm; cases hm
  intro fuel
  induction fuel with
  | zero =>
    intro listed a w h hsz hc
    have hall : ∀ i, i < ops.size → listed.getD i false = true := by
      intro i hi
      have h0 : listed.toList.countP (fun b => !b) = 0 := by omega
      rw [List.countP_eq_zero] at h0
      have h1 : i < listed.size := by omega
      have := h0 (listed[i]) (by simp)
      simpa [h1] using this
    refine ⟨?_, hend a w h.ext h.defers h.size h.same (fun i hi => h.vals i hi (hall i hi))⟩
    cases hr : Region.ready .any ops listed with
    | nil => rfl
    | cons i is =>
      have hm : i ∈ Region.ready .any ops listed := by rw [hr]; exact List.mem_cons_self ..
      obtain ⟨h1, o, ho, -⟩ := mem_ready.1 hm
      have hi : i < ops.size := (Array.getElem?_eq_some_iff.1 ho).1
      have h2 := hall i hi
      have h3 : i < listed.size := by omega
      simp [h3] at h1 h2
      rw [h1] at h2; cases h2
  | succ fuel ih =>
    intro listed a w h hsz hc
    refine ⟨fun hr => hend a w h.ext h.defers h.size h.same (fun i hi => h.vals i hi (hdone listed hsz hr i hi)), fun i hm => ?_⟩
    obtain ⟨hlt, o, ho, hdep⟩ := mem_ready.1 hm
    have hi : i < ops.size := (Array.getElem?_eq_some_iff.1 ho).1
    obtain ⟨hgd, ⟨d, hd, hdn, hds⟩, hother, hbefore⟩ := monoForm_spec hform ho
    have hst : MonoStep P S ops w0 a0 V Q i o := by
      have := MonoSteps.get ops.toList 0 hstep i o (by simpa using ho)
      rwa [Nat.zero_add] at this
    unfold wpOp
    rw [ho]
    have hw : Region.wanted o (yielded ops a.tmps) = true := by simp [Region.wanted, hgd]
    simp only [hw, if_true]
    refine .inl (hst a w h.ext (fun t ht => h.same t (slots_all ht)) (fun j hj => ?_) _ ?_)
    rotate_left
    · intro v w' hx hv
      rw [hd]
      have hda : d < a.tmps.size := by rw [h.size]; exact hdn
      refine ih _ _ _ ⟨h.ext.trans' hx, by simp [Act.put, h.defers], by simp [Act.put, h.size], fun t ht => ?_, fun j hj hl => ?_⟩ (by simp [hsz]) (by have := countP_lt hlt; omega)
      · rw [getD_put hda, if_neg (fun e => ht i hi (by rw [e, hds]))]
        exact h.same t ht
      · rw [getD_put hda]
        by_cases e : j = i
        · subst e; rw [if_pos hds.symm]; exact hv
        · rw [if_neg (fun e2 => hother j hj e (by rw [e2, hds]))]
          refine hV j _ w w' (h.vals j hj ?_) hx
          rw [getD_set_ne false (Ne.symm e)] at hl
          exact hl
    · obtain ⟨e, he, hb⟩ := Array.any_eq_true'.1 hj
      simp only [Bool.and_eq_true, beq_iff_eq] at hb
      obtain ⟨hb1, rfl⟩ := hb
      have h1 := hdep e he hb1
      exact h.vals e.on (by
        rcases Nat.lt_or_ge e.on listed.size with h' | h'
        · omega
        · simp [Array.getElem?_eq_none h'] at h1) h1

theorem wp_region_mono {ops : Array Oper} {id : Nat} {a : Act} {w : World} {Q : Exit → Act → World → Prop} (S : Nat → Prop) (V : Nat → Value → World → Prop) (hm : P.follows .mixedOrders = true) (hform : monoForm ops a.tmps.size = true)
    (hV : ∀ i v w w', V i v w → Ext S w w' → V i v w') (hstep : MonoSteps P S ops w.drew a V Q 0 ops.toList)
    (hend : ∀ a' w', Ext S w w' → a'.defers = a.defers → a'.tmps.size = a.tmps.size → (∀ t, ((List.range ops.size).all fun j => slotOf ops j != t) = true → a'.tmps.getD t undef = a.tmps.getD t undef) → (∀ i, i < ops.size → V i (a'.tmps.getD (slotOf ops i) undef) w') → Q .normal a' w') :
    (Code.region id ops true).wp P Q a w := by
  refine wp_region_any hm (wpAny_mono (w0 := w.drew) (a0 := a) hform hV hstep (fun a' w' hx hd hz hsm => hend a' w' ((Ext.refl S w).drew.trans' hx) hd hz (fun t ht => hsm t (slots_all ht))) _ _ _ _ ⟨Ext.refl S _, rfl, rfl, fun _ _ => rfl, fun i hi hl => ?_⟩ (by simp) ?_)
  · have h0 : (Array.replicate ops.size false).getD i false = false := by simp [Array.getElem?_replicate, hi]
    rw [h0] at hl; cases hl
  · exact Nat.le_trans List.countP_le_length (by simp)
/-- the head of a region: each operation fills a temporary of its own and is unguarded -/
def headForm (ops : Array Oper) (h n : Nat) : Bool :=
  (List.range h).all fun i => match ops[i]? with
    | none => false
    | some o => o.guard.isNone && (match o.dst with | none => false | some d => decide (d < n)) && (List.range h).all (fun j => j == i || slotOf ops j != slotOf ops i) && o.after.all (fun e => !Region.binds .any e || decide (e.on < i))
theorem headForm_spec {ops : Array Oper} {h n i : Nat} {o : Oper} (hf : headForm ops h n = true) (hi : i < h) (ho : ops[i]? = some o) :
    o.guard = none ∧ (∃ d, o.dst = some d ∧ d < n ∧ d = slotOf ops i) ∧ (∀ j, j < h → j ≠ i → slotOf ops j ≠ slotOf ops i) ∧ (∀ e ∈ o.after, Region.binds .any e = true → e.on < i) := by
  unfold headForm at hf
  rw [List.all_eq_true] at hf
  have h1 := hf i (List.mem_range.2 hi)
  simp only [ho, Bool.and_eq_true] at h1
  obtain ⟨⟨⟨h2, h3⟩, h4⟩, h5⟩ := h1
  refine ⟨by simpa using h2, ?_, ?_, ?_⟩
  · cases hd : o.dst with
    | none => rw [hd] at h3; cases h3
    | some d => rw [hd] at h3; exact ⟨d, rfl, by simpa using h3, by simp [slotOf, ho, hd]⟩
  · intro j hj hne
    rw [List.all_eq_true] at h4
    have := h4 j (List.mem_range.2 hj)
    simp only [Bool.or_eq_true, beq_iff_eq, bne_iff_ne] at this
    rcases this with h | h
    · exact absurd h hne
    · exact h
  · intro e he hb
    have := Array.all_eq_true_iff_forall_mem.1 h5 e he
    simpa [hb] using this
structure HeadSt (S : Nat → Prop) (ops : Array Oper) (h : Nat) (w0 : World) (a0 : Act) (V : Nat → Value → World → Prop) (listed : Array Bool) (a : Act) (w : World) : Prop where
  ext : Ext S w0 w
  defers : a.defers = a0.defers
  size : a.tmps.size = a0.tmps.size
  same : ∀ t, ((List.range h).all fun j => slotOf ops j != t) = true → a.tmps.getD t undef = a0.tmps.getD t undef
  vals : ∀ i, i < h → listed.getD i false = true → V i (a.tmps.getD (slotOf ops i) undef) w
def HeadStep (P : Program) (S : Nat → Prop) (ops : Array Oper) (h : Nat) (w0 : World) (a0 : Act) (V : Nat → Value → World → Prop) (Q : Exit → Act → World → Prop) (i : Nat) (o : Oper) : Prop :=
  ∀ a w, Ext S w0 w → (∀ t, ((List.range h).all fun j => slotOf ops j != t) = true → a.tmps.getD t undef = a0.tmps.getD t undef) →
    (∀ j, (decide (j < h) && o.after.any fun e => Region.binds .any e && e.on == j) = true → V j (a.tmps.getD (slotOf ops j) undef) w) →
    ∀ K : Act → World → Prop, (∀ v w', Ext S w w' → V i v w' → K (a.put o.dst v) w') → o.wp P a w K Q
def HeadSteps (P : Program) (S : Nat → Prop) (ops : Array Oper) (h : Nat) (w0 : World) (a0 : Act) (V : Nat → Value → World → Prop) (Q : Exit → Act → World → Prop) : Nat → List Oper → Prop
  | _, [] => True
  | i, o :: os => HeadStep P S ops h w0 a0 V Q i o ∧ HeadSteps P S ops h w0 a0 V Q (i + 1) os
theorem HeadSteps.get {S : Nat → Prop} {ops : Array Oper} {h : Nat} {w0 : World} {a0 : Act} {V : Nat → Value → World → Prop} {Q : Exit → Act → World → Prop} : ∀ (os : List Oper) (i : Nat), HeadSteps P S ops h w0 a0 V Q i os → ∀ j o, os[j]? = some o → HeadStep P S ops h w0 a0 V Q (i + j) o := by
  intro os
  induction os with
  | nil => intro i _ j o h; simp at h
  | cons x os ih =>
    intro i hh j o hj
    cases j with
    | zero => simp at hj; subst hj; exact hh.1
    | succ j => rw [show i + (j + 1) = (i + 1) + j by omega]; exact ih (i + 1) hh.2 j o (by simpa using hj)
theorem HeadSteps.nil {S : Nat → Prop} {ops : Array Oper} {h : Nat} {w0 : World} {a0 : Act} {V : Nat → Value → World → Prop} {Q : Exit → Act → World → Prop} {i : Nat} : HeadSteps P S ops h w0 a0 V Q i [] := trivial
theorem HeadSteps.cons {S : Nat → Prop} {ops : Array Oper} {h : Nat} {w0 : World} {a0 : Act} {V : Nat → Value → World → Prop} {Q : Exit → Act → World → Prop} {i : Nat} {o : Oper} {os : List Oper} (h1 : HeadStep P S ops h w0 a0 V Q i o) (h2 : HeadSteps P S ops h w0 a0 V Q (i + 1) os) : HeadSteps P S ops h w0 a0 V Q i (o :: os) := ⟨h1, h2⟩
/-- the head is done, the tail is not -/
def headDone (h m : Nat) : Array Bool := ((List.range m).map fun i => decide (i < h)).toArray
theorem headDone_eq {ops : Array Oper} {h : Nat} {listed : Array Bool} (inv : HeadInv .any ops h listed) (hall : ∀ i, i < h → i < ops.size → listed.getD i false = true) : listed = headDone h ops.size := by
  apply Array.ext
  · simp [headDone, inv.size]
  · intro i h1 h2
    have hi : i < ops.size := by rw [← inv.size]; exact h1
    simp only [headDone, List.getElem_toArray, List.getElem_map, List.getElem_range]
    by_cases hh : i < h
    · have := hall i hh hi
      simpa [h1, hh] using this
    · have := inv.tail i (by omega) hi
      simpa [h1, hh] using this

theorem wpAny_headM {S : Nat → Prop} {l : List Oper} {h : Nat} {w0 : World} {a0 : Act} {V : Nat → Value → World → Prop} {Q : Exit → Act → World → Prop} (hform : headForm l.toArray h a0.tmps.size = true)
    (hs : Region.sinkB .any l.toArray h = true) (hc : Region.chainB .any l.toArray h = true) (hlt : h < l.length) (hq : Region.seqB .any l.toArray (l.length - h) h (headDone h l.length) = true)
    (hV : ∀ i v w w', V i v w → Ext S w w' → V i v w') (hstep : HeadSteps P S l.toArray h w0 a0 V Q 0 (l.take h))
    (hend : ∀ a w, Ext S w0 w → a.defers = a0.defers → a.tmps.size = a0.tmps.size → (∀ t, ((List.range h).all fun j => slotOf l.toArray j != t) = true → a.tmps.getD t undef = a0.tmps.getD t undef) → (∀ i, i < h → V i (a.tmps.getD (slotOf l.toArray i) undef) w) → wpList P l.toArray Q (l.drop h) a w) :
    ∀ (f : Nat) (listed : Array Bool) (a : Act) (w : World), HeadSt S l.toArray h w0 a0 V listed a w → HeadInv .any l.toArray h listed → listed.toList.countP (fun b => !b) = f + (l.length - h) → wpAny P .any l.toArray Q (f + (l.length - h)) listed a w := by
  have hsz : l.toArray.size = l.length := by simp
  -- how many of the tail are not done
  have hcnt : (headDone h l.length).toList.countP (fun b => !b) = l.length - h := by
    simp only [headDone, List.countP_map]
    have e : ∀ m, h ≤ m → (List.range m).countP ((fun b => !b) ∘ fun i => decide (i < h)) = m - h := by
      intro m hm
      induction m with
      | zero => simp
      | succ m ih =>
        rw [List.range_succ, List.countP_append]
        by_cases hmh : h ≤ m
        · rw [ih hmh]
          have : ¬ m < h := by omega
          simp [this]; omega
        · have e1 : m + 1 = h := by omega
          have : (List.range m).countP ((fun b => !b) ∘ fun i => decide (i < h)) = 0 := by
            rw [List.countP_eq_zero]
            intro x hx
            have := List.mem_range.1 hx
            simp; omega
          rw [this]
          have : m < h := by omega
          simp [this]; omega
    exact e l.length (by omega)
  intro f
  induction f with
  | zero =>
    intro listed a w st inv hcn
    have hall : ∀ i, i < h → i < l.toArray.size → listed.getD i false = true := by
      intro i hi hi2
      cases hv : listed.getD i false with
      | true => rfl
      | false =>
        exfalso
        have hil : i < listed.size := by rw [inv.size]; exact hi2
        have hpos : ∀ (L : List Bool) (k : Nat), k < h → h ≤ L.length → L[k]? = some false → (∀ t, h ≤ t → t < L.length → L[t]? = some false) → L.length - h < L.countP (fun b => !b) := by
          intro L k hk hL hkf ht
          have e1 : L = L.take h ++ L.drop h := (List.take_append_drop h L).symm
          rw [e1, List.countP_append]
          have c2 : (L.drop h).countP (fun b => !b) = L.length - h := by
            rw [List.countP_eq_length.2, List.length_drop]
            intro b hb
            obtain ⟨j, hj, rfl⟩ := List.getElem_of_mem hb
            rw [List.length_drop] at hj
            have := ht (h + j) (by omega) (by omega)
            rw [List.getElem_drop]
            rw [List.getElem?_eq_getElem (by omega)] at this
            simpa using this
          have c1 : 0 < (L.take h).countP (fun b => !b) := by
            rw [List.countP_pos_iff]
            refine ⟨false, ?_, rfl⟩
            rw [List.mem_iff_getElem?]
            exact ⟨k, by rw [List.getElem?_take, if_pos hk]; exact hkf⟩
          rw [← e1, c2]; omega
        have := hpos listed.toList i hi (by simp [inv.size]; omega) (by
          have : listed[i] = false := by simpa [hil] using hv
          simp [hil, this]) (fun t ht1 ht2 => by
          have ht3 : t < l.toArray.size := by rw [← inv.size]; simpa using ht2
          have := inv.tail t ht1 ht3
          have ht4 : t < listed.size := by simpa using ht2
          have h5 : listed[t] = false := by simpa [ht4] using this
          simp [ht4, h5])
        have hl : listed.toList.length = l.length := by simp [inv.size]
        rw [hl] at this
        omega
    have e := headDone_eq inv hall
    rw [hsz] at e
    rw [Nat.zero_add]
    have hdl : (l.drop h).length = l.length - h := by simp
    have := wpAny_of_seq (P := P) (ops := l.toArray) (md := .any) (Q' := Q) (l.drop h) h listed a w (fun j => by simp) (by rw [hdl, e]; exact hq)
      (hend a w st.ext st.defers st.size st.same (fun i hi => st.vals i hi (hall i hi (by rw [hsz]; omega))))
    rw [hdl] at this
    exact this
  | succ f ih =>
    intro listed a w st inv hcn
    -- some operation of the head is not done
    obtain ⟨i0, hi0, hi0f⟩ : ∃ i, i < h ∧ listed.getD i true = false := by
      by_cases hex : ∃ i, i < h ∧ listed.getD i true = false
      · exact hex
      · exfalso
        have hall : ∀ i, i < h → i < l.toArray.size → listed.getD i false = true := by
          intro i hi hi2
          have hil : i < listed.size := by rw [inv.size]; exact hi2
          cases hv : listed.getD i false with
          | true => rfl
          | false => exact absurd ⟨i, hi, getD_in hil hv⟩ hex
        have e := headDone_eq inv hall
        rw [hsz] at e
        rw [e, hcnt] at hcn
        omega
    have hntail := tail_waits hs hc (by rw [hsz]; exact hlt) inv _ i0 rfl hi0 hi0f
    rw [show f + 1 + (l.length - h) = (f + (l.length - h)) + 1 by omega]
    refine ⟨fun hr => ?_, fun i hm => ?_⟩
    · exfalso
      -- the least operation that is not done may come up
      have hleast : ∀ i, i < h → listed.getD i true = false → ∃ j, j ∈ Region.ready .any l.toArray listed := by
        intro i
        induction i using Nat.strongRecOn with
        | _ i ihi =>
          intro hi hf
          obtain ⟨o, ho⟩ : ∃ o, l.toArray[i]? = some o := ⟨l[i]'(by omega), by simp⟩
          have hsp := headForm_spec hform hi ho
          by_cases hall : ∀ e ∈ o.after, Region.binds .any e = true → listed.getD e.on false = true
          · exact ⟨i, mem_ready.2 ⟨hf, o, ho, hall⟩⟩
          · simp only [Classical.not_forall] at hall
            obtain ⟨e, he, hb, hl⟩ := hall
            have hon := hsp.2.2.2 e he hb
            refine ihi e.on hon (by omega) (getD_in (by rw [inv.size, hsz]; omega) (by simpa using hl))
      obtain ⟨j, hj⟩ := hleast i0 hi0 hi0f
      rw [hr] at hj; cases hj
    · have hih : i < h := by
        rcases Nat.lt_or_ge i h with h' | h'
        · exact h'
        · exact absurd hm (hntail i h')
      obtain ⟨hun, o, ho, hdep⟩ := mem_ready.1 hm
      obtain ⟨hgd, ⟨d, hd, hdn, hds⟩, hother, -⟩ := headForm_spec hform hih ho
      have hst : HeadStep P S l.toArray h w0 a0 V Q i o := by
        have := HeadSteps.get (l.take h) 0 hstep i o (by rw [List.getElem?_take, if_pos hih]; simpa using ho)
        rwa [Nat.zero_add] at this
      unfold wpOp
      rw [ho]
      have hw : Region.wanted o (yielded l.toArray a.tmps) = true := by simp [Region.wanted, hgd]
      simp only [hw, if_true]
      refine .inl (hst a w st.ext st.same (fun j hj => ?_) _ ?_)
      · simp only [Bool.and_eq_true, decide_eq_true_eq] at hj
        obtain ⟨hjh, hj⟩ := hj
        obtain ⟨e, he, hb⟩ := Array.any_eq_true'.1 hj
        simp only [Bool.and_eq_true, beq_iff_eq] at hb
        obtain ⟨hb1, rfl⟩ := hb
        exact st.vals e.on hjh (hdep e he hb1)
      · intro v w' hx hv
        rw [hd]
        have hda : d < a.tmps.size := by rw [st.size]; exact hdn
        refine ih _ _ _ ⟨st.ext.trans' hx, by simp [Act.put, st.defers], by simp [Act.put, st.size], fun t ht => ?_, fun j hj hl => ?_⟩ (inv.set hm hih) (by have := countP_lt hun; omega)
        · rw [getD_put hda, if_neg (fun e => by
            rw [List.all_eq_true] at ht
            have := ht i (List.mem_range.2 hih)
            simp only [bne_iff_ne] at this
            exact this (by rw [← hds, e]))]
          exact st.same t ht
        · rw [getD_put hda]
          by_cases e : j = i
          · subst e; rw [if_pos hds.symm]; exact hv
          · rw [if_neg (fun e2 => hother j hj e (by rw [e2, hds]))]
            refine hV j _ w w' (st.vals j hj ?_) hx
            rw [getD_set_ne false (Ne.symm e)] at hl
            exact hl
theorem wp_region_head {l : List Oper} {id : Nat} {a : Act} {w : World} {Q : Exit → Act → World → Prop} (h : Nat) (S : Nat → Prop) (V : Nat → Value → World → Prop) (hm : P.follows .mixedOrders = true)
    (hform : headForm l.toArray h a.tmps.size = true)
    (hs : (Region.sinkB .any l.toArray h && Region.chainB .any l.toArray h && decide (h < l.length) && Region.seqB .any l.toArray (l.length - h) h (headDone h l.length)) = true)
    (hV : ∀ i v w w', V i v w → Ext S w w' → V i v w') (hstep : HeadSteps P S l.toArray h w.drew a V Q 0 (l.take h))
    (hend : ∀ a' w', Ext S w w' → a'.defers = a.defers → a'.tmps.size = a.tmps.size → (∀ t, ((List.range h).all fun j => slotOf l.toArray j != t) = true → a'.tmps.getD t undef = a.tmps.getD t undef) → (∀ i, i < h → V i (a'.tmps.getD (slotOf l.toArray i) undef) w') → wpList P l.toArray Q (l.drop h) a' w') :
    (Code.region id l.toArray true).wp P Q a w := by
  simp only [Bool.and_eq_true, decide_eq_true_eq] at hs
  obtain ⟨⟨⟨h1, h2⟩, h3⟩, h4⟩ := hs
  refine wp_region_any hm ?_
  have hsz : l.toArray.size = h + (l.length - h) := by simp; omega
  rw [hsz]
  have hrep : ∀ i, (Array.replicate l.toArray.size false).getD i false = false := fun i => getD_replicate_false _ _
  have := wpAny_headM (w0 := w.drew) (a0 := a) hform h1 h2 h3 h4 hV hstep (fun a' w' hx => hend a' w' ((Ext.refl S w).drew.trans' hx)) h (Array.replicate l.toArray.size false) a w.drew
    ⟨Ext.refl S _, rfl, rfl, fun _ _ => rfl, fun i _ hl => by rw [hrep] at hl; cases hl⟩
    ⟨by simp, fun j oj _ hl => absurd hl (by rw [hrep]; decide), fun t _ ht => getD_in (by simpa using ht) (hrep t)⟩
    (by
      rw [Array.toList_replicate, List.countP_replicate]
      simp; omega)
  rw [hsz] at this
  exact this
end
end Go.My
end

section
/- The contract of the documents' answer for scripts: files. -/
namespace Go.Proofs.Ytchejnnfbinclaa
open Go.RowKit Go.My

/-- the rows whose join is files' bytes -/
def fileRows (fs : List FileL) : List (List UInt8) := (fs.map fun f => [bytesB f.1, bytesB f.2]).flatten
theorem fileRows_take (fs : List FileL) (k : Nat) (hk : k < fs.length) : fileRows (fs.take (k + 1)) = fileRows (fs.take k) ++ [bytesB (fs.getD k ([], [])).1, bytesB (fs.getD k ([], [])).2] := by
  unfold fileRows
  rw [List.take_add_one, List.map_append, List.flatten_append, List.getElem?_eq_getElem hk]
  simp [List.getD_eq_getElem?_getD, List.getElem?_eq_getElem hk]
theorem fileRows_len (fs : List FileL) : (fileRows fs).length = 2 * fs.length := by
  unfold fileRows
  induction fs with
  | nil => rfl
  | cons f fs ih => simp only [List.map_cons, List.flatten_cons, List.length_append, List.length_cons, List.length_nil, ih]; omega
theorem fileRows_flat (fs : List FileL) : (fileRows fs).flatten = (fs.map fileB).flatten := by
  unfold fileRows
  induction fs with
  | nil => rfl
  | cons f fs ih =>
    simp only [List.map_cons, List.flatten_cons, List.flatten_append, ih, fileB, List.flatten_nil, List.append_nil]
theorem rows_info : (Try.prog.info? 31).map (fun i => (i.zero, i.size, i.bytes)) = some (some (.slice none 0 0), 1, 24) := by kernel_rfl

/-- a new row of bytes -/
def OB (w : World) (B : Nat) (l : List UInt8) (v : Value) : Prop := ∃ a n c, v = .slice a n c ∧ OwnB w 5 B l v
theorem OB.ext {w w' : World} {B : Nat} {l : List UInt8} {v : Value} (h : OB w B l v) (x : Ext No w w') : OB w' B l v := by
  obtain ⟨a, n, c, h1, h2⟩ := h
  exact ⟨a, n, c, h1, h2.ext x (fun _ _ s => s)⟩
theorem OB.of {w : World} {B B' : Nat} {l : List UInt8} {v : Value} (h : OwnB w 5 B' l v) (hb : B ≤ B') : OB w B l v := by
  obtain ⟨a, c, e⟩ := own_form h
  exact ⟨a, _, c, e, own_le h hb⟩
/-- two rows in a row -/
def TwoR (w : World) (B : Nat) (l k : List UInt8) (v : Value) : Prop := ∃ b x y, v = .slice (some ⟨b, 0, none⟩) 2 2 ∧ Blk w b #[x, y] 31 ∧ OB w B l x ∧ OB w B k y
theorem TwoR.ext {w w' : World} {B : Nat} {l k : List UInt8} {v : Value} (h : TwoR w B l k v) (x : Ext No w w') : TwoR w' B l k v := by
  obtain ⟨b, y, z, h1, h2, h3, h4⟩ := h
  exact ⟨b, y, z, h1, h2.ext x (fun s => s), h3.ext x, h4.ext x⟩
def two (A B : Value) (i : Nat) : Value := if i = 0 then A else B
theorem row2 {w : World} {b : Nat} {A B : Value} {T : TypeId} (h : Blk w b #[A, B] T) : IsRow w (two A B) 2 (.slice (some ⟨b, 0, none⟩) 2 2) := by
  refine ⟨_, 2, rfl, by decide, by decide, Rd.of_blk h (fun i hi => ?_)⟩
  have : i = 0 ∨ i = 1 := by omega
  rcases this with rfl | rfl <;> rfl
theorem OB.one {w : World} {B : Nat} {l : List UInt8} {v : Value} (h : OB w B l v) : v.oneCell' = true := by
  obtain ⟨a, n, c, rfl, -⟩ := h; rfl
theorem two_one {A B : Value} (h : A.oneCell' = true) (k : B.oneCell' = true) : ∀ i, i < 2 → (two A B i).oneCell' = true := by
  intro i _
  unfold two
  split
  · exact h
  · exact k
-- MARK
def FilesV (B b off n c k : Nat) (ax : Option Addr) (m cx : Nat) (path data : List UInt8) (ay : Option Addr) (ny cy : Nat) : Nat → Value → World → Prop
  | 0, v, w => v = .slice ax m cx
  | 1, v, w => v = .slice (some ⟨b, off, none⟩) n c
  | 2, v, w => v = .int .i64 (k : Nat)
  | 3, v, w => v = .pointer (some ⟨b, off + k * 2, none⟩)
  | 4, v, w => v = .pointer (some ⟨b, off + k * 2, none⟩)
  | 5, v, w => v = .string (strB path)
  | 6, v, w => IsBN w path v
  | 7, v, w => OB w B (bytesB path) v
  | 8, v, w => v = .slice (some ⟨b, off, none⟩) n c
  | 9, v, w => v = .int .i64 (k : Nat)
  | 10, v, w => v = .pointer (some ⟨b, off + k * 2, none⟩)
  | 11, v, w => v = .pointer (some ⟨b, off + k * 2 + 1, none⟩)
  | 12, v, w => v = .slice ay ny cy
  | 13, v, w => OB w B (bytesB data) v
  | 14, v, w => TwoR w B (bytesB path) (bytesB data) v
  | _, _, _ => True
theorem FilesV_ext (B b off n c k : Nat) (ax : Option Addr) (m cx : Nat) (path data : List UInt8) (ay : Option Addr) (ny cy : Nat) : ∀ i v w w', FilesV B b off n c k ax m cx path data ay ny cy i v w → Ext No w w' → FilesV B b off n c k ax m cx path data ay ny cy i v w'
  | 0, _, _, _, h, _ => h
  | 1, _, _, _, h, _ => h
  | 2, _, _, _, h, _ => h
  | 3, _, _, _, h, _ => h
  | 4, _, _, _, h, _ => h
  | 5, _, _, _, h, _ => h
  | 6, _, _, _, h, x => h.ext0 x
  | 7, _, _, _, h, x => h.ext x
  | 8, _, _, _, h, _ => h
  | 9, _, _, _, h, _ => h
  | 10, _, _, _, h, _ => h
  | 11, _, _, _, h, _ => h
  | 12, _, _, _, h, _ => h
  | 13, _, _, _, h, x => h.ext x
  | 14, _, _, _, h, x => h.ext x
  | _ + 15, _, _, _, _, _ => trivial
set_option maxRecDepth 100000 in
set_option maxHeartbeats 4000000 in
theorem filesR_any (fs : List FileL) (v : Value) (w : World) (h : IsFiles w fs v) (hb : (filesB fs).length ≤ 1099511627000) :
    Calls Try.prog 47 #[v] w fun e w' => ∃ x, e = .returned x ∧ OwnB w' 5 w.heap.size (filesB fs) x ∧ Ext No w w' := by
  have H := Lib.hid h
  obtain ⟨a, n, c, hvf⟩ : ∃ a n c, v = .slice a n c := by obtain ⟨a, c, h, -⟩ := h; exact ⟨a, _, c, h⟩
  subst hvf
  obtain ⟨hn, hc1, hc2⟩ := h.len
  have HN := Lib.hid hn; have HB := Lib.hid hb
  have hn40 : n ≤ 1099511627776 := by
    have h1 : ∀ gs : List FileL, gs.length ≤ (gs.map fileB).flatten.length := by
      intro gs
      induction gs with
      | nil => simp
      | cons g gs ih => simp only [List.map_cons, List.flatten_cons, List.length_append, List.length_cons, fileB, bytesB_length]; omega
    have h2 := h1 fs
    have h3 : (filesB fs).length = 4 + (fs.map fileB).flatten.length := by unfold filesB; rw [List.length_append, numB_length]
    omega
  clear hn hb h
  go_enter Try.func47, Try.ntmps47
  go_wp2_with fail
  refine (numR_any n 4 (by omega) (by decide) (by decide) w).mono ?_
  rintro e w1 ⟨y, rfl, hy1, hx1⟩
  obtain ⟨a1, c1, rfl⟩ := own_form hy1
  rw [numB_length] at hy1 ⊢
  have HY1 := Lib.hid hy1; have HX1 := Lib.hid hx1; clear hy1 hx1
  dsimp only
  go_wp2_with fail
  obtain ⟨w2, hw2⟩ : ∃ w2, w1.alloc (.cells #[.slice a1 4 c1] 31) = w2 := ⟨_, rfl⟩
  have hx2 : Ext No w1 w2 := by rw [← hw2]; exact (Ext.refl No w1).alloc _
  have hb2 := Blk.new w1 #[.slice a1 4 c1] 31
  rw [hw2] at hb2
  have ho2 : OwnBs w2 5 31 w.heap.size [numB n 4] (.slice (some ⟨w1.heap.size, 0, none⟩) 1 1) := by
    refine ⟨[.slice a1 4 c1], ⟨rfl, .inr ⟨w1.heap.size, 1, #[.slice a1 4 c1], rfl, HX1.out.size, hb2, by simp, by decide, rfl, rfl⟩⟩, fun i hi => ?_⟩
    have : i = 0 := by simp at hi; exact hi
    subst this
    exact own_le (OwnB.ext (l := numB n 4) (by unfold OwnB; rw [numB_length]; exact HY1.out) hx2 (fun _ _ s => s)) (Nat.le_refl _)
  have HO2 := Lib.hid ho2; have HX2 := Lib.hid (HX1.out.trans' hx2)
  rw [hw2]
  clear ho2 hx2 hb2 hw2
  go_loopw [3, 4] (fun o i wr => ∃ (k m : Nat) (ax : Option Addr) (cx : Nat), o = .slice ax m cx ∧ i = .int .i64 k ∧ k ≤ n ∧ m = 1 + 2 * k ∧ OwnBs wr 5 31 w.heap.size (numB n 4 :: fileRows (fs.take k)) (.slice ax m cx) ∧ Ext No w wr) (fun _ i _ => n - (intOf i).toNat)
  case atStart => exact ⟨0, 1, _, 1, rfl, rfl, by omega, rfl, HO2.out, HX2.out⟩
  case round =>
    obtain ⟨k, m, ax, cx, rfl, rfl, hk, hm, ho, hx⟩ := hrel
    have HX := Lib.hid hx; have HM := Lib.hid hm
    clear hx hm
    by_cases hlt : k < n
    · have hltI : (k : Int) < n := by omega
      obtain ⟨b, off, ay, ny, cy, rfl, hp, hd, hyb, hyn, hny⟩ := H.out.get k hlt
      have htk := fileRows_take fs k (by rw [← HN.out]; exact hlt)
      have hle := filesB_take_le fs (k + 1)
      rw [filesB_take fs k (by rw [← HN.out]; exact hlt)] at hle
      generalize hge : fs.getD k ([], []) = f at *
      clear hge
      obtain ⟨path, data⟩ := f
      simp only at hp hd hyb hny htk hle
      rw [List.length_append, List.length_append, bytesB_length, bytesB_length] at hle
      have hbl1 := World.block_lt_of_cell? _ _ hp; have hbl2 := World.block_lt_of_cell? _ _ hd
      obtain ⟨xs, o1, o2⟩ := ho
      have hlen1 : (numB n 4 :: fileRows (fs.take k)).length = m := by rw [List.length_cons, fileRows_len, List.length_take, HM.out]; have := HN.out; omega
      rw [hlen1] at o1
      have HO1 := Lib.hid o1; have HO2' := Lib.hid o2; have HLEN := Lib.hid hlen1
      have HNUM := Lib.hid (show m + 2 ≤ 9223372036854775807 ∧ (m + 2) * 24 ≤ 140737488355328 by have := HM.out; omega)
      have HYB := Lib.hid hyb; have HYN := Lib.hid hyn; have HTK := Lib.hid htk
      have HC := Lib.hid (show ∀ w', Ext No w w' → w'.cell? ⟨b, off + k * 2, none⟩ = some (.string (strB path)) ∧ w'.cell? ⟨b, off + k * 2 + 1, none⟩ = some (.slice ay ny cy) from fun w' x => ⟨by rw [x.cell hbl1 (fun s => s)]; exact hp, by rw [x.cell hbl2 (fun s => s)]; exact hd⟩)
      have HL1 := Lib.hid (show path.length ≤ 1099511627000 by have := HB.out; omega)
      have HL2 := Lib.hid (show data.length ≤ 1099511627000 by have := HB.out; omega)
      have HBW := Lib.hid HX.out.size
      clear o1 o2 hlen1 hyb hyn htk hle hbl1 hbl2 hny hp hd
      go_wp2_with fail
      refine wp_region_head 15 No (FilesV w.heap.size b off n c k ax m cx path data ay ny cy) (by kernel_rfl) (by kernel_rfl) (by kernel_rfl) (FilesV_ext w.heap.size b off n c k ax m cx path data ay ny cy) (HeadSteps.cons ?_ (HeadSteps.cons ?_ (HeadSteps.cons ?_ (HeadSteps.cons ?_ (HeadSteps.cons ?_ (HeadSteps.cons ?_ (HeadSteps.cons ?_ (HeadSteps.cons ?_ (HeadSteps.cons ?_ (HeadSteps.cons ?_ (HeadSteps.cons ?_ (HeadSteps.cons ?_ (HeadSteps.cons ?_ (HeadSteps.cons ?_ (HeadSteps.cons ?_ HeadSteps.nil))))))))))))))) ?_
      · -- slot 16
        intro ac wk hx hsame hdep K hK
        have d3 : ac.tmps.getD 3 undef = .slice ax m cx := hsame 3 (by kernel_rfl)
        have e3 := d3
        rw [Array.getD_eq_getD_getElem?] at e3
        clear hsame hdep
        go_simp
        exact hK _ _ (Ext.refl _ wk) rfl
      · -- slot 17
        intro ac wk hx hsame hdep K hK
        have d0 : ac.tmps.getD 0 undef = .slice (some ⟨b, off, none⟩) n c := hsame 0 (by kernel_rfl)
        have e0 := d0
        rw [Array.getD_eq_getD_getElem?] at e0
        clear hsame hdep
        go_simp
        exact hK _ _ (Ext.refl _ wk) rfl
      · -- slot 18
        intro ac wk hx hsame hdep K hK
        have d4 : ac.tmps.getD 4 undef = .int .i64 (k : Nat) := hsame 4 (by kernel_rfl)
        have e4 := d4
        rw [Array.getD_eq_getD_getElem?] at e4
        clear hsame hdep
        go_simp
        exact hK _ _ (Ext.refl _ wk) rfl
      · -- slot 19
        intro ac wk hx hsame hdep K hK
        have d17 : ac.tmps.getD 17 undef = .slice (some ⟨b, off, none⟩) n c := hdep 1 (by kernel_rfl)
        have e17 := d17
        rw [Array.getD_eq_getD_getElem?] at e17
        have d18 : ac.tmps.getD 18 undef = .int .i64 (k : Nat) := hdep 2 (by kernel_rfl)
        have e18 := d18
        rw [Array.getD_eq_getD_getElem?] at e18
        clear hsame hdep
        go_simp
        exact hK _ _ (Ext.refl _ wk) rfl
      · -- slot 20
        intro ac wk hx hsame hdep K hK
        have d19 : ac.tmps.getD 19 undef = .pointer (some ⟨b, off + k * 2, none⟩) := hdep 3 (by kernel_rfl)
        have e19 := d19
        rw [Array.getD_eq_getD_getElem?] at e19
        clear hsame hdep
        go_simp
        exact hK _ _ (Ext.refl _ wk) rfl
      · -- slot 21
        intro ac wk hx hsame hdep K hK
        have d20 : ac.tmps.getD 20 undef = .pointer (some ⟨b, off + k * 2, none⟩) := hdep 4 (by kernel_rfl)
        have e20 := d20
        rw [Array.getD_eq_getD_getElem?] at e20
        clear hsame hdep
        have hc := (HC.out wk (HX.out.drew.trans' hx)).1
        go_simp
        exact hK _ _ (Ext.refl _ wk) rfl
      · -- slot 22
        intro ac wk hx hsame hdep K hK
        have d21 : ac.tmps.getD 21 undef = .string (strB path) := hdep 5 (by kernel_rfl)
        have e21 := d21
        rw [Array.getD_eq_getD_getElem?] at e21
        clear hsame hdep
        obtain ⟨gc, w3, hcv, hx3, he3, hz3⟩ := conv_str path (Nat.le_trans HL1.out (by decide)) wk
        go_simp
        exact hK _ _ he3 ⟨_, _, _, rfl, hx3, NilOk.some _ _ _⟩
      · -- slot 23
        intro ac wk hx hsame hdep K hK
        have p22 : IsBN wk path (ac.tmps.getD 22 undef) := hdep 6 (by kernel_rfl)
        obtain ⟨a22, n22, c22, d22, b22, z22⟩ := p22
        have e22 := d22
        rw [Array.getD_eq_getD_getElem?] at e22
        clear hsame hdep
        rw [d22] at b22 z22
        go_simp
        refine (bytesR_any path a22 n22 c22 wk b22 z22 HL1.out).mono ?_
        rintro e w' ⟨y, rfl, hy, hx'⟩
        exact hK _ _ hx' (OB.of hy (Nat.le_trans HBW.out hx.size))
      · -- slot 24
        intro ac wk hx hsame hdep K hK
        have d0 : ac.tmps.getD 0 undef = .slice (some ⟨b, off, none⟩) n c := hsame 0 (by kernel_rfl)
        have e0 := d0
        rw [Array.getD_eq_getD_getElem?] at e0
        clear hsame hdep
        go_simp
        exact hK _ _ (Ext.refl _ wk) rfl
      · -- slot 25
        intro ac wk hx hsame hdep K hK
        have d4 : ac.tmps.getD 4 undef = .int .i64 (k : Nat) := hsame 4 (by kernel_rfl)
        have e4 := d4
        rw [Array.getD_eq_getD_getElem?] at e4
        clear hsame hdep
        go_simp
        exact hK _ _ (Ext.refl _ wk) rfl
      · -- slot 26
        intro ac wk hx hsame hdep K hK
        have d24 : ac.tmps.getD 24 undef = .slice (some ⟨b, off, none⟩) n c := hdep 8 (by kernel_rfl)
        have e24 := d24
        rw [Array.getD_eq_getD_getElem?] at e24
        have d25 : ac.tmps.getD 25 undef = .int .i64 (k : Nat) := hdep 9 (by kernel_rfl)
        have e25 := d25
        rw [Array.getD_eq_getD_getElem?] at e25
        clear hsame hdep
        go_simp
        exact hK _ _ (Ext.refl _ wk) rfl
      · -- slot 27
        intro ac wk hx hsame hdep K hK
        have d26 : ac.tmps.getD 26 undef = .pointer (some ⟨b, off + k * 2, none⟩) := hdep 10 (by kernel_rfl)
        have e26 := d26
        rw [Array.getD_eq_getD_getElem?] at e26
        clear hsame hdep
        go_simp
        exact hK _ _ (Ext.refl _ wk) rfl
      · -- slot 28
        intro ac wk hx hsame hdep K hK
        have d27 : ac.tmps.getD 27 undef = .pointer (some ⟨b, off + k * 2 + 1, none⟩) := hdep 11 (by kernel_rfl)
        have e27 := d27
        rw [Array.getD_eq_getD_getElem?] at e27
        clear hsame hdep
        have hc := (HC.out wk (HX.out.drew.trans' hx)).2
        go_simp
        exact hK _ _ (Ext.refl _ wk) rfl
      · -- slot 29
        intro ac wk hx hsame hdep K hK
        have d28 : ac.tmps.getD 28 undef = .slice ay ny cy := hdep 12 (by kernel_rfl)
        have e28 := d28
        rw [Array.getD_eq_getD_getElem?] at e28
        clear hsame hdep
        go_simp
        refine (bytesR_any data ay ny cy wk (HYB.out.ext0 (HX.out.drew.trans' hx)) HYN.out HL2.out).mono ?_
        rintro e w' ⟨y, rfl, hy, hx'⟩
        exact hK _ _ hx' (OB.of hy (Nat.le_trans HBW.out hx.size))
      · -- slot 30
        intro ac wk hx hsame hdep K hK
        have p23 : OB wk w.heap.size (bytesB path) (ac.tmps.getD 23 undef) := hdep 7 (by kernel_rfl)
        obtain ⟨a23, n23, c23, d23, o23⟩ := p23
        have e23 := d23
        rw [Array.getD_eq_getD_getElem?] at e23
        have p29 : OB wk w.heap.size (bytesB data) (ac.tmps.getD 29 undef) := hdep 13 (by kernel_rfl)
        obtain ⟨a29, n29, c29, d29, o29⟩ := p29
        have e29 := d29
        rw [Array.getD_eq_getD_getElem?] at e29
        clear hsame hdep
        go_simp
        rw [d23] at o23
        rw [d29] at o29
        exact hK _ _ ((Ext.refl No wk).alloc _) ⟨_, _, _, rfl, Blk.new wk _ _, OB.ext ⟨_, _, _, rfl, o23⟩ ((Ext.refl No wk).alloc _), OB.ext ⟨_, _, _, rfl, o29⟩ ((Ext.refl No wk).alloc _)⟩
      · intro ac wk hx hdf hsz hsame hvals
        have f0 : ac.tmps.getD 0 undef = .slice (some ⟨b, off, none⟩) n c := hsame 0 (by kernel_rfl)
        have f1 : ac.tmps.getD 1 undef = undef := hsame 1 (by kernel_rfl)
        have f2 : ac.tmps.getD 2 undef = .slice none 0 0 := hsame 2 (by kernel_rfl)
        have f3 : ac.tmps.getD 3 undef = .slice ax m cx := hsame 3 (by kernel_rfl)
        have f4 : ac.tmps.getD 4 undef = .int .i64 (k : Nat) := hsame 4 (by kernel_rfl)
        have f5 : ac.tmps.getD 5 undef = .slice (some ⟨b, off, none⟩) n c := hsame 5 (by kernel_rfl)
        have f6 : ac.tmps.getD 6 undef = .int .i64 (n : Nat) := hsame 6 (by kernel_rfl)
        have f7 : ac.tmps.getD 7 undef = .int .u64 (n : Nat) := hsame 7 (by kernel_rfl)
        have f8 : ac.tmps.getD 8 undef = .slice a1 4 c1 := hsame 8 (by kernel_rfl)
        have f9 : ac.tmps.getD 9 undef = .slice (some ⟨w1.heap.size, 0, none⟩) 1 1 := hsame 9 (by kernel_rfl)
        have f10 : ac.tmps.getD 10 undef = .int .i64 (k : Nat) := hsame 10 (by kernel_rfl)
        have f11 : ac.tmps.getD 11 undef = .slice (some ⟨b, off, none⟩) n c := hsame 11 (by kernel_rfl)
        have f12 : ac.tmps.getD 12 undef = .int .i64 (n : Nat) := hsame 12 (by kernel_rfl)
        have f13 : ac.tmps.getD 13 undef = .bool true := hsame 13 (by kernel_rfl)
        obtain ⟨u14, f14⟩ : ∃ u, ac.tmps.getD 14 undef = u := ⟨_, rfl⟩
        obtain ⟨u15, f15⟩ : ∃ u, ac.tmps.getD 15 undef = u := ⟨_, rfl⟩
        have f16 : ac.tmps.getD 16 undef = .slice ax m cx := hvals 0 (by decide)
        have f17 : ac.tmps.getD 17 undef = .slice (some ⟨b, off, none⟩) n c := hvals 1 (by decide)
        have f18 : ac.tmps.getD 18 undef = .int .i64 (k : Nat) := hvals 2 (by decide)
        have f19 : ac.tmps.getD 19 undef = .pointer (some ⟨b, off + k * 2, none⟩) := hvals 3 (by decide)
        have f20 : ac.tmps.getD 20 undef = .pointer (some ⟨b, off + k * 2, none⟩) := hvals 4 (by decide)
        have f21 : ac.tmps.getD 21 undef = .string (strB path) := hvals 5 (by decide)
        obtain ⟨u22, f22⟩ : ∃ u, ac.tmps.getD 22 undef = u := ⟨_, rfl⟩
        obtain ⟨u23, f23⟩ : ∃ u, ac.tmps.getD 23 undef = u := ⟨_, rfl⟩
        have f24 : ac.tmps.getD 24 undef = .slice (some ⟨b, off, none⟩) n c := hvals 8 (by decide)
        have f25 : ac.tmps.getD 25 undef = .int .i64 (k : Nat) := hvals 9 (by decide)
        have f26 : ac.tmps.getD 26 undef = .pointer (some ⟨b, off + k * 2, none⟩) := hvals 10 (by decide)
        have f27 : ac.tmps.getD 27 undef = .pointer (some ⟨b, off + k * 2 + 1, none⟩) := hvals 11 (by decide)
        have f28 : ac.tmps.getD 28 undef = .slice ay ny cy := hvals 12 (by decide)
        obtain ⟨u29, f29⟩ : ∃ u, ac.tmps.getD 29 undef = u := ⟨_, rfl⟩
        have p30 : TwoR wk w.heap.size (bytesB path) (bytesB data) (ac.tmps.getD 30 undef) := hvals 14 (by decide)
        obtain ⟨b30, x30, y30, f30, hb30, hx30, hy30⟩ := p30
        obtain ⟨u31, f31⟩ : ∃ u, ac.tmps.getD 31 undef = u := ⟨_, rfl⟩
        have f32 : ac.tmps.getD 32 undef = undef := hsame 32 (by kernel_rfl)
        have f33 : ac.tmps.getD 33 undef = undef := hsame 33 (by kernel_rfl)
        have hlit : ac = ⟨#[.slice (some ⟨b, off, none⟩) n c, undef, .slice none 0 0, .slice ax m cx, .int .i64 (k : Nat), .slice (some ⟨b, off, none⟩) n c, .int .i64 (n : Nat), .int .u64 (n : Nat), .slice a1 4 c1, .slice (some ⟨w1.heap.size, 0, none⟩) 1 1, .int .i64 (k : Nat), .slice (some ⟨b, off, none⟩) n c, .int .i64 (n : Nat), .bool true, u14, u15, .slice ax m cx, .slice (some ⟨b, off, none⟩) n c, .int .i64 (k : Nat), .pointer (some ⟨b, off + k * 2, none⟩), .pointer (some ⟨b, off + k * 2, none⟩), .string (strB path), u22, u23, .slice (some ⟨b, off, none⟩) n c, .int .i64 (k : Nat), .pointer (some ⟨b, off + k * 2, none⟩), .pointer (some ⟨b, off + k * 2 + 1, none⟩), .slice ay ny cy, u29, .slice (some ⟨b30, 0, none⟩) 2 2, u31, undef, undef], []⟩ := by
          refine (act_lit hsz hdf).trans ?_
          rw [show List.range _ = [0, 1, 2, 3, 4, 5, 6, 7, 8, 9, 10, 11, 12, 13, 14, 15, 16, 17, 18, 19, 20, 21, 22, 23, 24, 25, 26, 27, 28, 29, 30, 31, 32, 33] from rfl]
          simp only [List.map_cons, List.map_nil, f0, f1, f2, f3, f4, f5, f6, f7, f8, f9, f10, f11, f12, f13, f14, f15, f16, f17, f18, f19, f20, f21, f22, f23, f24, f25, f26, f27, f28, f29, f30, f31, f32, f33]
        clear hvals hsame hdf hsz f0 f1 f2 f3 f4 f5 f6 f7 f8 f9 f10 f11 f12 f13 f14 f15 f16 f17 f18 f19 f20 f21 f22 f23 f24 f25 f26 f27 f28 f29 f30 f31 f32 f33
        subst hlit
        simp only [List.drop_succ_cons, List.drop_zero]
        have HXA := Lib.hid (HX.out.trans' hx)
        have HOW := Lib.hid (own_ext HO1.out hx (fun _ _ s => s))
        have HR30 := Lib.hid (row2 hb30); have HT30 := Lib.hid (two_one hx30.one hy30.one); have HZ := Lib.hid HXA.out.size
        have HX30 := Lib.hid hx30; have HY30 := Lib.hid hy30; have HXX := Lib.hid hx; clear hx30 hy30 hb30 hx
        go_wp2_with (at_builtin; refine wpList_appN _ rfl _ _ 59 rfl w.heap.size 31 _ _ rows_info Try.underlying59 rfl _ m xs rfl HOW.out _ 2 2 _ rfl HR30.out (fun h => nomatch h) HT30.out HNUM.out.1 HNUM.out.2 HZ.out ?_; intro v' w7 hown7 hg7; obtain ⟨a7, c7, rfl⟩ := own_form hown7; have HOW7 := Lib.hid hown7; have HG7 := Lib.hid hg7; clear hown7 hg7)
        have hbn : ∀ i, i < 2 → OwnB wk 5 w.heap.size ([bytesB path, bytesB data].getD i []) (([two x30 y30 0, two x30 y30 1] : List Value).getD i undef) := by
          intro i hi
          have : i = 0 ∨ i = 1 := by omega
          rcases this with rfl | rfl
          · obtain ⟨a, n, c, -, h⟩ := HX30.out; exact h
          · obtain ⟨a, n, c, -, h⟩ := HY30.out; exact h
        have hobs : OwnBs w7 5 31 w.heap.size ((numB n 4 :: fileRows (fs.take k)) ++ [bytesB path, bytesB data]) (.slice a7 (m + 2) c7) :=
          OwnBs.appL (by decide) (by rw [HLEN.out]; exact HOW.out) (fun i hi => (HO2'.out i hi).ext HXX.out (fun _ _ s => s)) hbn (by rw [HLEN.out]; exact HOW7.out) HG7.out
        rw [List.cons_append, ← HTK.out] at hobs
        have HOBS := Lib.hid hobs
        have HE7 := Lib.hid (HXA.out.grown HG7.out (fun i hi h => absurd h (Nat.not_lt.2 (World.ownsRow.lt HO1.out i hi).1)))
        clear hbn hobs
        go_roundw
        case rel => exact ⟨k + 1, m + 2, a7, c7, rfl, by go_num, by omega, by have := HM.out; omega, HOBS.out, HE7.out⟩
        case measure => simp [intOf]; omega
    · have hkn : k = n := by omega
      subst hkn
      have HO := Lib.hid ho; clear ho
      go_wp2_with fail
      have hrn := HO.out.rowsN
      have hft : (numB k 4 :: fileRows (fs.take k)).flatten = filesB fs := by
        rw [List.take_of_length_le (by rw [HN.out]; exact Nat.le_refl _), List.flatten_cons, fileRows_flat]
        unfold filesB; rw [HN.out]
      refine (join_any _ _ wr hrn (by rw [hft]; have := HB.out; omega)).mono ?_
      rintro e w2 ⟨x, rfl, hox, hx2⟩
      rw [hft] at hox
      have HOX := Lib.hid (own_le hox HX.out.size); have HX2 := Lib.hid (HX.out.trans' hx2); clear hox hx2 hrn hft
      dsimp only
      go_wp2_with fail
      go_ret
      exact ⟨x, rfl, HOX.out, HX2.out⟩

end Go.Proofs.Ytchejnnfbinclaa
end
