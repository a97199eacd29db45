/- The walk of coldstorelaw01.GuardNests. -/
import Derived.Test.YthdbgldjcnhboaaGuardF
namespace Go.Proofs.Ythdbgldjcnhboaa
open Go.RowKit Go.My

set_option maxRecDepth 100000 in
set_option maxHeartbeats 400000 in
theorem sameInts_any (l : List Int) (v1 v2 : Value) (w : World) (h1 : IsRow w (int64 l) l.length v1) (h2 : IsRow w (int64 l) l.length v2) (hm : l.length ≤ 9223372036854775807) :
    Calls Try.prog 18 #[v1, v2] w fun e w' => e = .returned (.bool true) ∧ Dr w w' := by
  obtain ⟨m, hm'⟩ : ∃ m, m = l.length := ⟨_, rfl⟩
  rw [← hm'] at h1 h2 hm
  have H1 := Lib.hid h1; have H2 := Lib.hid h2
  obtain ⟨a1, cap1, rfl, hc1, hc2, -⟩ := h1
  obtain ⟨a2, cap2, rfl, hc3, hc4, -⟩ := h2
  have HM := Lib.hid hm'; clear hm'
  go_enter Try.func18, Try.ntmps18
  go_wp2_with fail
  go_loopw [5] (fun i wr => ∃ k : Nat, k ≤ m ∧ i = .int .i64 k ∧ Dr w wr) (fun i _ => m - (intOf i).toNat)
  case atStart => exact ⟨0, by omega, rfl, Dr.refl w⟩
  case round =>
    obtain ⟨k, hk, rfl, hd⟩ := hrel
    by_cases hlt : k < m
    · obtain ⟨b, off, rfl, hc⟩ := (H1.out.ext0 (hd.ext No)).get k hlt
      obtain ⟨b2, off2, rfl, hcc⟩ := (H2.out.ext0 (hd.ext No)).get k hlt
      rw [int64_def] at hc hcc
      generalize l.getD k 0 = x at *
      have hlti : (k : Int) < (m : Int) := by omega
      have HD := Lib.hid hd; clear hd
      go_wp2_with fail
      go_quiet (fail)
      go_wp2_with fail
      go_roundw
      case rel => exact ⟨k + 1, by omega, by go_num, HD.out.more _⟩
      case measure => simp [intOf]; omega
    · obtain rfl : k = m := by omega
      have HD := Lib.hid hd; clear hd
      go_wp2_with fail
      go_ret
      exact ⟨rfl, HD.out⟩

set_option maxRecDepth 100000 in
set_option maxHeartbeats 400000 in
theorem nests11_any (S : Nat → Prop) (xb : Nat) (x : Int) (w : World) (h : Var w xb (.int .i64 x) 3) :
    Calls Try.prog 17 #[.pointer (some ⟨xb, 0, none⟩)] w (Body S w (fun m _ => m = x)) := by
  have hc := Var.get h
  clear h
  go_enter Try.func17, Try.ntmps17
  go_wp2_with fail
  refine (must_any S x w).mono ?_
  rintro e w2 ⟨m, he, -, hm, rfl⟩
  subst hm
  clear hc
  rcases he with ⟨rfl, rfl⟩ | ⟨rfl, hn0⟩
  · go_wp2_with fail
    go_end0
    exact ⟨0, .inl ⟨rfl, rfl⟩, Ext.refl S w, rfl⟩
  · exact ⟨rfl, m, .inr ⟨rfl, hn0⟩, Ext.refl S w, rfl⟩

theorem Try.infoI : (Try.prog.info? 3).map (fun i => (i.zero, i.size, i.bytes)) = some (some (.int .i64 0), 1, 8) := by kernel_rfl
theorem take_ints (l : List Int) (k : Nat) (h : k < l.length) : (l.take k).map (Value.int .i64) ++ [Value.int .i64 (l.getD k 0)] = (l.take (k + 1)).map (Value.int .i64) := by
  rw [List.take_succ_eq_append_getElem h, List.map_append]; simp only [List.getD_eq_getElem?_getD, List.getElem?_eq_getElem h, Option.getD_some, List.map_cons, List.map_nil]

/-- what the gathering closure has done -/
structure Seen (B h : Nat) (w wr : World) (sb : Nat) (l : List Int) (k : Nat) : Prop where
  ext : Ext (fun j => j = sb ∨ (B ≤ j ∧ j ≠ h)) w wr
  cell : Var wr h (.int .i64 0) 26
  row : ∃ v, Var wr sb v 22 ∧ wr.ownsRow B 3 1 v k ((l.take k).map (Value.int .i64))

set_option maxRecDepth 100000 in
set_option maxHeartbeats 1000000 in
theorem nests1_any (B h lb sb : Nat) (l : List Int) (v : Value) (w : World) (hl : IsRow w (int64 l) l.length v) (hm : l.length ≤ 100) (hlb : Var w lb v 22) (hs : Seen B h w w sb l 0)
    (hv : 0 < l.length → ∀ j, v.ownBlock = some j → j ≠ sb ∧ j < B) (hB : B ≤ w.heap.size) :
    Calls Try.prog 16 #[.pointer (some ⟨lb, 0, none⟩), .pointer (some ⟨sb, 0, none⟩)] w (Body (fun j => j = sb ∨ (B ≤ j ∧ j ≠ h)) w (fun n w' => n = 0 ∧ Seen B h w w' sb l l.length)) := by
  have hmf := mkf
  obtain ⟨m, hm'⟩ : ∃ m, m = l.length := ⟨_, rfl⟩
  rw [← hm'] at hl hm hv ⊢
  have HL := Lib.hid hl
  obtain ⟨a, cap, rfl, hc1, hc2, -⟩ := hl
  have hlc := Var.get hlb
  have HM := Lib.hid hm'; have HS := Lib.hid hs; have HV := Lib.hid hv; have HB := Lib.hid hB; clear hm' hlb hs hv hB
  go_enter Try.func16, Try.ntmps16
  go_wp2_with fail
  go_loopw [3, 6] (fun _ i wr => ∃ k : Nat, k ≤ m ∧ i = .int .i64 k ∧ Seen B h w wr sb l k) (fun _ i _ => m - (intOf i).toNat)
  case atStart => exact ⟨0, by omega, rfl, HS.out⟩
  case round =>
    clear HS hlc
    obtain ⟨k, hk, rfl, hs⟩ := hrel
    by_cases hlt : k < m
    · obtain ⟨b, off, rfl, hc⟩ := (HL.out.extP hs.ext (by intro h0 j hj h; have := HV.out h0 j hj; omega)).get k hlt
      rw [int64_def] at hc
      have hbl := World.block_lt_of_cell? _ _ hc
      simp only at hbl
      obtain ⟨vs, hsv, hown⟩ := hs.row
      have HX := Lib.hid hs.ext
      have HCE := Lib.hid hs.cell
      clear hs
      generalize hgx : l.getD k 0 = x at *
      have HGX := Lib.hid hgx; clear hgx
      have hbase : B ≤ wr.heap.size := Nat.le_trans HB.out HX.out.size
      obtain ⟨w1, hw1⟩ : ∃ w1, (wr.alloc (.cells #[.int .i64 x] 3)).drew = w1 := ⟨_, rfl⟩
      have hx1 : Ext No wr w1 := by rw [← hw1]; exact ((Ext.refl No wr).alloc _).drew
      have hsv1 := hsv.ext hx1 (fun x => x)
      have hown1 := own_ext hown hx1 (fun _ _ x => x)
      have hrun := run_ext No 17 #[.pointer (some ⟨wr.heap.size, 0, none⟩)] w1 (fun m _ => m = x) (fun w => by kernel_rfl) (fun x => x) (fun _ _ h => h)
        (nests11_any No wr.heap.size x _ (by rw [← hw1]; exact ((Blk.new wr _ _).drew).alloc _))
      have hsc := Var.get hsv
      have hscl := hsv.lt
      rw [← hw1] at hrun hown1 hsv1 hx1
      have hbase1 : B ≤ (wr.alloc (.cells #[.int .i64 x] 3)).drew.heap.size := by simp; omega
      have HR := Lib.hid hrun; have HOWN := Lib.hid hown1; have HSV := Lib.hid hsv1; have HX1 := Lib.hid hx1; have HB1 := Lib.hid hbase1; clear hrun hown hown1 hsv hsv1 hx1 hw1 hbase1
      go_wp2_with fail
      clear hc hbl
      have HKM := Lib.hid (show k + 1 ≤ 9223372036854775807 ∧ (k + 1) * 8 ≤ 140737488355328 by omega)
      go_region_law (first
        | (go_simp; go_at_call 9; refine HR.out.mono ?_; rintro e w6 ⟨y, rfl, hx6, rfl⟩; have HO6 := Lib.hid (own_ext HOWN.out hx6 (fun _ _ x => x)); have hs6 := HSV.out.ext hx6 (fun x => x); have HS6 := Lib.hid hs6; have hc6 := Var.get hs6; have hl6 := hs6.lt; have HX6 := Lib.hid (HX1.out.trans' hx6); have HB6 := Lib.hid (Nat.le_trans HB1.out hx6.size); clear hx6 hs6)
        | (refine step_app1 _ _ rfl _ _ 22 rfl B 3 _ _ Try.infoI Try.underlying22 rfl _ _ _ rfl (HO6.out.alloc _) _ rfl (cell_new _ _ _ rfl) rfl HKM.out.1 HKM.out.2 (le_alloc HB6.out _) ?_; intro v' w7 hown7 hgrow7; obtain ⟨a7, c7, rfl⟩ := own_form hown7; have hz7 := (HS6.out.alloc _).grown hgrow7 (own_ne_type HO6.out HS6.out (by decide)); have hc7 := Var.get hz7; have hf7 := hz7.free 0; have HO7 := Lib.hid hown7; have HG7 := Lib.hid hgrow7; have HZ7 := Lib.hid hz7; clear hown7 hgrow7 hz7))
      all_goals
        have hce6 := (HCE.out.ext HX6.out (fun x => x))
        have hce7 := (hce6.alloc _).grown HG7.out (own_ne_type HO6.out hce6 (by decide))
        have hce9 := hce7.set_other ⟨sb, 0, none⟩ (.slice a7 (k + 1) c7) (hce7.ne_type HZ7.out (by decide))
        have hx9 : Ext (fun j => j = sb ∨ (B ≤ j ∧ j ≠ h)) w (w7.setCell ⟨sb, 0, none⟩ (.slice a7 (k + 1) c7)) := by
          have h1 : Ext (fun j => j = sb ∨ (B ≤ j ∧ j ≠ h)) w w6 := HX.out.trans HX6.out (fun _ _ h => h) (fun _ _ h => h.elim)
          exact ((h1.alloc _).grown HG7.out (fun j hj _ => .inr ⟨(HO6.out.lt j hj).1, fun e => by subst e; exact own_ne_type HO6.out hce6 (by decide) hj⟩)).setCell _ _ (fun _ => .inl rfl)
        have hr9 : Seen B h w (w7.setCell ⟨sb, 0, none⟩ (.slice a7 (k + 1) c7)) sb l (k + 1) := by
          refine ⟨hx9, hce9, _, HZ7.out.set 0 _, ?_⟩
          have h2 := HO7.out
          rw [← HGX.out, take_ints l k (by rw [← HM.out]; exact hlt)] at h2
          exact own_ext h2 ((Ext.refl (fun j => j = sb) w7).setCell _ _ (fun _ => rfl)) (fun j hj e => by subst e; exact own_ne_type HO7.out HZ7.out (by decide) hj)
        have HR9 := Lib.hid hr9
        clear hx9 hr9 hce6 hce7 hce9
        go_wp2_with fail
        go_roundw
        case rel => exact ⟨k + 1, by omega, by go_num, HR9.out⟩
        case measure => simp [intOf]; omega
    · obtain rfl : k = m := by omega
      have HS := Lib.hid hs; clear hs
      go_wp2_with fail
      go_end0
      exact ⟨0, .inl ⟨rfl, rfl⟩, HS.out.ext, rfl, HS.out⟩

end Go.Proofs.Ythdbgldjcnhboaa
