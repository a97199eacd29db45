/- The walk of coldstorelaw01.GuardValues. -/
import Derived.Test.YthdbgldjcnhboaaGuardE
namespace Go.Proofs.Ythdbgldjcnhboaa
open Go.RowKit Go.My

theorem firstE_zero (l : List Int) : firstE l = 0 ↔ firstN l = l.length := by
  induction l with
  | nil => simp [firstN, firstE]
  | cons x r ih =>
    simp only [firstN, firstE, List.length_cons]
    by_cases h : x = 0
    · simp only [h, if_true, ih]; omega
    · simp only [h, if_false]
      exact ⟨fun hx => hx.elim, fun hx => by omega⟩

def strOr (e : Int) (s : ByteArray) : ByteArray := if e = 0 then s else ⟨#[]⟩

set_option maxRecDepth 100000 in
set_option maxHeartbeats 400000 in
theorem values1_any (nb ab sb eb bb : Nat) (n e : Int) (s : ByteArray) (w : World) (hn : Var w nb (.int .i64 n) 3) (ha : Var w ab (.int .i64 0) 3) (hs : Var w sb (.string s) 9)
    (he : Var w eb (.int .i64 e) 3) (hb : Var w bb (.string ⟨#[]⟩) 9) (hd : nb ≠ ab ∧ eb ≠ ab ∧ sb ≠ bb) :
    Calls Try.prog 25 #[.pointer (some ⟨nb, 0, none⟩), .pointer (some ⟨ab, 0, none⟩), .pointer (some ⟨sb, 0, none⟩), .pointer (some ⟨eb, 0, none⟩), .pointer (some ⟨bb, 0, none⟩)] w
      (Body (fun k => k = ab ∨ k = bb) w (fun r w' => r = e ∧ Var w' ab (.int .i64 n) 3 ∧ Var w' bb (.string (strOr e s)) 9)) := by
  have d1 : ab ≠ sb := ha.ne_type hs (by decide)
  have d2 : ab ≠ bb := ha.ne_type hb (by decide)
  have c1 := Var.get hn
  have z1 := ha.free 0
  have c2 := Var.get ha
  have HA := Lib.hid ha; have HS := Lib.hid hs; have HE := Lib.hid he; have HB := Lib.hid hb; clear hn ha hs he hb
  go_enter Try.func25, Try.ntmps25
  go_wp2_with fail
  refine (valueI_ok n w).mono ?_
  rintro x w2 ⟨rfl, rfl⟩
  have ha2 := Var.put HA.out (.int .i64 n)
  have hs2 := HS.out.set_other ⟨ab, 0, none⟩ (.int .i64 n) d1.symm
  have he2 := HE.out.set_other ⟨ab, 0, none⟩ (.int .i64 n) hd.2.1
  have hb2 := HB.out.set_other ⟨ab, 0, none⟩ (.int .i64 n) d2.symm
  have k1 := Var.get hs2
  have k2 := Var.get he2
  have k3 := Var.get hb2
  have z3 := hb2.free 0
  have hx2 : Ext (fun k => k = ab ∨ k = bb) w (w.setCell ⟨ab, 0, none⟩ (.int .i64 n)) := (Ext.refl _ w).setCell _ _ (fun _ => .inl rfl)
  clear HA HS HE HB
  have HA := Lib.hid ha2; have HB := Lib.hid hb2; have HX := Lib.hid hx2; clear ha2 hs2 he2 hb2 hx2
  by_cases h0 : e = 0
  · subst h0
    go_wp2_with fail
    refine (valueS_ok s _).mono ?_
    rintro x w3 ⟨rfl, rfl⟩
    go_wp2_with fail
    go_end0
    exact ⟨0, .inl ⟨rfl, rfl⟩, HX.out.setCell _ _ (fun _ => .inr rfl), rfl, HA.out.set_other _ _ d2, by unfold strOr; rw [if_pos rfl]; exact Var.put HB.out _⟩
  · have H0 := Lib.hid h0; clear h0
    go_wp2_with fail
    refine (valueS_no s e H0.out _).mono ?_
    rintro x w3 ⟨rfl, rfl⟩
    exact ⟨rfl, e, .inr ⟨rfl, H0.out⟩, HX.out, rfl, HA.out, by unfold strOr; rw [if_neg H0.out]; exact HB.out⟩

set_option maxRecDepth 100000 in
set_option maxHeartbeats 400000 in
theorem values2_any (db xb : Nat) (k : Nat) (x : Int) (w : World) (hk : k ≤ 100) (hd : Var w db (.int .i64 k) 3) (hx : Var w xb (.int .i64 x) 3) (hne : xb ≠ db) :
    Calls Try.prog 27 #[.pointer (some ⟨db, 0, none⟩), .pointer (some ⟨xb, 0, none⟩)] w fun e w' => e = .returned (.int .i64 x) ∧ Ext (fun k => k = db) w w' ∧ Var w' db (.int .i64 (k + 1 : Nat)) 3 := by
  have c1 := Var.get hd
  have c2 := Var.get hx
  have z1 := hd.free 0
  have HD := Lib.hid hd
  clear hd hx
  go_enter Try.func27, Try.ntmps27
  go_wp2_with fail
  go_ret
  exact ⟨rfl, (Ext.refl _ w).setCell _ _ (fun _ => rfl), Var.put HD.out _⟩

set_option maxRecDepth 100000 in
set_option maxHeartbeats 3000000 in
theorem guardValues_any (n e : Int) (s : ByteArray) (l : List Int) (v : Value) (w : World) (hl : IsRow w (int64 l) l.length v) (hm : l.length ≤ 9223372036854775807) :
    Calls Try.prog 5 #[.int .i64 n, .string s, .int .i64 e, v] w fun e w' => e = .returned (.bool true) ∧ Ext No w w' := by
  have hmf := mkf
  obtain ⟨m, hm'⟩ : ∃ m, m = l.length := ⟨_, rfl⟩
  rw [← hm'] at hl hm
  have HL := Lib.hid hl
  obtain ⟨a, cap, rfl, hc1, hc2, -⟩ := hl
  have HM := Lib.hid hm'; clear hm'
  go_enter Try.func5, Try.ntmps5
  go_wp2_with fail
  obtain ⟨w1, hw1⟩ : ∃ w1, ((w.alloc (.cells #[.int .i64 n] 3)).alloc (.cells #[.string s] 9)).alloc (.cells #[.int .i64 e] 3) = w1 := ⟨_, rfl⟩
  have hx1 : Ext No w w1 := by rw [← hw1]; exact (((Ext.refl No w).alloc _).alloc _).alloc _
  have hn1 : Var w1 w.heap.size (.int .i64 n) 3 := by rw [← hw1]; exact ((Blk.new w _ _).alloc _).alloc _
  have hs1 : Var w1 (w.heap.size + 1) (.string s) 9 := by
    rw [← hw1]; have := Blk.new (w.alloc (.cells #[.int .i64 n] 3)) #[.string s] 9; rw [World.size_alloc] at this; exact this.alloc _
  have he1 : Var w1 (w.heap.size + 2) (.int .i64 e) 3 := by
    rw [← hw1]; have := Blk.new ((w.alloc (.cells #[.int .i64 n] 3)).alloc (.cells #[.string s] 9)) #[.int .i64 e] 3; rw [World.size_alloc, World.size_alloc] at this; exact this
  have hz1 : w1.heap.size = w.heap.size + 3 := by rw [← hw1]; simp
  rw [hw1]; clear hw1
  obtain ⟨nb, hnb⟩ : ∃ nb, w.heap.size = nb := ⟨_, rfl⟩
  rw [hnb] at hn1 hs1 he1 hz1 ⊢
  have HNB := Lib.hid hnb; clear hnb
  refine (alive_any w1).mono ?_
  rintro x w2 ⟨rfl, hx2⟩
  have hn2 := hn1.ext hx2 (fun x => x)
  have hs2 := hs1.ext hx2 (fun x => x)
  have he2 := he1.ext hx2 (fun x => x)
  have hz2 : nb + 3 ≤ w2.heap.size := by have := hx2.size; omega
  have hx2' := hx1.trans' hx2
  clear hx1 hn1 hs1 he1 hz1 hx2
  have HN2 := Lib.hid hn2; have HS2 := Lib.hid hs2; have HE2 := Lib.hid he2; have HZ2 := Lib.hid hz2; have HX2 := Lib.hid hx2'; clear hn2 hs2 he2 hz2 hx2'
  by_cases hlong : 100 < m
  · go_wp2_with fail
    go_ret
    exact ⟨rfl, HX2.out⟩
  · go_wp2_with fail
    obtain ⟨w3, hw3⟩ : ∃ w3, (w2.alloc (.cells #[.int .i64 0] 3)).alloc (.cells #[.string ⟨#[]⟩] 9) = w3 := ⟨_, rfl⟩
    have hx3 : Ext No w2 w3 := by rw [← hw3]; exact ((Ext.refl No w2).alloc _).alloc _
    have ha3 : Var w3 w2.heap.size (.int .i64 0) 3 := by rw [← hw3]; exact (Blk.new w2 _ _).alloc _
    have hb3 : Var w3 (w2.heap.size + 1) (.string ⟨#[]⟩) 9 := by
      rw [← hw3]; have := Blk.new (w2.alloc (.cells #[.int .i64 0] 3)) #[.string ⟨#[]⟩] 9; rw [World.size_alloc] at this; exact this
    have hz3 : w3.heap.size = w2.heap.size + 2 := by rw [← hw3]; simp
    rw [hw3]; clear hw3
    have hn3 := HN2.out.ext hx3 (fun x => x)
    have hs3 := HS2.out.ext hx3 (fun x => x)
    have he3 := HE2.out.ext hx3 (fun x => x)
    have hx3' := HX2.out.trans' hx3
    have hz2 := HZ2.out
    clear HN2 HS2 HE2 HX2 HZ2 hx3
    generalize w2.heap.size = ab at *
    have hrun := run_ext (fun k => k = ab ∨ k = ab + 1) 25 #[.pointer (some ⟨nb, 0, none⟩), .pointer (some ⟨ab, 0, none⟩), .pointer (some ⟨nb + 1, 0, none⟩), .pointer (some ⟨nb + 1 + 1, 0, none⟩), .pointer (some ⟨ab + 1, 0, none⟩)] w3
      (fun r w' => r = e ∧ Var w' ab (.int .i64 n) 3 ∧ Var w' (ab + 1) (.string (strOr e s)) 9) (fun w => by kernel_rfl) (by omega)
      (fun n w1 h => ⟨h.1, h.2.1.set_other _ _ (by simp; omega), h.2.2.set_other _ _ (by simp; omega)⟩)
      (values1_any nb ab (nb + 1) (nb + 1 + 1) (ab + 1) n e s _ (hn3.alloc _) (ha3.alloc _) (hs3.alloc _) (he3.alloc _) (hb3.alloc _) (by omega))
    have HR := Lib.hid hrun; clear hrun
    have HN3 := Lib.hid hn3; have HS3 := Lib.hid hs3; have HE3 := Lib.hid he3; have HZ3 := Lib.hid (And.intro hz2 hz3); have HX3 := Lib.hid hx3'; clear hn3 hs3 he3 hz2 hz3 hx3' ha3 hb3
    refine HR.out.mono ?_
    clear HR
    rintro x w4 ⟨r, rfl, hx4, rfl, ha4, hb4⟩
    have hn4 := HN3.out.ext hx4 (by have := HZ3.out; omega)
    have hs4 := HS3.out.ext hx4 (by have := HZ3.out; omega)
    have he4 := HE3.out.ext hx4 (by have := HZ3.out; omega)
    have hx4' : Ext No w w4 := HX3.out.trans hx4 (fun _ _ x => x) (by intro i hi h; have := HZ3.out; have := HNB.out; omega)
    clear hx4 HN3 HS3 HE3 HX3 HZ3
    have c1 := Var.get hn4
    have c2 := Var.get hs4
    have c3 := Var.get he4
    have c4 := Var.get ha4
    have c5 := Var.get hb4
    have HX4 := Lib.hid hx4'
    clear hn4 hs4 he4 ha4 hb4 hx4'
    go_upto_region 8 with fail
    go_cut [51] (fun t wx => t = .bool false ∧ wx = w4)
    case first =>
      by_cases hr0 : r = 0
      · have hs : strOr r s = s := by unfold strOr; rw [if_pos hr0]
        rw [hs] at c5
        subst hr0
        clear hs
        go_wp2_with fail
        go_meet
        exact ⟨rfl, rfl⟩
      · have hs : strOr r s = ⟨#[]⟩ := by unfold strOr; rw [if_neg hr0]
        have hbr : (r == 0) = false := by simpa using hr0
        have hbr2 : (r != 0) = true := by simpa using hr0
        rw [hs] at c5
        clear hs hr0
        go_wp2_with fail
        go_meet
        exact ⟨rfl, rfl⟩
    case rest =>
      obtain ⟨rfl, rfl⟩ := hcut
      clear c1 c2 c3 c4 c5
      go_wp2_with fail
      obtain ⟨w5, hw5⟩ : ∃ w5, wc.alloc (.cells #[.int .i64 0] 3) = w5 := ⟨_, rfl⟩
      have hd5 : Var w5 wc.heap.size (.int .i64 0) 3 := by rw [← hw5]; exact Blk.new wc _ _
      have hz5 : w5.heap.size = wc.heap.size + 1 := by rw [← hw5]; simp
      have hx5 : Ext No w w5 := by rw [← hw5]; exact HX4.out.alloc _
      rw [hw5, show wc.heap.size + 1 = w5.heap.size from hz5.symm]
      have hlw : w.heap.size ≤ wc.heap.size := HX4.out.size
      clear hw5 HX4
      generalize wc.heap.size = db at *
      obtain ⟨w6, hw6⟩ : ∃ w6, w5.alloc (.cells #[] 31) = w6 := ⟨_, rfl⟩
      have ho6 : w6.ownsRow w5.heap.size 31 1 (.slice (some ⟨w5.heap.size, 0, none⟩) 0 0) 0 [] := by rw [← hw6]; exact World.ownsRow_made w5 #[] 0 (Nat.le_refl _) (by unfold maxLen; omega) rfl
      have hx56 : Ext No w5 w6 := by rw [← hw6]; exact (Ext.refl No w5).alloc _
      have hd6 := hd5.ext hx56 (fun x => x)
      rw [hw6]; clear hw6
      have HX := Lib.hid hx56; have HD := Lib.hid hd6; have HX5 := Lib.hid hx5; have HZ5 := Lib.hid (And.intro hz5 hlw)
      have HST := Lib.hid (Steps.nil w5 w6 27 l _ (fun b => #[.pointer (some ⟨db, 0, none⟩), .pointer (some ⟨b, 0, none⟩)]) ho6); clear hx56 hd5 hd6 hx5 hz5 ho6 hlw
      generalize Value.slice (some ⟨w5.heap.size, 0, none⟩) 0 0 = sv at *
      go_loopw [13, 15, 55] (fun sl _ i wr => ∃ (k : Nat) (vs : Value) (caps : Nat → Nat), k ≤ m ∧ i = .int .i64 k ∧ sl = vs ∧ Ext No w5 wr ∧ Var wr db (.int .i64 0) 3 ∧
        Steps w5 wr 27 l k vs (fun b => #[.pointer (some ⟨db, 0, none⟩), .pointer (some ⟨b, 0, none⟩)]) caps) (fun _ _ i _ => m - (intOf i).toNat)
      case atStart => exact ⟨0, sv, _, by omega, rfl, rfl, HX.out, HD.out, HST.out⟩
      case round =>
        clear HX HD HST
        obtain ⟨k, vs, caps, hk, rfl, rfl, hx, hd, hst⟩ := hrel
        have HX := Lib.hid hx; have HD := Lib.hid hd; have HST := Lib.hid hst; clear hx hd hst
        by_cases hlt : k < m
        · obtain ⟨b, off, rfl, hc⟩ := (HL.out.ext0 (HX5.out.trans' HX.out)).get k hlt
          have hbl := World.block_lt_of_cell? _ _ hc
          rw [int64_def] at hc
          simp only at hbl
          generalize hgx : l.getD k 0 = x at *
          have HGX := Lib.hid hgx; clear hgx
          have hbase : w5.heap.size ≤ wr.heap.size := HX.out.size
          go_wp2_with (at_builtin; refine wpList_app1 _ _ rfl _ _ 30 rfl w5.heap.size 31 _ _ Try.infoF Try.underlying30 rfl _ _ _ rfl ((HST.out.own.alloc _).alloc _) _ rfl (cell_new _ _ _ (by simp)) rfl (by omega) (by omega) (by simp; omega) ?_; intro v' w2 hown hgrow)
          have hown0 := (HST.out.own.alloc (.cells #[.int .i64 x] 3)).alloc (.cells #[.func (.func 27) #[] #[.pointer (some ⟨db, 0, none⟩), .pointer (some ⟨wr.heap.size, 0, none⟩)]] 31)
          have hnv := (Blk.new wr #[.int .i64 x] 3).alloc (.cells #[.func (.func 27) #[] #[.pointer (some ⟨db, 0, none⟩), .pointer (some ⟨wr.heap.size, 0, none⟩)]] 31)
          have hd2 := ((HD.out.alloc _).alloc _).grown hgrow (own_ne_type hown0 ((HD.out.alloc _).alloc _) (by decide))
          have hnv2 := hnv.grown hgrow (own_ne_type hown0 hnv (by decide))
          have hx2 : Ext No w5 w2 := ((HX.out.alloc _).alloc _).grown hgrow (fun j hj hlt => by have := hown0.lt j hj; omega)
          rw [← HGX.out] at hnv2
          have hst1 : Steps w5 ((wr.alloc (.cells #[.int .i64 x] 3)).alloc (.cells #[.func (.func 27) #[] #[.pointer (some ⟨db, 0, none⟩), .pointer (some ⟨wr.heap.size, 0, none⟩)]] 31)) 27 l k u13 (fun b => #[.pointer (some ⟨db, 0, none⟩), .pointer (some ⟨b, 0, none⟩)]) caps :=
            ⟨hown0, fun i hi => ⟨((HST.out.var i hi).1.alloc _).alloc _, (HST.out.var i hi).2⟩⟩
          have hst2 := hst1.snoc wr.heap.size hbase hgrow hnv2 hown
          go_roundw
          case rel => exact ⟨k + 1, v', _, by omega, by go_num, rfl, hx2, hd2, hst2⟩
          case measure => simp [intOf]; omega
        · obtain rfl : k = m := by omega
          go_wp2_with fail
          have hlow : db < w5.heap.size := by have := HZ5.out; omega
          have hall := all_any k u13 (fun _ => 27) (fun i => #[.pointer (some ⟨db, 0, none⟩), .pointer (some ⟨caps i, 0, none⟩)]) l
            (fun i w' => Ext (fun k => k = db) wr w' ∧ Var w' db (.int .i64 i) 3) wr HM.out (fun i w => by kernel_rfl)
            (fun i w' h => HST.out.row.ext h.1 (by intro j hj e; subst e; exact own_ne_type HST.out.own HD.out (by decide) hj))
            (fun i w' hi h => by
              have hv := HST.out.var i hi
              have hv2 : caps i ≠ db := by have := hv.2; omega
              refine (values2_any db (caps i) i _ w' (by omega) h.2 (hv.1.ext h.1 hv2) hv2).mono ?_
              rintro e w'' ⟨he, hx, hd⟩
              exact ⟨he, h.1.trans' hx, hd⟩) ⟨Ext.refl _ wr, HD.out⟩
          have HA := Lib.hid hall; clear hall
          refine HA.out.mono ?_
          clear HA
          rintro x w9 ⟨rfl, hx9, hd9⟩
          have hx9' : Ext No w w9 := (HX5.out.trans' HX.out).trans hx9 (fun _ _ x => x) (by intro i hi h; have := HZ5.out; omega)
          have c1 := Var.get hd9
          have HX9 := Lib.hid hx9'
          clear hx9 hx9' hd9
          have hfn := firstN_le l
          have hfz := firstE_zero l
          rw [← HM.out] at hfn hfz
          generalize firstN l = fn at *
          generalize firstE l = fe at *
          have hall := all_any 0 (.slice none 0 0) (fun _ => 27) (fun i => #[]) [] (fun i w' => w9 = w') w9 rfl (fun i w => by kernel_rfl)
            (fun i w' h => IsRow.nil _ _) (fun i w' hi h => by omega) rfl
          rw [show firstN [] = 0 from rfl, show firstE [] = 0 from rfl] at hall
          have HA := Lib.hid hall; clear hall
          by_cases hfk : fn < k
          · have hfe : (fe == 0) = false := by rw [beq_eq_false_iff_ne]; intro h; have := hfz.1 h; omega
            have hfne : ((fn : Int) == (k : Int)) = false := by rw [beq_eq_false_iff_ne]; omega
            rw [show allEnd fn k = fn + 1 by unfold allEnd; rw [if_pos hfk]] at c1
            clear hfz
            go_wp2_with fail
            refine HA.out.mono ?_
            clear HA
            rintro x w10 ⟨rfl, rfl⟩
            go_wp2_with fail
            go_ret
            exact ⟨rfl, HX9.out⟩
          · have hfe : fe = 0 := hfz.2 (by omega)
            subst hfe
            obtain rfl : fn = k := by omega
            rw [show allEnd fn fn = fn by unfold allEnd; rw [if_neg (Nat.lt_irrefl _)]] at c1
            clear hfz
            go_wp2_with fail
            refine HA.out.mono ?_
            clear HA
            rintro x w10 ⟨rfl, rfl⟩
            go_wp2_with fail
            go_ret
            exact ⟨rfl, HX9.out⟩

theorem guardValues_fr (n : Int) (s : ByteArray) (e : Int) (l : List Int) (v : Value) (w : World) (_ : -9223372036854775808 ≤ n) (_ : n ≤ 9223372036854775807) (_ : s.size ≤ 9223372036854775807)
    (_ : -9223372036854775808 ≤ e) (_ : e ≤ 9223372036854775807) (hl : IsRow w (int64 l) l.length v) (hm : l.length ≤ 9223372036854775807) (_ : ∀ n ∈ l, -9223372036854775808 ≤ n ∧ n ≤ 9223372036854775807) :
    Calls Try.prog 5 #[.int .i64 n, .string s, .int .i64 e, v] w fun e w' => e = .returned (.bool true) ∧ Ext No w w' := guardValues_any n e s l v w hl hm

end Go.Proofs.Ythdbgldjcnhboaa
