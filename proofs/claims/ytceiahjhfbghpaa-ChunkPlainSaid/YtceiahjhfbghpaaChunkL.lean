/- The walk of ChunkShifts. -/
import Derived.Test.YtceiahjhfbghpaaChunkK
import Derived.Test.YtceiahjhfbghpaaOpenN
namespace Go.Proofs.Ytceiahjhfbghpaa
open Go.RowKit Go.My

attribute [local go_sem] run_makeMap

theorem dropS_at (b o k len cap : Nat) : dropS (some ⟨b, o, none⟩) k len cap = .slice (if cap = k then some ⟨b, o, none⟩ else some ⟨b, o + k, none⟩) (len - k) (cap - k) := by
  rw [dropS_eq, dropA_def, Option.map_some, addr_add]
theorem ownBs_new {w w' : World} {u8 sb : TypeId} {base : Nat} {ls : List (List UInt8)} {v : Value} {S : Nat → Prop} (h : OwnBs w u8 sb base ls v) (x : Ext S w w') (hs : ∀ k, k < w.heap.size → ¬ S k) : OwnBs w' u8 sb base ls v := by
  obtain ⟨xs, h1, h2⟩ := h
  exact ⟨xs, own_ext h1 x (fun k hk => hs k (World.ownsRow.lt h1 k hk).2), fun i hi => (h2 i hi).ext x (fun k hk => hs k ((h2 i hi).lt k hk).2)⟩

set_option maxRecDepth 100000 in
set_option maxHeartbeats 4000000 in
theorem shifts_no (mn mx bt wd : Int) (s : BitVec 64) (a : Option Addr) (m cap : Nat) (b : Option Addr) (n cap' : Nat) (w : World) (h : ¬ RightI mn mx bt wd) :
    Calls Try.prog 4 #[prmVal mn mx bt wd s, .slice a m cap, .slice b n cap'] w fun e w' => e = .returned (.bool true) ∧ Ext No w w' := by
  have hno := fun W => new_no mn mx bt wd s W h
  unfold prmVal at hno ⊢
  have HNO := Lib.hid hno; clear hno
  have hx : Ext No w (w.alloc (.cells #[.int .i64 mn, .int .i64 mx, .int .i64 bt, .int .i64 wd, .int .u64 (w64 s)] 24)) := (Ext.refl No w).alloc _
  have hb := Blk.new w #[.int .i64 mn, .int .i64 mx, .int .i64 bt, .int .i64 wd, .int .u64 (w64 s)] 24
  have HX := Lib.hid hx; have HB := Lib.hid hb; clear hx hb
  go_enter Try.func4, Try.ntmps4
  go_wp2_with fail
  refine (alive_any _).mono ?_
  rintro e w1 ⟨rfl, hx1⟩
  have HX1 := Lib.hid (HX.out.trans' hx1); have HB1 := Lib.hid (HB.out.ext hx1 (fun x => x)); clear hx1 HX HB
  generalize w.heap.size = pb at *
  by_cases hm : 300 < m
  · go_wp2_with fail
    go_ret
    exact ⟨rfl, HX1.out⟩
  · by_cases hn : 300 < n
    · have hdm : decide (300 < (m : Int)) = false := by simp; omega
      go_wp2_with fail
      go_ret
      exact ⟨rfl, HX1.out⟩
    · have hd0 := HB1.out.cell 0; have hd1 := HB1.out.cell 1; have hd2 := HB1.out.cell 2; have hd3 := HB1.out.cell 3; have hd4 := HB1.out.cell 4
      simp only [List.getElem?_toArray, List.getElem?_cons_succ, List.getElem?_cons_zero] at hd0 hd1 hd2 hd3 hd4
      have hdm : decide (300 < (m : Int)) = false := by simp; omega
      have hdn : decide (300 < (n : Int)) = false := by simp; omega
      go_wp2_with fail
      refine (HNO.out _).mono ?_
      rintro e w2 ⟨rfl, hx2⟩
      have HX2 := Lib.hid (HX1.out.trans' hx2); clear hx2 HB1 HX1 hd0 hd1 hd2 hd3 hd4
      go_wp2_with fail
      go_ret
      exact ⟨rfl, HX2.out⟩

set_option maxRecDepth 100000 in
set_option maxHeartbeats 8000000 in
theorem shifts_yes (p : Prm) (hp : p.Ok) (la : List UInt8) (a : Option Addr) (m cap : Nat) (lb : List UInt8) (b : Option Addr) (n cap' : Nat) (w : World) (hu : IsBytes w la (.slice a m cap)) (hun : NilOk (.slice a m cap)) (hv : IsBytes w lb (.slice b n cap')) (hvn : NilOk (.slice b n cap')) :
    Calls Try.prog 4 #[prmVal p.mn p.mx p.bt p.wd p.sd, .slice a m cap, .slice b n cap'] w fun e w' => e = .returned (.bool true) ∧ Ext No w w' := by
  have hno := fun W => new_yes p hp W
  have hm' := hu.len; have hn' := hv.len
  have hcap := (IsRow.len hu).2; have hcap' := (IsRow.len hv).2
  have hlv : ∀ k, (Value.slice b n cap').ownBlock = some k → 0 < lb.length → k < w.heap.size := fun k hk h0 => IsRow.lt hv h0 hk
  unfold prmVal at hno ⊢
  have HNO := Lib.hid hno; have HU := Lib.hid hu; have HUN := Lib.hid hun; have HV := Lib.hid hv; have HVN := Lib.hid hvn; have HM := Lib.hid (And.intro hm' hn'); have HLV := Lib.hid hlv; have HP := Lib.hid hp; clear hno hu hun hv hvn hm' hn' hlv hp
  have hx : Ext No w (w.alloc (.cells #[.int .i64 p.mn, .int .i64 p.mx, .int .i64 p.bt, .int .i64 p.wd, .int .u64 (w64 p.sd)] 24)) := (Ext.refl No w).alloc _
  have hb := Blk.new w #[.int .i64 p.mn, .int .i64 p.mx, .int .i64 p.bt, .int .i64 p.wd, .int .u64 (w64 p.sd)] 24
  have HX := Lib.hid hx; have HB := Lib.hid hb; clear hx hb
  go_enter Try.func4, Try.ntmps4
  go_wp2_with fail
  refine (alive_any _).mono ?_
  rintro e w1 ⟨rfl, hx1⟩
  have HX1 := Lib.hid (HX.out.trans' hx1); have HB1 := Lib.hid (HB.out.ext hx1 (fun x => x)); clear hx1 HX HB
  generalize hpb : w.heap.size = pb at *
  have HPB := Lib.hid hpb; clear hpb
  by_cases hm : 300 < m
  · go_wp2_with fail
    go_ret
    exact ⟨rfl, HX1.out⟩
  by_cases hn : 300 < n
  · have hdm : decide (300 < (m : Int)) = false := by simp; omega
    go_wp2_with fail
    go_ret
    exact ⟨rfl, HX1.out⟩
  have hd0 := HB1.out.cell 0; have hd1 := HB1.out.cell 1; have hd2 := HB1.out.cell 2; have hd3 := HB1.out.cell 3; have hd4 := HB1.out.cell 4
  simp only [List.getElem?_toArray, List.getElem?_cons_succ, List.getElem?_cons_zero] at hd0 hd1 hd2 hd3 hd4
  have hdm : decide (300 < (m : Int)) = false := by simp; omega
  have hdn : decide (300 < (n : Int)) = false := by simp; omega
  go_wp2_with fail
  refine (HNO.out _).mono ?_
  rintro e w2 ⟨cb, wb, lb', tb, rfl, hc2, hcb, hwb, hlb, hx2⟩
  have HB2 := Lib.hid (HB1.out.ext hx2 (fun x => x)); have HX2 := Lib.hid (HX1.out.trans' hx2); have HC2 := Lib.hid hc2
  have hz1 := HX1.out.size
  rw [HPB.out] at hz1
  have HBD := Lib.hid (show pb ≤ cb ∧ pb ≤ wb ∧ pb ≤ lb' by omega)
  have HPW := Lib.hid (show pb < w2.heap.size from HB2.out.lt)
  clear hx2 HB1 HX1 hd0 hd1 hd2 hd3 hd4 hc2 hcb hwb hlb hz1 hdm hdn
  go_wp2_with fail
  have HLL := Lib.hid (show la.length ≤ 300 ∧ lb.length ≤ 300 by have := HM.out; omega)
  refine (split_any cb wb lb' tb p HP.out _ lb b n cap' w2 HC2.out (HV.out.ext0 HX2.out) (by have := HLL.out; omega) (fun k hk h0 => by have := HLV.out k hk h0; have := HBD.out; omega)).mono ?_
  rintro e w3 ⟨x3, st3, rfl, ho3, hc3, hx3⟩
  obtain ⟨⟨a3, c3, hx3f⟩, hb3⟩ := ownBs_form ho3
  have hmx := fun k hk => chunk_mx p HP.out lb k hk
  have hmn := fun k hk => chunk_mn p HP.out lb k hk
  have hps := fun k hk => chunk_pos p HP.out lb k hk
  have hkl := chunks_len p HP.out lb
  have hfl := chunks_flat p HP.out lb
  obtain ⟨N, hN⟩ : ∃ N, N = (chunks p lb).length := ⟨_, rfl⟩
  rw [← hN] at hx3f hmx hmn hps hkl
  subst hx3f
  have HX3 := Lib.hid (HX2.out.trans hx3 (fun _ _ h => h) (fun k hk h => by have := HBD.out; have := HPB.out; omega))
  have HB3 := Lib.hid (HB2.out.ext hx3 (by have h1 := Blk.ne_type HB2.out HC2.out.win.head (by decide); have h2 := Blk.ne_type HB2.out HC2.out.win.row (by decide); omega))
  have HO3 := Lib.hid ho3; have HC3 := Lib.hid hc3; have HN := Lib.hid hN; have HK := Lib.hid (And.intro hmx (And.intro hmn (And.intro hps (And.intro hkl hfl)))); have HBB := Lib.hid hb3
  have HZ32 := Lib.hid hx3.size
  have HZ3 := Lib.hid (show wb < w2.heap.size ∧ lb' < w2.heap.size ∧ cb < w2.heap.size ∧ tb < w2.heap.size from ⟨HC2.out.win.head.lt, HC2.out.win.row.lt, HC2.out.head.lt, Blk.lt HC2.out.tab⟩)
  clear ho3 hc3 hx3 hmx hmn hps hkl hfl hN hb3 HC2 HB2 HX2 HNO
  have hd0 := HB3.out.cell 0; have hd1 := HB3.out.cell 1
  simp only [List.getElem?_toArray, List.getElem?_cons_succ, List.getElem?_cons_zero] at hd0 hd1
  have hNi : N ≤ 300 := by have := HK.out.2.2.2.1; have := HLL.out; omega
  dsimp only
  go_wp2_with fail
  go_loopw [45] (fun i wr => ∃ k : Nat, i = .int .i64 k ∧ k ≤ N ∧ wr = w3) (fun i _ => N - (intOf i).toNat)
  case atStart => exact ⟨0, rfl, by omega, rfl⟩
  case round =>
    obtain ⟨k, rfl, hk, rfl⟩ := hrel
    by_cases hlt : k < N
    · obtain ⟨b6, o6, y, rfl, hy, hyb⟩ := HO3.out.rows.get k hlt
      obtain ⟨ay, cy, hyf⟩ : ∃ a c, y = .slice a ((chunks p lb).getD k []).length c := by obtain ⟨a, c, h, -⟩ := hyb; exact ⟨a, c, h⟩
      have h1 := HK.out.1 k hlt
      have h2 : k + 1 < N → p.mn ≤ ((chunks p lb).getD k []).length := fun h => HK.out.2.1 k h
      have h3 := HK.out.2.2.1 k hlt
      generalize ((chunks p lb).getD k []).length = fl at hyf h1 h2 h3
      subst hyf
      clear hyb
      have e1 : decide ((p.mx : Int) < fl) = false := by simp; omega
      have e1n : decide (p.mx < fl) = false := by simp; omega
      have e2n : ¬ (fl = 0) := by omega
      have e2 : ¬ ((fl : Int) = 0) := by omega
      by_cases hl : k + 1 < N
      · have e3 : decide ((k : Int) < (N : Int) - 1) = true := by simp; omega
        have e4 : decide ((fl : Int) < p.mn) = false := by have := h2 hl; simp; omega
        have e4n : decide (fl < p.mn) = false := by have := h2 hl; simp; omega
        clear h1 h2
        go_wp2_with fail
        go_roundw
        case rel => exact ⟨k + 1, by go_num, by omega, trivial⟩
        case measure => simp [intOf]; omega
      · have e3 : decide ((k : Int) < (N : Int) - 1) = false := by simp; omega
        clear h1 h2
        go_wp2_with fail
        go_roundw
        case rel => exact ⟨k + 1, by go_num, by omega, trivial⟩
        case measure => simp [intOf]; omega
    · go_wp2_with fail
      refine (join_any (chunks p lb) _ wr HO3.out.rowsN (by rw [HK.out.2.2.2.2]; have := HLL.out; omega)).mono ?_
      rintro e w4 ⟨x4, rfl, ho4, hx4⟩
      rw [HK.out.2.2.2.2] at ho4
      have HX4 := Lib.hid (HX3.out.trans' hx4); have HB4 := Lib.hid (HB3.out.ext hx4 (fun x => x)); have HO4 := Lib.hid (HO3.out.ext hx4 (fun _ _ h => h)); have HC4 := Lib.hid (HC3.out.ext hx4 (fun x => x) (fun x => x) (fun x => x) (fun x => x))
      have HW4 := Lib.hid (show w2.heap.size ≤ wr.heap.size ∧ wr.heap.size ≤ w4.heap.size from ⟨HZ32.out, hx4.size⟩)
      have HJ4 := Lib.hid ho4.bytes
      clear ho4 hx4 HX3 HB3 HO3 HC3 hd0 hd1
      dsimp only
      go_wp2_with fail
      refine (same1_any lb lb _ _ w4 HJ4.out (HV.out.ext0 HX4.out)).mono ?_
      rintro e w5 ⟨rfl, rfl⟩
      rw [show decide (lb = lb) = true by simp]
      clear HJ4
      have hxa : Ext No w (w4.alloc (.cells #[] 5)) := HX4.out.alloc _
      have hra : IsRow (w4.alloc (.cells #[] 5)) (byt la) m (.slice a m cap) := by have h := HU.out.ext0 hxa; unfold IsBytes at h; rw [← HM.out.1] at h; exact h
      have hrb : ∀ w5, (w4.alloc (.cells #[] 5)).grownBy w5 (Value.slice (some ⟨w4.heap.size, 0, none⟩) 0 0).ownBlock → IsRow w5 (byt lb) n (.slice b n cap') ∧ w4.heap.size ≤ w5.heap.size ∧ Ext No w w5 := fun w5 hg => by
        have hx5 : Ext No w w5 := hxa.grown hg (fun j hj h => by have : w4.heap.size = j := Option.some.inj hj; have := HX4.out.size; omega)
        have h := HV.out.ext0 hx5; unfold IsBytes at h; rw [← HM.out.2] at h
        exact ⟨h, by have := hg.size; rw [World.size_alloc] at this; omega, hx5⟩
      have HRA := Lib.hid hra; have HRB := Lib.hid hrb; have HUN' := Lib.hid HUN.out.none; have HVN' := Lib.hid HVN.out.none
      have HN1 := Lib.hid (show 0 + m ≤ 9223372036854775807 ∧ (0 + m) * 1 ≤ 140737488355328 ∧ m + n ≤ 9223372036854775807 ∧ (m + n) * 1 ≤ 140737488355328 by omega)
      have HS4 := Lib.hid (show w4.heap.size ≤ (w4.alloc (.cells #[] 5)).heap.size by simp)
      have HO0 := Lib.hid (World.ownsRow_made (e := 5) (size := 1) w4 #[] 0 (Nat.le_refl _) (by decide) rfl)
      have H1a := Lib.hid (show ∀ i, i < m → (byt la i).oneCell' = true from fun _ _ => rfl)
      have H1b := Lib.hid (show ∀ i, i < n → (byt lb i).oneCell' = true from fun _ _ => rfl)
      clear hxa hra hrb
      dsimp only
      go_wp2_with (first
        | (at_builtin; refine wpList_appN _ rfl _ _ 25 rfl w4.heap.size 5 _ _ u8_infoJ Try.underlying25 rfl _ _ _ rfl hown _ _ _ (byt lb) rfl (HRB.out _ hg).1 HVN'.out H1b.out HN1.out.2.2.1 HN1.out.2.2.2 (HRB.out _ hg).2.1 ?_; intro v7 w7 hown7 hg7; obtain ⟨a7, c7, rfl⟩ := own_form hown7)
        | (at_builtin; refine wpList_appN _ rfl _ _ 25 rfl w4.heap.size 5 _ _ u8_infoJ Try.underlying25 rfl _ _ _ rfl HO0.out _ _ _ (byt la) rfl HRA.out HUN'.out H1a.out HN1.out.1 HN1.out.2.1 HS4.out ?_; intro v6 w6 hown hg; rw [Nat.zero_add, List.nil_append] at hown; obtain ⟨a6, c6, rfl⟩ := own_form hown))
      have hx47 : Ext No w4 w7 := (((Ext.refl No w4).alloc _).grown hg (fun j hj h => by have : w4.heap.size = j := Option.some.inj hj; omega)).grown hg7 (fun j hj h => by have := (World.ownsRow.lt hown j hj).1; omega)
      have hob : OwnB w7 5 w4.heap.size (la ++ lb) (.slice a7 (m + n) c7) := by
        have h := hown7
        rw [HM.out.1, HM.out.2, byts_range, byts_range, ← byts_append, ← List.length_append] at h
        rw [HM.out.1, HM.out.2, ← List.length_append]
        exact h
      have HX7 := Lib.hid (HX4.out.trans' hx47); have HB7 := Lib.hid (HB4.out.ext hx47 (fun x => x)); have HO7 := Lib.hid (HO4.out.ext hx47 (fun _ _ h => h)); have HC7 := Lib.hid (HC4.out.ext hx47 (fun x => x) (fun x => x) (fun x => x) (fun x => x))
      have HZ7 := Lib.hid hx47.size; have HOB := Lib.hid hob
      clear hx47 hob hown hg hown7 hg7 HX4 HB4 HO4 HC4 HRA HRB HUN' HVN' HN1 HS4 HO0 H1a H1b
      refine (split_any cb wb lb' tb p HP.out _ (la ++ lb) a7 (m + n) c7 w7 HC7.out HOB.out.bytes (by have := HLL.out; rw [List.length_append]; omega) (fun k hk _ => by have := (HOB.out.lt k hk).1; have := HZ3.out; have := HW4.out; omega)).mono ?_
      rintro e w8 ⟨x8, st8, rfl, ho8, hc8, hx8⟩
      obtain ⟨⟨a8, c8, hx8f⟩, hb8⟩ := ownBs_form ho8
      obtain ⟨N', hN'⟩ : ∃ N', N' = (chunks p (la ++ lb)).length := ⟨_, rfl⟩
      have hkl' := chunks_len p HP.out (la ++ lb)
      rw [← hN'] at hx8f hkl'
      subst hx8f
      have HX8 := Lib.hid (HX7.out.trans hx8 (fun _ _ h => h) (fun k hk h => by have := HBD.out; have := HPB.out; omega))
      have HO38 := Lib.hid (HO7.out.ext hx8 (fun k hk h => by have := HZ3.out; omega))
      have HO8 := Lib.hid ho8; have HN' := Lib.hid hN'; have HZ8 := Lib.hid hx8.size
      have hN'i : N' ≤ 600 := by have := HLL.out; rw [List.length_append] at hkl'; omega
      clear hx8 ho8 hc8 hb8 hkl' hN' HX7 HO7 HC7 HB7 HOB
      obtain ⟨mb, hmb⟩ : ∃ mb, w8.heap.size = mb := ⟨_, rfl⟩
      obtain ⟨w9, hw9⟩ : ∃ w9, w8.alloc (.map #[] 0) = w9 := ⟨_, rfl⟩
      have him : IMap w9 Try.prog 3 3 mb 0 (fun _ => none) := by rw [← hw9, ← hmb]; exact IMap.made w8 Try.prog 3 3
      have hxm : Ext No w8 w9 := by rw [← hw9]; exact (Ext.refl No w8).alloc _
      have HX9 := Lib.hid (HX8.out.trans' hxm); have HX89 := Lib.hid (hxm.mono (T := fun z => z = mb) (fun _ _ h => h.elim))
      have HIM := Lib.hid him; have HW9 := Lib.hid hw9; have HMB := Lib.hid hmb
      clear him hxm hw9 hmb
      dsimp only
      go_wp2_with fail
      rw [HW9.out, HMB.out]
      have HMBL := Lib.hid (show w.heap.size ≤ mb by have := HX9.out.size; have := HMB.out; have := HZ8.out; have := HZ7.out; have := HW4.out; have := HPB.out; have := HPW.out; omega)
      go_loopw [14, 90] (fun o i wr => ∃ j : Nat, i = .int .i64 j ∧ j ≤ N ∧ o = .int .i64 (offs p lb j : Nat) ∧ IMap wr Try.prog 3 3 mb j (endsG p lb j) ∧ Ext (fun z => z = mb) w8 wr) (fun _ i _ => N - (intOf i).toNat)
      case atStart => exact ⟨0, rfl, by omega, rfl, HIM.out, HX89.out⟩
      case round =>
        obtain ⟨j, rfl, hj, rfl, hm9, hx9⟩ := hrel
        have HO39 := Lib.hid (ownBs_new HO38.out hx9 (fun k hk h => by have := HMB.out; omega))
        by_cases hlt2 : j < N
        · obtain ⟨b6, o6, y, rfl, hy, hyb⟩ := HO39.out.rows.get j hlt2
          obtain ⟨ay, cy, hyf⟩ : ∃ a c, y = .slice a ((chunks p lb).getD j []).length c := by obtain ⟨a, c, h, -⟩ := hyb; exact ⟨a, c, h⟩
          have hos := offs_succ p lb j (by rw [← HN.out]; exact hlt2)
          have hoL := offs_le p HP.out lb (j + 1)
          generalize ((chunks p lb).getD j []).length = fl at hyf hos
          generalize hof : offs p lb j = o at *
          subst hyf
          have hb300 : o + fl ≤ 300 := by have := HLL.out; omega
          have hnew : (fun y : Int => if y = (o : Int) + fl then some ((j : Int) + 1) else endsG p lb j y) = endsG p lb (j + 1) := by
            funext y
            simp only [endsG]
            rw [hos, show (((o + fl : Nat)) : Int) = (o : Int) + fl by omega]
          have HNEW := Lib.hid hnew; have HOS := Lib.hid hos; have HM9 := Lib.hid hm9; have HX9' := Lib.hid hx9
          have H1 := Lib.hid (show j < 9223372036854775807 by omega)
          have H2 := Lib.hid (show -9223372036854775808 ≤ (o : Int) + fl ∧ (o : Int) + fl ≤ 9223372036854775807 by omega)
          have H3 := Lib.hid (show -9223372036854775808 ≤ (j : Int) + 1 ∧ (j : Int) + 1 ≤ 9223372036854775807 by omega)
          clear hyb hos hoL hof hnew hm9 hx9
          go_wp2_with (at_mapUpdate; refine wpList_imap_put _ rfl _ _ _ 43 rfl 3 3 Try.underlying3 Try.underlying3 Try.underlying43 mb j (endsG p lb j) rfl HM9.out H1.out _ _ rfl rfl H2.out H3.out ?_; intro w10 him10 hx10)
          go_roundw
          case rel => exact ⟨j + 1, by go_num, by omega, by rw [HOS.out]; go_num, by rw [← HNEW.out]; exact him10, HX9'.out.trans' hx10⟩
          case measure => simp [intOf]; omega
        · have hjN : N = j := by omega
          subst hjN
          have HM9 := Lib.hid hm9
          have HRl := Lib.hid HO39.out.rows
          have HO9 := Lib.hid (ownBs_new HO8.out hx9 (fun k hk h => by have := HMB.out; omega)).rows
          have HXz := Lib.hid (HX8.out.trans hx9 (fun _ _ h => h) (fun k hk h => by have := HMBL.out; omega))
          clear hm9 hx9 HO39
          go_wp2_with fail
          obtain ⟨wz, hwz⟩ : ∃ wz, wz = wr := ⟨_, rfl⟩
          rw [← hwz] at HM9 HRl HO9 HXz ⊢
          clear hwz
          go_loopw [14, 109] (fun o i w' => ∃ q : Nat, i = .int .i64 q ∧ q ≤ N' ∧ o = .int .i64 (((offs p (la ++ lb) q : Nat) : Int) - (m : Int)) ∧ w' = wz ∧ ∀ j, 1 ≤ j → j ≤ q → endsG p lb N (((offs p (la ++ lb) j : Nat) : Int) - (m : Int)) = none) (fun _ i _ => N' - (intOf i).toNat)
          case atStart => exact ⟨0, rfl, by omega, by rw [show offs p (la ++ lb) 0 = 0 from rfl]; simp, rfl, fun j h1 h2 => by omega⟩
          case round =>
            obtain ⟨q, rfl, hq, rfl, rfl, hnone⟩ := hrel
            have HNO := Lib.hid hnone; clear hnone
            by_cases hlt3 : q < N'
            · obtain ⟨b6, o6, y, rfl, hy, hyb⟩ := HO9.out.get q hlt3
              obtain ⟨ay, cy, hyf⟩ : ∃ a c, y = .slice a ((chunks p (la ++ lb)).getD q []).length c := by obtain ⟨a, c, h, -⟩ := hyb; exact ⟨a, c, h⟩
              have hos := offs_succ p (la ++ lb) q (by rw [← HN'.out]; exact hlt3)
              have hoL := offs_le p HP.out (la ++ lb) (q + 1)
              rw [List.length_append] at hoL
              generalize ((chunks p (la ++ lb)).getD q []).length = fl at hyf hos
              generalize hof : offs p (la ++ lb) q = o at *
              subst hyf
              have hb600 : o + fl ≤ 600 := by have := HLL.out; omega
              have hkey : ((offs p (la ++ lb) (q + 1) : Nat) : Int) - (m : Int) = (o : Int) - m + fl := by rw [hos]; omega
              have HOS := Lib.hid hos; have HKEY := Lib.hid hkey
              have H2 := Lib.hid (show -9223372036854775808 ≤ (o : Int) - m + fl ∧ (o : Int) - m + fl ≤ 9223372036854775807 by omega)
              have HZ0 := Lib.hid (show ∀ w, (zeroValue 3).run Try.prog w = .ok (.int .i64 0) w from fun w => by kernel_rfl)
              clear hyb hos hoL hof hkey
              have hcs : endsG p lb N ((o : Int) - m + fl) = none ∨ ∃ t : Nat, 1 ≤ t ∧ t ≤ N ∧ (o : Int) - m + fl = ((offs p lb t : Nat) : Int) ∧ endsG p lb N ((o : Int) - m + fl) = some (t : Int) := by
                cases hg : endsG p lb N ((o : Int) - m + fl) with
                | none => exact .inl rfl
                | some c =>
                  obtain ⟨t, h1, h2, h3, rfl⟩ := endsG_some p lb N _ c hg
                  exact .inr ⟨t, h1, h2, h3, rfl⟩
              rcases hcs with hg | ⟨t, ht1, ht2, ht3, hg⟩
              · have hgs : (endsG p lb N ((o : Int) - m + fl)).isSome = false := by rw [hg]; rfl
                have HG := Lib.hid hg; clear hg
                generalize hgg : endsG p lb N = g at *
                have HGG := Lib.hid hgg; clear hgg
                go_wp2_with (at_lookup; refine wpList_imap_get _ rfl _ _ 43 rfl 3 3 Try.underlying3 Try.underlying3 Try.underlying43 (HZ0.out _) mb N g rfl HM9.out _ rfl H2.out ?_; intro c hc; clear hc)
                go_roundw
                case rel =>
                  refine ⟨q + 1, by go_num, by omega, by rw [HKEY.out], trivial, fun j h1 h2 => ?_⟩
                  rcases Nat.lt_or_ge j (q + 1) with h | h
                  · exact HNO.out j h1 (by omega)
                  · have : j = q + 1 := by omega
                    subst this
                    rw [HKEY.out]; exact HG.out
                case measure => simp [intOf]; omega
              · have hgs : (endsG p lb N ((o : Int) - m + fl)).isSome = true := by rw [hg]; rfl
                have HG := Lib.hid hg; have HT := Lib.hid ht3; clear hg ht3
                generalize hgg : endsG p lb N = g at *
                have HGG := Lib.hid hgg; clear hgg
                go_wp2_with (at_lookup; refine wpList_imap_get _ rfl _ _ 43 rfl 3 3 Try.underlying3 Try.underlying3 Try.underlying43 (HZ0.out _) mb N g rfl HM9.out _ rfl H2.out ?_; intro c hc; obtain rfl := hc _ HG.out; clear hc)
                obtain ⟨b7, o7, y7, rfl, -, -⟩ := HRl.out.get 0 (by omega)
                have hr1 := HO9.out.dropS (q + 1) (by omega)
                have hr2 := HRl.out.dropS t ht2
                rw [dropS_at] at hr1 hr2
                have hsame := shift_same p HP.out la lb (q + 1) t (by rw [← HN'.out]; omega) (by rw [← HN.out]; exact ht2) (by have h1 := HT.out; have h2 := HOS.out; have h3 := HM.out.1; omega)
                have hd : decide ((chunks p (la ++ lb)).drop (q + 1) = (chunks p lb).drop t) = true := decide_eq_true hsame
                have HD := Lib.hid hd
                have hq1 : q + 1 ≤ N' := hlt3
                have hq2 : (0 : Int) ≤ (q : Int) + 1 := by omega
                have hq3 : (q : Int) + 1 ≤ (N' : Int) := by omega
                have hc8 : N' ≤ c8 := by obtain ⟨f, h1, -⟩ := HO9.out; have := h1.len; omega
                have hc3 : N ≤ c3 := by obtain ⟨f, h1, -⟩ := HRl.out; have := h1.len; omega
                clear hsame hd hy hgs
                have hcs1 : (c8 = q + 1 ∧ IsRows wr ((chunks p (la ++ lb)).drop (q + 1)) (.slice (some ⟨b6, o6, none⟩) (N' - (q + 1)) 0)) ∨ (¬ c8 = q + 1 ∧ IsRows wr ((chunks p (la ++ lb)).drop (q + 1)) (.slice (some ⟨b6, o6 + (q + 1), none⟩) (N' - (q + 1)) (c8 - (q + 1)))) := by
                  by_cases hce : c8 = q + 1
                  · rw [if_pos hce, hce, Nat.sub_self] at hr1; exact .inl ⟨hce, hr1⟩
                  · rw [if_neg hce] at hr1; exact .inr ⟨hce, hr1⟩
                have hcs2 : (c3 = t ∧ IsRows wr ((chunks p lb).drop t) (.slice (some ⟨b7, o7, none⟩) (N - t) 0)) ∨ (¬ c3 = t ∧ IsRows wr ((chunks p lb).drop t) (.slice (some ⟨b7, o7 + t, none⟩) (N - t) (c3 - t))) := by
                  by_cases hce : c3 = t
                  · rw [if_pos hce, hce, Nat.sub_self] at hr2; exact .inl ⟨hce, hr2⟩
                  · rw [if_neg hce] at hr2; exact .inr ⟨hce, hr2⟩
                clear hr1 hr2
                rcases hcs1 with ⟨hce, hr1⟩ | ⟨hce, hr1⟩
                all_goals rcases hcs2 with ⟨hct, hr2⟩ | ⟨hct, hr2⟩
                all_goals
                  have hqq : ∀ j, Calls Try.prog 12 #[_, _] (wr.drewN j) fun e w'' => e = .returned (.bool (decide ((chunks p (la ++ lb)).drop (q + 1) = (chunks p lb).drop t))) ∧ ∃ i, w'' = wr.drewN i := fun j =>
                    quiet_of_Dr (same4_dr _ _ _ _ _ (hr1.ext0 ((Dr.mk wr j).ext No)) (hr2.ext0 ((Dr.mk wr j).ext No)))
                  have HQQ := Lib.hid hqq
                  clear hr1 hr2 hqq
                  go_quiet ((go_at_call 12; exact HQQ.out _))
                all_goals
                  rw [HD.out]
                  go_wp2_with fail
                  go_ret
                  exact ⟨rfl, HXz.out.drewN _⟩
            · have hqn : q = N' := by omega
              have HQN := Lib.hid hqn
              have hlb : lb = [] := shift_end p HP.out la lb (fun j h1 h2 => by have := HNO.out j h1 (by rw [HQN.out, HN'.out]; exact h2); rw [HM.out.1, HN.out] at this; exact this)
              have hn0 : n = 0 := by rw [HM.out.2, hlb]; rfl
              clear hlb hqn
              subst hn0
              go_wp2_with fail
              go_ret
              exact ⟨rfl, HXz.out⟩


theorem shifts_fr (a : PrmI) (v : Value) (la : List UInt8) (u : Value) (lb : List UInt8) (u' : Value) (w : World) (ha : IsPrm a v) (hu : IsBytes w la u) (hun : NilOk u) (hv : IsBytes w lb u') (hvn : NilOk u') :
    Calls Try.prog 4 #[v, u, u'] w fun e w' => e = .returned (.bool true) ∧ Ext No w w' := by
  obtain ⟨rfl, -⟩ := ha
  obtain ⟨x, cap, hx, -⟩ := id hu
  obtain ⟨y, cap', hy, -⟩ := id hv
  by_cases h : RightI a.mn a.mx a.bt a.wd
  · obtain ⟨p, hp, he, -⟩ := prm_ok a.sd h
    rw [he]
    subst hx; subst hy
    exact shifts_yes p hp la x _ cap lb y _ cap' w hu hun hv hvn
  · subst hx; subst hy
    exact shifts_no a.mn a.mx a.bt a.wd a.sd x _ cap y _ cap' w h

end Go.Proofs.Ytceiahjhfbghpaa
