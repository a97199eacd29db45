/- The document's example runs. -/
import Derived.Test.YtceiahjhfbghpaaChunkH
import Derived.Test.YtceiahjhfbghpaaSameR
import Derived.Lib.SmallJoins
namespace Go.Proofs.Ytceiahjhfbghpaa
open Go.RowKit Go.My

theorem firstLen_even (p : Prm) (h : p.mn = p.mx) (l : List UInt8) (hl : 0 < l.length) (hm : 0 < p.mx) : firstLen p l = min l.length p.mx := by
  unfold firstLen
  refine scan_unique _ _ _ (by omega) (by omega) (.inl rfl) ?_
  intro i h1 h2
  unfold endAt
  rw [show decide (p.mn ≤ i) = false by simp; omega]; rfl
theorem firstLen_nil (p : Prm) : firstLen p [] = 0 := by unfold firstLen; simp [scan]
theorem lit_bytes (w : World) (l : List UInt8) (cs : Array Value) (n : Nat) (fr : Nat × Nat) (hc : cs = (byts l).toArray) (hn : n = l.length) (hl : l.length ≤ 9223372036854775807) : IsBytes (w.alloc (.cells cs 5 fr)) l (.slice (some ⟨w.heap.size, 0, none⟩) n n) := by
  subst hn
  refine ⟨_, _, rfl, Nat.le_refl _, hl, fun i hi => ⟨_, 0, rfl, ?_⟩⟩
  rw [World.cell?_alloc_mark, hc]
  simp only [List.getElem?_toArray]
  simp [byts, byt, hi]
theorem conv_lit (w : World) (C : Array Value) (n c : Nat) : (convert 25 25 (.slice (some ⟨w.heap.size, 0, none⟩) n c)).run Try.prog (w.alloc (.cells C 5)) = .ok (.slice (some ⟨w.heap.size, 0, none⟩) n c) (w.alloc (.cells C 5 (C.size, C.size + 1))) :=
  Lib.run_convert_bytes_const w _ _ C n c Try.underlying25 (by kernel_rfl)
attribute [local go_sem] conv_lit

def pA : Prm := ⟨2, 2, 20, 4, 0#64⟩
theorem pA_ok : pA.Ok := ⟨by decide, by decide, by decide, by decide, by decide, by decide⟩
theorem pA_val : prmVal pA.mn pA.mx pA.bt pA.wd pA.sd = .agg #[.int .i64 2, .int .i64 2, .int .i64 20, .int .i64 4, .int .u64 0] := by
  unfold prmVal pA; rw [w64_def]; rfl
theorem chunksA : chunks pA [97, 98, 99, 100, 101] = [[97, 98], [99, 100], [101]] := by
  rw [chunks_cons pA pA_ok _ (by decide), firstLen_even pA rfl _ (by decide) (by decide)]
  rw [show min ([97, 98, 99, 100, 101] : List UInt8).length pA.mx = 2 from rfl]
  rw [show ([97, 98, 99, 100, 101] : List UInt8).drop 2 = [99, 100, 101] from rfl]
  rw [chunks_cons pA pA_ok _ (by decide), firstLen_even pA rfl _ (by decide) (by decide)]
  rw [show min ([99, 100, 101] : List UInt8).length pA.mx = 2 from rfl]
  rw [show ([99, 100, 101] : List UInt8).drop 2 = [101] from rfl]
  rw [chunks_cons pA pA_ok _ (by decide), firstLen_even pA rfl _ (by decide) (by decide)]
  rfl

theorem new_a (w : World) :
    Calls Try.prog 8 #[.agg #[.int .i64 2, .int .i64 2, .int .i64 20, .int .i64 4, .int .u64 0]] w fun e w' => ∃ cb wb lb tb, e = .returned (.tuple #[.pointer (some ⟨cb, 0, none⟩), .int .i64 0]) ∧ Chk w' cb wb lb tb pA (stZero pA.wd) ∧
      w.heap.size ≤ cb ∧ w.heap.size ≤ wb ∧ w.heap.size ≤ lb ∧ Ext No w w' := by
  rw [← pA_val]; exact new_yes pA pA_ok w
theorem new_b (w : World) :
    Calls Try.prog 8 #[.agg #[.int .i64 3, .int .i64 2, .int .i64 20, .int .i64 4, .int .u64 0]] w fun e w' => e = .returned (.tuple #[.pointer none, .int .i64 1]) ∧ Ext No w w' := by
  have := new_no 3 2 20 4 0#64 w (by omega)
  unfold prmVal at this
  rw [show w64 0#64 = 0 by rw [w64_def]; rfl] at this
  exact this

set_option maxRecDepth 100000 in
set_option maxHeartbeats 4000000 in
theorem alive_any (w : World) : Calls Try.prog 7 #[] w fun e w' => e = .returned (.bool true) ∧ Ext No w w' := by
  go_enter Try.func7, Try.ntmps7
  go_wp2_with fail
  refine (new_a w).mono ?_
  rintro e w1 ⟨cb, wb, lb, tb, rfl, hc1, hcb, hwb, hlb, hx1⟩
  have HB := Lib.hid (And.intro hcb (And.intro hwb hlb)); have HC1 := Lib.hid hc1; have HX1 := Lib.hid hx1; clear hc1 hcb hwb hlb hx1
  go_wp2_with fail
  refine (new_b w1).mono ?_
  rintro e w2 ⟨rfl, hx2⟩
  have HC2 := Lib.hid (HC1.out.ext hx2 (fun x => x) (fun x => x) (fun x => x) (fun x => x)); have HX2 := Lib.hid (HX1.out.trans' hx2); clear hx2 HC1 HX1
  go_wp2_with fail
  have hb1 := lit_bytes w2 [97, 98, 99, 100, 101] #[.int .u8 97, .int .u8 98, .int .u8 99, .int .u8 100, .int .u8 101] 5 (5, 6) rfl rfl (by decide)
  have hx3 : Ext No w2 (w2.alloc (.cells #[.int .u8 97, .int .u8 98, .int .u8 99, .int .u8 100, .int .u8 101] 5 (5, 6))) := (Ext.refl No w2).alloc _
  have hcx := HC2.out.ext hx3 (fun x => x) (fun x => x) (fun x => x) (fun x => x)
  refine (split_any cb wb lb tb pA pA_ok _ [97, 98, 99, 100, 101] _ _ _ _ hcx hb1 (by decide) ?_).mono ?_
  · intro k hk _
    have : w2.heap.size = k := Option.some.inj hk
    have := HC2.out.win.head.lt; have := HC2.out.win.row.lt; omega
  rintro e w3 ⟨x, st', rfl, ho, hc3, hx4⟩
  rw [chunksA] at ho
  obtain ⟨a3, c3, hf3⟩ : ∃ a c, x = .slice a 3 c := by obtain ⟨f, ⟨a, c, h, -⟩, -⟩ := ho.rows; exact ⟨a, c, h⟩
  subst hf3
  have he3 : Ext No w w3 := (HX2.out.trans' hx3).trans hx4 (fun _ _ h => h) (fun i hi h => by have := HB.out; omega)
  have hlw : wb < w2.heap.size ∧ lb < w2.heap.size := ⟨HC2.out.win.head.lt, HC2.out.win.row.lt⟩
  rw [World.size_alloc] at ho
  have HC3 := Lib.hid hc3; have HO3 := Lib.hid ho; have HLW := Lib.hid hlw; have HX3 := Lib.hid he3; clear hc3 ho hlw he3 hx4 hcx hx3 hb1 HC2 HX2
  go_wp2_with fail
  have hb1 := lit_bytes w3 [97, 98, 99, 100, 101] #[.int .u8 97, .int .u8 98, .int .u8 99, .int .u8 100, .int .u8 101] 5 (5, 6) rfl rfl (by decide)
  have hx3 : Ext No w3 (w3.alloc (.cells #[.int .u8 97, .int .u8 98, .int .u8 99, .int .u8 100, .int .u8 101] 5 (5, 6))) := (Ext.refl No w3).alloc _
  have hcx := HC3.out.ext hx3 (fun x => x) (fun x => x) (fun x => x) (fun x => x)
  refine (alls_any cb wb lb tb pA pA_ok _ [97, 98, 99, 100, 101] _ _ _ 9 _ hcx hb1 (by decide) ?_).mono ?_
  · intro k hk _
    have : w3.heap.size = k := Option.some.inj hk
    have := HC3.out.win.head.lt; have := HC3.out.win.row.lt; omega
  rintro e w4 ⟨x, st2, rfl, ho, hc4, hx4⟩
  rw [chunksA, show (9 : Int).toNat = 9 from rfl, show ([[97, 98], [99, 100], [101]] : List (List UInt8)).take 9 = [[97, 98], [99, 100], [101]] from rfl] at ho
  obtain ⟨a4, c4, hf4⟩ : ∃ a c, x = .slice a 3 c := by obtain ⟨f, ⟨a, c, h, -⟩, -⟩ := ho.rows; exact ⟨a, c, h⟩
  subst hf4
  have he4 : Ext No w w4 := (HX3.out.trans' hx3).trans hx4 (fun _ _ h => h) (fun i hi h => by have := HB.out; omega)
  have hr3 : IsRows w4 [[97, 98], [99, 100], [101]] (.slice a3 3 c3) :=
    ((HO3.out.ext hx3 (fun _ _ h => h)).ext hx4 (fun k hk h => by have := HLW.out; omega)).rows
  obtain ⟨b5, o5, x5, rfl, hc5, hb5⟩ := hr3.get 2 (by decide)
  obtain ⟨a6, c6, hf6⟩ : ∃ a c, x5 = .slice a 1 c := by obtain ⟨a, c, h, -⟩ := hb5; exact ⟨a, c, h⟩
  subst hf6
  have hcv := conv_bytes [101] _ _ _ _ hb5
  have HC4 := Lib.hid hc4; have HX4 := Lib.hid he4; clear hc4 ho he4 hx4 hcx hx3 hb1 HC3 HX3 hb5 hr3
  have hls : (strB [101]).toList = [101] := strB_list _
  go_wp2_with fail
  refine (first_any cb wb lb tb pA pA_ok _ [] _ w4 HC4.out (IsRow.nil w4 _) (by decide) (fun _ _ h => by simp at h)).mono ?_
  rintro e w5 ⟨st5, rfl, hc5', hx5⟩
  rw [firstLen_nil]
  have he5 : Ext No w w5 := HX4.out.trans hx5 (fun _ _ h => h) (fun i hi h => by have := HB.out; omega)
  have HC5 := Lib.hid hc5'; have HX5 := Lib.hid he5; clear hc5' hx5 he5 HC4 HX4
  go_wp2_with fail
  have hb1 := lit_bytes w5 [97, 98, 99] #[.int .u8 97, .int .u8 98, .int .u8 99] 3 (3, 4) rfl rfl (by decide)
  have hx3 : Ext No w5 (w5.alloc (.cells #[.int .u8 97, .int .u8 98, .int .u8 99] 5 (3, 4))) := (Ext.refl No w5).alloc _
  have hcx := HC5.out.ext hx3 (fun x => x) (fun x => x) (fun x => x) (fun x => x)
  refine (first_any cb wb lb tb pA pA_ok _ [97, 98, 99] _ _ hcx hb1 (by decide) ?_).mono ?_
  · intro k hk _
    have : w5.heap.size = k := Option.some.inj hk
    have := HC5.out.win.head.lt; have := HC5.out.win.row.lt; omega
  rintro e w6 ⟨st6, rfl, hc6, hx6⟩
  rw [firstLen_even pA rfl _ (by decide) (by decide), show min ([97, 98, 99] : List UInt8).length pA.mx = 2 from rfl]
  have he6 : Ext No w w6 := (HX5.out.trans' hx3).trans hx6 (fun _ _ h => h) (fun i hi h => by have := HB.out; omega)
  have HX6 := Lib.hid he6; clear hc6 hx6 he6 hx3 hcx hb1
  go_wp2_with fail
  go_ret
  exact ⟨rfl, HX6.out⟩

end Go.Proofs.Ytceiahjhfbghpaa
