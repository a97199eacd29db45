/- The contracts of the document's answer: Right, Split. -/
import Derived.Test.YtceiahjhfbghpaaChunkG
namespace Go.Proofs.Ytceiahjhfbghpaa
open Go.RowKit Go.My

attribute [local go_sem] w64_self w32_self

def RightI (mn mx bt wd : Int) : Prop := 1 ≤ mn ∧ mn ≤ mx ∧ mx ≤ 65536 ∧ 0 ≤ bt ∧ bt ≤ 20 ∧ 1 ≤ wd ∧ wd ≤ 64

set_option maxRecDepth 100000 in
set_option maxHeartbeats 4000000 in
theorem right_yes (mn mx bt wd : Int) (s : BitVec 64) (w : World) (h : RightI mn mx bt wd) :
    Calls Try.prog 9 #[prmVal mn mx bt wd s] w fun e w' => e = .returned (.bool true) ∧ Ext No w w' := by
  obtain ⟨h1, h2, h3, h4, h5, h6, h7⟩ := h
  have hx : Ext No w (w.alloc (.cells #[.int .i64 mn, .int .i64 mx, .int .i64 bt, .int .i64 wd, .int .u64 (w64 s)] 31)) := (Ext.refl No w).alloc _
  have HX := Lib.hid hx; clear hx
  unfold prmVal
  go_enter Try.func9, Try.ntmps9
  go_wp2_with fail
  go_ret
  exact ⟨rfl, HX.out⟩

set_option maxRecDepth 100000 in
set_option maxHeartbeats 4000000 in
theorem right_no (mn mx bt wd : Int) (s : BitVec 64) (w : World) (h : ¬ RightI mn mx bt wd) :
    Calls Try.prog 9 #[prmVal mn mx bt wd s] w fun e w' => e = .returned (.bool false) ∧ Ext No w w' := by
  have hx : Ext No w (w.alloc (.cells #[.int .i64 mn, .int .i64 mx, .int .i64 bt, .int .i64 wd, .int .u64 (w64 s)] 31)) := (Ext.refl No w).alloc _
  have HX := Lib.hid hx; clear hx
  unfold prmVal
  go_enter Try.func9, Try.ntmps9
  by_cases h1 : 1 ≤ mn
  · by_cases h2 : mn ≤ mx
    · by_cases h3 : mx ≤ 65536
      · by_cases h4 : 0 ≤ bt
        · by_cases h5 : bt ≤ 20
          · by_cases h6 : 1 ≤ wd
            · have h7 : ¬ wd ≤ 64 := fun h7 => h ⟨h1, h2, h3, h4, h5, h6, h7⟩
              clear h
              go_wp2_with fail
              go_ret
              exact ⟨by simp, HX.out⟩
            · clear h
              go_wp2_with fail
              go_ret
              exact ⟨rfl, HX.out⟩
          · clear h
            go_wp2_with fail
            go_ret
            exact ⟨rfl, HX.out⟩
        · clear h
          go_wp2_with fail
          go_ret
          exact ⟨rfl, HX.out⟩
      · clear h
        go_wp2_with fail
        go_ret
        exact ⟨rfl, HX.out⟩
    · clear h
      go_wp2_with fail
      go_ret
      exact ⟨rfl, HX.out⟩
  · clear h
    go_wp2_with fail
    go_ret
    exact ⟨rfl, HX.out⟩


theorem drop8a (a : Option Addr) (k len cap : Nat) (hk : k ≤ len) (w : World) : (Instr.sliceAt 25 (.slice a len cap) (some (.int .i64 k)) none none).run Try.prog w = .ok (.slice (dropA a k cap) (len - k) (cap - k)) w := by
  rw [run_dropS Try.underlying25 size8 a .i64 k len cap hk w, dropS_eq]
attribute [local go_sem] take8 drop8a

/-- windows of a slice -/
def Wins (w w' : World) (B : Nat) (v : Value) (ls : List (List UInt8)) (x : Value) : Prop :=
  ∃ xs, w'.ownsRow B 25 1 x ls.length xs ∧ ∀ i, i < ls.length → IsBytes w (ls.getD i []) (xs.getD i undef) ∧ ∀ j, (xs.getD i undef).ownBlock = some j → v.ownBlock = some j

structure SplitI (w wr : World) (p : Prm) (l : List UInt8) (v : Value) (m pb k o : Nat) (a' : Option Addr) (c' : Nat) (ar : Option Addr) (cr : Nat) : Prop where
  cut : CutAt p l k o
  rest : IsBytes w (l.drop o) (.slice a' (m - o) c')
  own : ∀ j, (Value.slice a' (m - o) c').ownBlock = some j → v.ownBlock = some j
  out : Wins w wr w.heap.size v ((chunks p l).take k) (.slice ar k cr)
  box : Blk wr pb #[.int .i64 p.mn, .int .i64 p.mx, .int .i64 p.bt, .int .i64 p.wd, .int .u64 (w64 p.sd)] 31
  ext : Ext No w wr

set_option maxRecDepth 100000 in
set_option maxHeartbeats 4000000 in
theorem refSplit_any (p : Prm) (hp : p.Ok) (l : List UInt8) (a : Option Addr) (m cap : Nat) (w : World) (hv : IsBytes w l (.slice a m cap)) (hl : l.length ≤ 1099511627776) :
    Calls Try.prog 10 #[prmVal p.mn p.mx p.bt p.wd p.sd, .slice a m cap] w fun e w' => ∃ x, e = .returned x ∧ Wins w w' w.heap.size (.slice a m cap) (chunks p l) x ∧ Ext No w w' := by
  have hm := hv.len
  have hcc := (IsRow.len hv).2
  have HV := Lib.hid hv; have HM := Lib.hid hm; have HP := Lib.hid hp; have HL := Lib.hid hl; clear hv hm hp hl
  have hb0 : Blk (w.alloc (.cells #[.int .i64 p.mn, .int .i64 p.mx, .int .i64 p.bt, .int .i64 p.wd, .int .u64 (w64 p.sd)] 31)) w.heap.size #[.int .i64 p.mn, .int .i64 p.mx, .int .i64 p.bt, .int .i64 p.wd, .int .u64 (w64 p.sd)] 31 := Blk.new w _ _
  have HB0 := Lib.hid hb0; clear hb0
  unfold prmVal
  go_enter Try.func10, Try.ntmps10
  go_wp2_with fail
  go_loopw [1, 5, 6] (fun b out _ wr => ∃ (k o : Nat) (a' : Option Addr) (c' : Nat) (ar : Option Addr) (cr : Nat), b = .slice a' (m - o) c' ∧ out = .slice ar k cr ∧ SplitI w wr p l (.slice a m cap) m w.heap.size k o a' c' ar cr) (fun b _ _ _ => lenOf b)
  case atStart =>
    refine ⟨0, 0, a, cap, _, _, rfl, rfl, CutAt.start p l, by rw [List.drop_zero, Nat.sub_zero]; exact HV.out, fun j h => h, ⟨[], ?_, fun i hi => by simp at hi⟩, HB0.out.alloc _, ((Ext.refl No w).alloc _).alloc _⟩
    exact ⟨rfl, .inr ⟨w.heap.size + 1, 0, #[], rfl, by omega, by have := Blk.new (w.alloc (.cells #[.int .i64 p.mn, .int .i64 p.mx, .int .i64 p.bt, .int .i64 p.wd, .int .u64 (w64 p.sd)] 31)) #[] 25; rw [World.size_alloc] at this; exact this, by simp, by decide, by simp, by simp⟩⟩
  case round =>
    obtain ⟨k, o, a', c', ar, cr, rfl, rfl, hI⟩ := hrel
    have hd0 := hI.box.cell 0; have hd1 := hI.box.cell 1; have hd2 := hI.box.cell 2; have hd3 := hI.box.cell 3; have hd4 := hI.box.cell 4
    simp only [List.getElem?_toArray, List.getElem?_cons_succ, List.getElem?_cons_zero] at hd0 hd1 hd2 hd3 hd4
    have hrc := (IsRow.len hI.rest).2
    have HI := Lib.hid hI; clear hI
    by_cases hlt : o < m
    · have hml : m - o ≤ 9223372036854775807 := by have := HM.out; have := HL.out; omega
      have hpos : 0 < m - o := by omega
      go_wp2_with fail
      have hpr : prmVal p.mn p.mx p.bt p.wd p.sd = .agg #[.int .i64 p.mn, .int .i64 p.mx, .int .i64 p.bt, .int .i64 p.wd, .int .u64 (w64 p.sd)] := rfl
      have hc := refFirst_any p HP.out (l.drop o) (.slice a' (m - o) c') wr (HI.out.rest.ext0 HI.out.ext) (by have := HL.out; rw [List.length_drop]; omega)
      rw [hpr] at hc
      refine hc.mono ?_
      rintro e w2 ⟨rfl, hx2⟩
      clear hc hpr hd0 hd1 hd2 hd3 hd4
      have hfp := firstLen_pos p (l.drop o) HP.out (by rw [List.length_drop]; have := HM.out; omega)
      have hfl := firstLen_le p (l.drop o)
      rw [List.length_drop] at hfl
      have hkl := chunks_len p HP.out l
      obtain ⟨hkN, hget, -, hle, hnext⟩ := HI.out.cut.here HP.out (by rw [← HM.out]; exact hlt)
      obtain ⟨xs, hox, hex⟩ := HI.out.out
      have htk : ((chunks p l).take k).length = k := by rw [List.length_take]; omega
      rw [htk] at hox hex
      have hbx2 := HI.out.box.ext hx2 (fun x => x)
      have hox2 := own_ext hox hx2 (fun _ _ x => x)
      have hf1 : firstLen p (l.drop o) ≤ c' := by have := HM.out; omega
      have hf2 : firstLen p (l.drop o) ≤ m - o := by have := HM.out; omega
      have hrest := HI.out.rest.dropS (firstLen p (l.drop o)) hf2
      rw [dropS_eq, List.drop_drop, show m - o - firstLen p (l.drop o) = m - (o + firstLen p (l.drop o)) by omega] at hrest
      have helt := HI.out.rest.take (firstLen p (l.drop o)) hf2
      rw [← hget] at helt
      have hll := HL.out
      have hN : k + 1 ≤ 9223372036854775807 ∧ (k + 1) * 24 ≤ 140737488355328 := by omega
      have hE := HI.out.ext.trans' hx2
      generalize firstLen p (l.drop o) = f at *
      have hoa := hox2.alloc (.cells #[.slice a' f c'] 25)
      have hba := hbx2.alloc (.cells #[.slice a' f c'] 25)
      have HOA := Lib.hid hoa; have HBA := Lib.hid hba; have HNB := Lib.hid (own_ne_type hoa hba (by decide)); have HN := Lib.hid hN; have HE := Lib.hid hE
      have HZ := Lib.hid (show w.heap.size ≤ (w2.alloc (.cells #[.slice a' f c'] 25)).heap.size by have := hE.size; rw [World.size_alloc]; omega)
      have HH := Lib.hid (And.intro hkN (And.intro hget (And.intro hnext (And.intro hex (And.intro hrest (And.intro helt hfp))))))
      clear hkN hget hle hnext hox hex htk hbx2 hox2 hrest helt hll hN hE hoa hba hx2 hkl hfl
      clear hfp
      go_wp2_with (at_builtin; refine wpList_app1 _ _ rfl _ _ 33 rfl w.heap.size 25 _ _ sl_info Try.underlying33 rfl _ _ _ rfl HOA.out _ rfl (cell_new _ _ _ rfl) rfl HN.out.1 HN.out.2 HZ.out ?_; intro v' w3 hown hgrow; obtain ⟨a6, c6, rfl⟩ := own_form hown)
      obtain ⟨hkN, hget, hnext, hex, hrest, helt, hfp⟩ := HH.out
      have hcl : (chunks p l).take (k + 1) = (chunks p l).take k ++ [(chunks p l).getD k []] := by
        rw [List.take_add_one, List.getElem?_eq_getElem hkN]
        simp [List.getD_eq_getElem?_getD, List.getElem?_eq_getElem hkN]
      have htk : ((chunks p l).take k).length = k := by rw [List.length_take]; omega
      have hxl : xs.length = k := by have := HOA.out.1; omega
      go_roundw
      case rel =>
        refine ⟨k + 1, o + f, dropA a' f c', c' - f, a6, c6, by rw [dropA_def, show m - o - f = m - (o + f) by omega], rfl, hnext, hrest, fun j hj => ?_, ⟨xs ++ [.slice a' f c'], ?_, ?_⟩, HBA.out.grown hgrow HNB.out, ?_⟩
        · exact HI.out.own j (dropA_own a' f c' _ _ _ _ j hj)
        · rw [hcl, List.length_append, htk]; exact hown
        · intro i hi
          rw [hcl, List.length_append, htk, List.length_singleton] at hi
          by_cases hik : i < k
          · have e1 : ((chunks p l).take (k + 1)).getD i [] = ((chunks p l).take k).getD i [] := by rw [hcl]; simp [List.getD_eq_getElem?_getD, List.getElem?_append_left (show i < ((chunks p l).take k).length by omega)]
            have e2 : (xs ++ [Value.slice a' f c']).getD i undef = xs.getD i undef := by simp [List.getD_eq_getElem?_getD, List.getElem?_append_left (show i < xs.length by omega)]
            rw [e1, e2]; exact hex i hik
          · obtain rfl : i = k := by omega
            have e1 : ((chunks p l).take (i + 1)).getD i [] = (chunks p l).getD i [] := by simp [List.getD_eq_getElem?_getD, List.getElem?_take]
            have e2 : (xs ++ [Value.slice a' f c']).getD i undef = .slice a' f c' := by rw [← hxl]; simp [List.getD_eq_getElem?_getD]
            rw [e1, e2]
            refine ⟨helt, fun j hj => HI.out.own j ?_⟩
            cases a' with
            | none => cases hj
            | some x => exact hj
        · exact (HE.out.alloc _).grown hgrow (fun j hj h => by have := (World.ownsRow.lt HOA.out j hj).1; omega)
      case measure => show m - o - f < m - o; omega
    · have hrel := HI.out
      clear hd0 hd1 hd2 hd3 hd4 HI
      have HI := Lib.hid hrel; clear hrel
      go_wp2_with fail
      go_ret
      have hkn : (chunks p l).take k = chunks p l := List.take_of_length_le (HI.out.cut.done (by have := HM.out; omega))
      have ho := HI.out.out
      rw [hkn] at ho
      exact ⟨_, rfl, ho, HI.out.ext⟩

end Go.Proofs.Ytceiahjhfbghpaa
